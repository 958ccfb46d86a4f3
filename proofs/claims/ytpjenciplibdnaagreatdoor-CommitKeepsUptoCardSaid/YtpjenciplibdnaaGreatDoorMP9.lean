/-
  A commit's laying of a view, bucket by bucket, and of its directory: plain laws; A commit's laying of a view: what it comes to: plain laws; What is listed, as the document has it; what is small; pools as the document has them; the same; Whether a pool may be; Pages that are released, given and taken; The plain laws of what is released; The plain laws of what is taken and given; The plain laws of pages that are had; Views as the program has them, of the reference's; the trees of a view, one by one; How many pages a view takes, which it has, and which another one has lost: the program; What a view has lost, what a commit of it takes, and whether it has room: the program; What a commit of a view takes, and whether it has room: the program; the law's example; A label's versions, and what a commit makes of one: plain laws; A commit's plan: it has room for all that it does, and what it makes may be: plain laws; Pages of a list: which may be, and whether they are apart: what the program computes; A list's pages: what the program computes; A version's meta: what may be, and its page: what the program computes; A row of bytes that is written out, and turned to its own type: the run-time marks it; A meta's page: what the program computes; The document's example on pools is met; A commit's work: what the program's steps make of it; A commit's last step: its list; Numbers taken from a text, by the reference; A meta's page, as the reference puts and gets it; A commit's buckets are laid, one by one; A commit's plan: what the program computes; What is done to a version's view, step by step: plain laws; A version's pages are all pages; what begins; what its meta tells: plain laws. By an AI agent.
-/
import Derived.Test.YtpjenciplibdnaaGreatDoorMP5
import Derived.Test.YtpjenciplibdnaaGreatDoorMP7
import Derived.Test.YtpjenciplibdnaaGreatDoorMP8
import Derived.Test.YtpjenciplibdnaaGreatDoorMP6
import Derived.Test.YtpjenciplibdnaaGreatDoorMP4
import Derived.Lib.SlBytesConst
set_option linter.unusedVariables false
set_option linter.unusedSimpArgs false
set_option maxRecDepth 100000
set_option maxHeartbeats 16000000
namespace Go.Proofs.YtpjenciplibdnaaGreatDoor
open Aml Go
def rr(n:N)(key:ByteArray)(p:Int):N:=if(cF key n).getD aZ=bF 2 p then n else ld key (bF 2 p) n
structure CS where
 l:List C
 n:N
 q:List Int
 w:List (Int×ByteArray)
def H7(s:CS)(c:C):CS:=⟨s.l++[af c.key (bA (ay c) (s.q,[])).1],rr s.n c.key (bA (ay c) (s.q,[])).1.ak,(bA (ay c) (s.q,[])).2.1,s.w++(bA (ay c) (s.q,[])).2.2⟩
def eP(l:List C)(n:N)(q:List Int):CS:=l.foldl H7 ⟨[],n,q,[]⟩
theorem xc{l:List C}{k:Nat}{c:C}(h:l[k]? =some c)(n:N)(q:List Int):eP (l.take (k+1)) n q=H7 (eP (l.take k) n q) c:=by
 unfold eP
 rw[List.take_add_one,h,Option.toList_some,List.foldl_append];rfl
def Bq(l:List C)(k v:ByteArray):Prop:=∃c,c∈l∧c.key=k∧dg (ay c)=0∧v=bF 2 (ay c).ak
theorem pI{l:List C}(h:dj l){a b:C}(ha:a∈l)(hb:b∈l)(e:a.key=b.key):a=b:=by
 obtain⟨i,hi⟩:=List.mem_iff_getElem?.1 ha
 obtain⟨j,hj⟩:=List.mem_iff_getElem?.1 hb
 obtain⟨u1,e1⟩:=List.getElem?_eq_some_iff.1 hi
 obtain⟨u2,e2⟩:=List.getElem?_eq_some_iff.1 hj
 have hp:=List.pairwise_iff_getElem.1 h
 rcases Nat.lt_trichotomy i j with q|q|q
 ·have:=hp i j u1 u2 q
  rw[e1,e2,e,cK]at this;cases this
 ·subst q;rw[←e1,←e2]
 ·have:=hp j i u2 u1 q
  rw[e1,e2,e,cK]at this;cases this
theorem MO{d:Nat}{n:N}(hg:Good d n){l:List C}{f:ByteArray→ByteArray}(hr:dj l)(he:de n=l.map (cV f)){c:C}(hc:c∈l):(cF c.key n).getD aZ=f c.key:=by
 rw[nM c.key hg,he]
 have:(l.map (cV f)).find? (fun x=>fh x.key c.key)=some (cV f c):=by
  cases h:(l.map (cV f)).find? fun x=>fh x.key c.key with
  |none=>
   have:=List.find?_eq_none.1 h (cV f c) (List.mem_map.2 ⟨c,hc,rfl⟩)
   exact absurd (cR.2 rfl) this
  |some y=>
   have h1:=List.mem_of_find?_eq_some h
   have h2:fh y.key c.key=true:=List.find?_some (p:=fun x:C=>fh x.key c.key) h
   have h2:=cR.1 h2
   obtain⟨x,hx,rfl⟩:=List.mem_map.1 h1
   rw[pI hr hx hc h2]
 rw[this];rfl
structure PV(k:Nat)(n:N)(l:List C)(q:List Int):Prop where
 vi:VI k n l
 tv:TV (n,l)
 nd:(gS (n,l)++q).Nodup
 qh:∀p,p∈gS (n,l)++q→2≤p∧p≤999
 fr:eu (n,l)≤q.length
 cl:kE (Bq l) n
structure CJ(k:Nat)(n:N)(l:List C)(q:List Int)(j:Nat)(s:CS):Prop where
 len:s.l.length=j
 keys:s.l.map C.key=(l.take j).map C.key
 cell:∀(i:Nat) c x,(l.take j)[i]? =some c→s.l[i]? =some x→x=af c.key (ay x)∧TB k (ay x)∧TL (ay x)∧dg (ay x)=0∧gm (ay x)=gm (ay c)
 tb:TB k s.n
 tl:TL s.n
 fr:dg s.n=dg n
 Zn:bX s.n=bX n
 cl:kE (Bq l) s.n
 en:∃f:ByteArray→ByteArray,(∀k,(f k).size=2)∧de s.n=l.map (cV f)∧∀x,x∈s.l→f x.key=bF 2 (ay x).ak
 left:s.q=q.drop (nF (l.take j))
 wr:s.w.map (·.1)=q.take (nF (l.take j))
 sz:∀x,x∈s.w→x.2.size=128
 al:(qj s.l).Perm (qj (l.take j)++q.take (nF (l.take j)))
theorem Qz{k:Nat}{n:N}{l:List C}{q:List Int}(h:PV k n l q):CJ k n l q 0 (eP (l.take 0) n q):=by
 obtain⟨f,hf,he⟩:=h.vi.en
 have hz:nF (l.take 0)=0:=rfl
 refine⟨rfl,rfl,fun i c x h1 h2=>(by simp at h1),h.vi.dir,h.tv.dir,rfl,rfl,h.cl,⟨f,hf,he,fun x hx=>(by cases hx)⟩,by rw[hz];rfl,by rw[hz];rfl,fun x hx=>(by cases hx),by rw[hz];exact .refl _⟩
theorem Uo{l:List C}{j:Nat}{c:C}(h:l[j]? =some c):nF (l.take (j+1))=nF (l.take j)+dg (ay c):=by
 rw[List.take_add_one,h,Option.toList_some,Bv]
theorem Ug{l:List C}{j:Nat}{c:C}(h:l[j]? =some c):qj (l.take (j+1))=qj (l.take j)++bX (ay c):=by
 rw[List.take_add_one,h,Option.toList_some,pW]
 simp[qj]
theorem Fa{l:List C}{c:C}(h:c∈l):(bX (ay c)).Sublist (qj l):=by
 obtain⟨A,B,rfl⟩:=List.append_of_mem h
 unfold qj
 rw[List.flatMap_append,List.flatMap_cons]
 exact(List.sublist_append_left _ _).trans (List.sublist_append_right _ _)
theorem N8{l:List C}{f:ByteArray→ByteArray}{c:C}{v:ByteArray}(hr:dj l)(hc:c∈l):o0 c.key v (l.map (cV f))=l.map (cV (vA f c.key v)):=by
 obtain⟨A,B,rfl⟩:=List.append_of_mem hc
 unfold dj at hr
 rw[List.pairwise_append,List.pairwise_cons]at hr
 have h1:∀a,a∈A→cI a.key c.key=true:=fun a ha=>hr.2.2 a ha c List.mem_cons_self
 have h2:∀b,b∈B→cI c.key b.key=true:=hr.2.1.1
 have:=xe (name:=c.key) (val:=v) (A:=A.map (cV f)) (B:=B.map (cV f)) (M:=[cV f c]) (map_lt h1) (xP h2) (fun m hm=>by rw[List.mem_singleton]at hm;subst hm;rfl)
 rw[List.map_append,List.map_cons]
 rw[show A.map (cV f)++cV f c::B.map (cV f)=A.map (cV f)++[cV f c]++B.map (cV f)by simp,this,List.map_append,List.map_cons,lx fun a ha=>bP (h1 a ha),lx (A:=B) fun b hb=>(bP (h2 b hb)).symm,xW (c:=c) (x:=c.key) rfl]
theorem P3{k:Nat}{n:N}{l:List C}{f:ByteArray→ByteArray}{P:ByteArray→ByteArray→Prop}{c:C}{v:ByteArray}(htb:TB k n)(htl:TL n)(hcl:kE P n)(hf:∀k,(f k).size=2)(he:de n=l.map (cV f))(hr:dj l)(hc:c∈l)(hk:gE c.key=true)(hv:v.size=2)(hp:¬P c.key (f c.key)):
 TB k (ld c.key v n)∧TL (ld c.key v n)∧kE P (ld c.key v n)∧dg (ld c.key v n)=dg n∧bX (ld c.key v n)=bX n∧de (ld c.key v n)=l.map (cV (vA f c.key v)):=by
 obtain⟨hne,hsz⟩:=dp hk
 obtain⟨⟨d,hg,hs,h2⟩,d1,hg1,hd1,ht1⟩:=htb
 have hdd:=oW (aw hg) (aw hg1)
 subst hdd
 have hx:cV f c∈de n:=by rw[he];exact List.mem_map.2 ⟨c,hc,rfl⟩
 obtain⟨i1,i2,i3,i4⟩:=LA hsz (by omega:v.size≤16) hg hs h2 hcl hx rfl hp (by show(f c.key).size=_;rw[hf,hv])
 obtain⟨hr1,hen⟩:=kF (val:=v) hne hsz (by omega) ⟨d,hg,hs,h2⟩
 obtain⟨e,hge,hse,h2e⟩:=hr1
 have hnd:=gJ hsz (by omega:v.size≤400) (aw hg)
 rw[←i1]at hnd
 have hde:=oW (aw hge) hnd
 subst hde
 refine⟨⟨⟨_,hge,hse,h2e⟩,_,hge,hd1,by rw[i4];exact ht1⟩,yz htl hne hsz (by omega),nL (aw hge) (fun _ _ h=>h.1) (Ea hsz (by omega) hg hcl),i2,i3,?_⟩
 rw[hen,he,N8 hr hc]
theorem E7{k:Nat}{n:N}{l:List C}{q:List Int}{j:Nat}{s:CS}{c:C}(h:PV k n l q)(hc:l[j]? =some c)(hs:CJ k n l q j s):oM (ay c) s.q∧(∃M R W,Ld k (ay c) s.q M R W)∧CJ k n l q (j+1) (H7 s c):=by
 have hcm:=List.mem_of_getElem? hc
 obtain⟨hce,htb,hok⟩:=h.vi.cell c hcm
 have htl:=h.tv.cell c hcm
 have hnd:=h.nd
 have hsub:(bX (ay c)).Sublist (gS (n,l)):=(Fa hcm).trans (List.sublist_append_right _ _)
 have hqs:s.q.Sublist q:=by rw[hs.left];exact List.drop_sublist _ _
 have hfr:=Uo hc
 have hle:=A7 l (j+1)
 have hfq:=h.fr
 have hfv:eu (n,l)=dg n+nF l:=rfl
 have hql:s.q.length=q.length-nF (l.take j):=by rw[hs.left,List.length_drop]
 have hbt:BT k (ay c):=⟨htb,htl,(List.nodup_append.1 hnd).1.sublist hsub,fun p hp=>h.qh p (List.mem_append_left _ (hsub.subset hp))⟩
 have hm:oM (ay c) s.q:=⟨(List.perm_append_comm.nodup_iff.1 hnd).sublist (hqs.append hsub),fun p hp=>by
  rcases List.mem_append.1 hp with hp|hp
  ·exact h.qh p (List.mem_append_right _ (hqs.subset hp))
  ·exact h.qh p (List.mem_append_left _ (hsub.subset hp)),by omega⟩
 obtain⟨M,R,W,hd⟩:=R0 hbt hm
 refine⟨hm,⟨M,R,W,hd⟩,?_⟩
 have ek:H7 s c=⟨s.l++[af c.key M],rr s.n c.key M.ak,R,s.w++W⟩:=by unfold H7;rw[hd.eq]
 rw[ek]
 obtain⟨f,hf,hen,hfx⟩:=hs.en
 obtain⟨d,hg,hsz,h2⟩:=hs.tb.1
 have hfind:=MO hg h.vi.bW hen hcm
 have hkey:∀x,x∈s.l→x.key≠c.key:=fun x hx e=>by
  have hxk:x.key∈(l.take j).map C.key:=by rw[←hs.keys];exact List.mem_map.2 ⟨x,hx,rfl⟩
  obtain⟨y,hy,e2⟩:=List.mem_map.1 hxk
  have hyc:=pI h.vi.bW (List.mem_of_mem_take hy) hcm (e2.trans e)
  obtain⟨i,hi⟩:=List.mem_iff_getElem?.1 hy
  have hij:i<j:=by have:=(List.getElem?_eq_some_iff.1 hi).1;rw[List.length_take]at this;omega
  rw[List.getElem?_take,if_pos hij,hyc]at hi
  obtain⟨u1,e1⟩:=List.getElem?_eq_some_iff.1 hi
  obtain⟨u2,e3⟩:=List.getElem?_eq_some_iff.1 hc
  have:=(List.pairwise_iff_getElem.1 h.vi.bW) i j u1 u2 hij
  rw[e1,e3,cK]at this;cases this
 have hdir:TB k (rr s.n c.key M.ak)∧TL (rr s.n c.key M.ak)∧kE (Bq l) (rr s.n c.key M.ak)∧dg (rr s.n c.key M.ak)=dg s.n∧bX (rr s.n c.key M.ak)=bX s.n∧
  ∃f:ByteArray→ByteArray,(∀k,(f k).size=2)∧de (rr s.n c.key M.ak)=l.map (cV f)∧(∀x,x∈s.l→f x.key=bF 2 (ay x).ak)∧f c.key=bF 2 M.ak:=by
  unfold rr
  by_cases e:(cF c.key s.n).getD aZ=bF 2 M.ak
  ·rw[if_pos e]
   exact⟨hs.tb,hs.tl,hs.cl,rfl,rfl,f,hf,hen,hfx,hfind.symm.trans e⟩
  ·rw[if_neg e]
   have hno:¬Bq l c.key (f c.key):=by
    rintro⟨c',h1,h2,h3,h4⟩
    have:=pI h.vi.bW h1 hcm h2
    subst this
    obtain⟨d',hn'⟩:=tV htl
    have e2:=Ik hn' h3 (s.q,[])
    rw[hd.eq]at e2
    have:M=ay c':=congrArg Prod.fst e2
    rw[hfind,this]at e
    exact e h4
   obtain⟨p1,p2,p3,p4,p5,p6⟩:=P3 (v:=bF 2 M.ak) hs.tb hs.tl hs.cl hf hen h.vi.bW hcm hok (aC _ _) hno
   exact⟨p1,p2,p3,p4,p5,_,rm hf (aC _ _),p6,fun x hx=>by rw[EO (hkey x hx)];exact hfx x hx,FP⟩
 obtain⟨p1,p2,p3,p4,p5,g,g1,g2,g3,g4⟩:=hdir
 refine⟨by rw[List.length_append,hs.len];rfl,by rw[List.take_add_one,hc,Option.toList_some,List.map_append,List.map_append,hs.keys];rfl,fun i a x h1 h2=>?_,p1,p2,p4.trans hs.fr,p5.trans hs.Zn,p3,⟨g,g1,g2,fun x hx=>?_⟩,?_,?_,fun x hx=>?_,?_⟩
 ·by_cases hi:i<j
  ·rw[List.getElem?_append_left (by rw[hs.len];exact hi)]at h2
   refine hs.cell i a x ?_ h2
   rw[List.getElem?_take,if_pos (by omega)]at h1
   rw[List.getElem?_take,if_pos hi];exact h1
  ·have hi2:i=j:=by
    have:=(List.getElem?_eq_some_iff.1 h1).1
    rw[List.length_take]at this;omega
   subst hi2
   rw[List.getElem?_append_right (by rw[hs.len];exact Nat.le_refl _),hs.len,Nat.sub_self]at h2
   cases h2
   rw[List.getElem?_take,if_pos (by omega),hc]at h1
   cases h1
   exact⟨rfl,hd.bt.tb,hd.bt.tl,hd.fr,hd.en⟩
 ·rcases List.mem_append.1 hx with hx|hx
  ·exact g3 x hx
  ·rw[List.mem_singleton]at hx;subst hx;exact g4
 ·rw[hd.left,hs.left,List.drop_drop,hfr]
 ·rw[List.map_append,hs.wr,hd.pg,hs.left,hfr,List.take_add]
 ·exact(List.mem_append.1 hx).elim (hs.sz x) (hd.sz x)
 ·rw[pW,Ug hc,hfr,List.take_add]
  have e1:qj [af c.key M]=bX M:=by simp[qj,wA]
  rw[e1]
  have:=hd.al
  rw[hs.left]at this
  exact(hs.al.append this).trans (Cc _ _ _ _)
theorem xf{k:Nat}{n:N}{l:List C}{q:List Int}(h:PV k n l q):∀j,j≤l.length→CJ k n l q j (eP (l.take j) n q)
 |0,_=>Qz h
 |j+1,hj=>by
  have hc:l[j]? =some l[j]:=List.getElem?_eq_getElem (by omega)
  rw[xc hc]
  exact(E7 h hc (xf h j (by omega))).2.2
theorem Kj{d:Nat}{n:N}(hn:Nd d n)(h:dg n≠0)(q:LS):∃A b,(bA n q).2.2=A++[((bA n q).1.ak,b)]:=by
 have h0:¬(n.ak≠0∨(n.leaf=true∧n.l=[])):=fun e=>h (by
  rw[eQ hn]
  rcases e with e|e
  ·rw[if_pos e]
  ·rw[if_pos e];split <;>rfl)
 rw[dF,if_neg h0]
 exact⟨_,_,rfl⟩
theorem Mv{k:Nat}{n:N}{l:List C}(hv:VI k n l)(hcl:kE (Bq l) n)(h:dg n=0):nF l=0:=by
 obtain⟨hr,d,hg,hd,ht⟩:=hv.dir
 obtain⟨f,hf,hen⟩:=hv.en
 have hz:∀c,c∈l→dg (ay c)=0:=fun c hc=>by
  have he:cV f c∈de n:=by rw[hen];exact List.mem_map.2 ⟨c,hc,rfl⟩
  rw[eQ (aw hg)]at h
  have hp:n.ak≠0:=fun e=>by
   rw[if_neg (fun z=>z e)]at h
   by_cases hq:n.leaf=true∧n.l=[]
   ·rw[cm hq.1,hq.2]at he;cases he
   ·rw[if_neg hq]at h;omega
  obtain⟨c',h1,h2,h3,_⟩:=hcl.one hp _ he
  rw[pI hv.bW h1 hc h2]at h3
  exact h3
 unfold nF
 clear hv hcl hen
 induction l with
 |nil=>rfl
 |cons c l ih=>
  rw[List.map_cons,List.sum_cons,hz c List.mem_cons_self,ih fun x hx=>hz x (List.mem_cons_of_mem _ hx)]
structure PA(k:Nat)(n:N)(l:List C)(q:List Int)(M:N)(X:List C)(R:List Int)(W:List (Int×ByteArray)):Prop where
 vi:VI k M X
 tv:TV (M,X)
 fr:eu (M,X)=0
 al:(gS (M,X)).Perm (gS (n,l)++q.take (eu (n,l)))
 cl:kE (Bq X) M
 left:R=q.drop (eu (n,l))
 wr:W.map (·.1)=q.take (eu (n,l))
 sz:∀x,x∈W→x.2.size=128
 keys:X.map C.key=l.map C.key
 Y0:∀(i:Nat) c x,l[i]? =some c→X[i]? =some x→gm (ay x)=gm (ay c)
 last:eu (n,l)≠0→∃A b,W=A++[(M.ak,b)]
theorem Nh{k:Nat}{n:N}{l:List C}{q:List Int}(h:PV k n l q):oM (eP l n q).n (eP l n q).q∧BT k (eP l n q).n∧∃M R W,Ld k (eP l n q).n (eP l n q).q M R W∧PA k n l q M (eP l n q).l R ((eP l n q).w++W):=by
 have hs:=xf h l.length (Nat.le_refl _)
 rw[List.take_length]at hs
 generalize eP l n q=s at*
 have hnd:=h.nd
 have hql:s.q.length=q.length-nF l:=by rw[hs.left,List.take_length,List.length_drop]
 have hfq:=h.fr
 have hfv:eu (n,l)=dg n+nF l:=rfl
 have hqs:s.q.Sublist q:=by rw[hs.left];exact List.drop_sublist _ _
 have hsub:(bX s.n).Sublist (gS (n,l)):=by rw[hs.Zn];exact List.sublist_append_left _ _
 have hbt:BT k s.n:=⟨hs.tb,hs.tl,(List.nodup_append.1 hnd).1.sublist hsub,fun p hp=>h.qh p (List.mem_append_left _ (hsub.subset hp))⟩
 have hfs:=hs.fr
 have hm:oM s.n s.q:=⟨(List.perm_append_comm.nodup_iff.1 hnd).sublist (hqs.append hsub),fun p hp=>by
  rcases List.mem_append.1 hp with hp|hp
  ·exact h.qh p (List.mem_append_right _ (hqs.subset hp))
  ·exact h.qh p (List.mem_append_left _ (hsub.subset hp)),by omega⟩
 obtain⟨M,R,W,hd⟩:=R0 hbt hm
 refine⟨hm,hbt,M,R,W,hd,?_⟩
 obtain⟨f,hf,hen,hfx⟩:=hs.en
 have hkeys:s.l.map C.key=l.map C.key:=by have:=hs.keys;rwa [List.take_length]at this
 have hmap:l.map (cV f)=s.l.map (cV f):=by
  have e:∀l:List C,l.map (cV f)=(l.map C.key).map fun k=>C.mk k (f k) [] []:=fun l=>by rw[List.map_map];rfl
  rw[e,e,hkeys]
 obtain⟨d,hg,hsz,h2⟩:=hs.tb.1
 have hnm:=aw hg
 have heM:de M=s.l.map (cV f):=by
  have:=xb (s.q,[]) hnm fun x hx=>by
   rw[hen]at hx
   obtain⟨c,_,rfl⟩:=List.mem_map.1 hx
   have:=hf c.key
   show(f c.key).size≤16
   omega
  rw[hd.eq]at this
  rw[this,hen,hmap]
 have hcell:∀x,x∈s.l→∃c,c∈l∧x=af c.key (ay x)∧TB k (ay x)∧TL (ay x)∧dg (ay x)=0:=fun x hx=>by
  obtain⟨i,hi⟩:=List.mem_iff_getElem?.1 hx
  have hil:i<l.length:=by have:=(List.getElem?_eq_some_iff.1 hi).1;have:=hs.len;omega
  have hc:l[i]? =some l[i]:=List.getElem?_eq_getElem hil
  obtain⟨a1,a2,a3,a4,a5⟩:=hs.cell i _ x (by rw[List.take_length];exact hc) hi
  exact⟨_,List.mem_of_getElem? hc,a1,a2,a3,a4⟩
 have hrise:dj s.l:=by
  have h1:(l.map C.key).Pairwise fun a b=>cI a b=true:=List.pairwise_map.2 h.vi.bW
  rw[←hkeys]at h1
  exact List.pairwise_map.1 h1
 have hfl:nF s.l=0:=by
  unfold nF
  have:∀X:List C,(∀x,x∈X→dg (ay x)=0)→(X.map fun c=>dg (ay c)).sum=0:=fun X=>by
   induction X with
   |nil=>intro _;rfl
   |cons c X ih=>intro hX;rw[List.map_cons,List.sum_cons,hX c List.mem_cons_self,ih fun x hx=>hX x (List.mem_cons_of_mem _ hx)]
  exact this _ fun x hx=>by obtain⟨_,_,_,_,_,e⟩:=hcell x hx;exact e
 obtain⟨dM,hnM⟩:=tV hd.bt.tl
 refine⟨⟨hd.bt.tb,hrise,fun x hx=>?_,by rw[hs.len];exact h.vi.len,f,hf,heM⟩,⟨hd.bt.tl,fun x hx=>by obtain⟨_,_,_,_,e,_⟩:=hcell x hx;exact e⟩,?_,?_,?_,?_,?_,fun x hx=>?_,hkeys,fun i c x h1 h2=>?_,fun hf0=>?_⟩
 ·obtain⟨c,hc,e1,e2,e3,e4⟩:=hcell x hx
  have e5:x.key=c.key:=by rw[e1];rfl
  exact⟨by rw[e5];exact e1,e2,by rw[e5];exact(h.vi.cell c hc).2.2⟩
 ·show dg M+nF s.l=0
  rw[hd.fr,hfl]
 ·have h1:=hd.al
  have h2:=hs.al
  rw[List.take_length]at h2
  rw[hs.Zn,hs.fr,hs.left,List.take_length]at h1
  show(bX M++qj s.l).Perm ((bX n++qj l)++q.take (dg n+nF l))
  rw[Nat.add_comm,List.take_add]
  exact(h1.append h2).trans ((Cc _ _ _ _).trans (List.Perm.append_left _ List.perm_append_comm))
 ·refine Ek hnM fun e he=>?_
  rw[heM]at he
  obtain⟨x,hx,rfl⟩:=List.mem_map.1 he
  obtain⟨_,_,_,_,_,e⟩:=hcell x hx
  exact⟨x,hx,rfl,e,hfx x hx⟩
 ·rw[hd.left,hs.left,List.take_length,List.drop_drop,hfs]
  show _=q.drop (dg n+nF l)
  rw[Nat.add_comm]
 ·rw[List.map_append,hs.wr,hd.pg,hs.left,List.take_length,hfs]
  show _=q.take (dg n+nF l)
  rw[Nat.add_comm,List.take_add]
 ·exact(List.mem_append.1 hx).elim (hs.sz x) (hd.sz x)
 ·exact(hs.cell i c x (by rw[List.take_length];exact h1) h2).2.2.2.2
 ·have hn0:dg s.n≠0:=fun e=>hf0 (by
   rw[hfs]at e
   show dg n+nF l=0
   rw[e,Mv h.vi h.cl e])
  obtain⟨A,b,e⟩:=Kj hnm hn0 (s.q,[])
  rw[hd.eq]at e
  have e:W=A++[(M.ak,b)]:=e
  exact⟨s.w++A,b,by rw[e,List.append_assoc]⟩
theorem Jb{l:List Wt}{k:Nat}{a:Wt}(h:l[k]? =some a):a.ai.length≤nW l:=by
 have h1:=FA h
 have h2:=Rs l (k+1)
 omega
def Small(p:Pl):Prop:=p.free.length+nW p.wait≤200∧p.wait.length≤40∧p.high<1048576∧ -4096<p.high
theorem Nc{a b:Pl}(h1:a.high=b.high)(h2:a.free=b.free)(h3:a.wait=b.wait):a=b:=by
 cases a;cases b;simp at *;exact⟨h1,h2,h3⟩
theorem SQ{a b:Wt}(h1:a.bD=b.bD)(h2:a.ai=b.ai):a=b:=by
 cases a;cases b;simp at *;exact⟨h1,h2⟩
theorem wat{p q:Pl}(e:p=q){k:Nat}{a c:Wt}(ha:p.wait[k]? =some a)(hc:q.wait[k]? =some c):a=c:=by subst e;exact bq ha hc
theorem Xx(w0:W0)(p q:Pl)(S:St)(h0:p.wait.length≤1048576)(h1:p.free.length≤1048576)(h2:nW p.wait≤1048576):aa Tryz.prog w0 47 [dP p,dP q] S (fun d S'=>d=dB (pB (p=q))∧S'=S):=by
 refine aY [] mx Tryz.func47 rfl rfl (by kernel_rfl) ?_;simp(maxDischargeDepth:=12) (maxSteps:=1000000) -implicitDefEqProofs only[Tryz.ntmps47,go_sem,Nat.reduceAdd,Nat.reduceSub,Nat.reduceMul,Nat.reduceLeDiff,Nat.reduceEqDiff,Nat.reduceGT,Nat.reduceBEq,reduceCtorEq,↓reduceIte,Int.reduceToNat,Int.reduceLE,Int.reduceLT,Int.reduceNe,Int.reduceEq]
 intro b b1
 refine⟨fun hne e=>hne (by rw[e]),fun he=>?_⟩
 refine aq (Rm w0 p.free q.free _ (by omega)) ?_
 simp(maxDischargeDepth:=12) (maxSteps:=1000000) -implicitDefEqProofs only[go_sem,Nat.reduceAdd,Nat.reduceSub,Nat.reduceMul,Nat.reduceLeDiff,Nat.reduceEqDiff,Nat.reduceGT,Nat.reduceBEq,reduceCtorEq,↓reduceIte,Int.reduceToNat,Int.reduceLE,Int.reduceLT,Int.reduceNe,Int.reduceEq]
 refine⟨fun hne e=>hne (by rw[e]),fun he2=>⟨fun hne e=>hne (by rw[e]),fun he3=>?_⟩⟩
 refine aA [] p.wait.length [2,3,5] (fun k=>[(5,dI k)]) (fun _=>⟨(b1.n,[dI q.high,dL q.free,.sl 2 false (q.wait.map dW)])::(b.n,[dI p.high,dL p.free,.sl 2 false (p.wait.map dW)])::S.box,S.acc⟩) (fun k=>p.wait.take k=q.wait.take k) mx (by kernel_rfl) ?_ ?_
 ·simp(maxDischargeDepth:=12) (maxSteps:=1000000) -implicitDefEqProofs only[go_sem,Nat.reduceAdd,Nat.reduceSub,Nat.reduceMul,Nat.reduceLeDiff,Nat.reduceEqDiff,Nat.reduceGT,Nat.reduceBEq,reduceCtorEq,↓reduceIte,Int.reduceToNat,Int.reduceLE,Int.reduceLT,Int.reduceNe,Int.reduceEq]
 ·intro k hk hup
  simp(maxDischargeDepth:=12) (maxSteps:=1000000) -implicitDefEqProofs only[go_sem,Nat.reduceAdd,Nat.reduceSub,Nat.reduceMul,Nat.reduceLeDiff,Nat.reduceEqDiff,Nat.reduceGT,Nat.reduceBEq,reduceCtorEq,↓reduceIte,Int.reduceToNat,Int.reduceLE,Int.reduceLT,Int.reduceNe,Int.reduceEq]
  refine⟨fun hlt=>⟨hlt,fun a ha=>⟨by omega,fun c hc=>⟨fun hne e=>hne (by rw[wat e ha hc]),fun ht=>⟨hlt,fun a2 ha2=>⟨by omega,fun c2 hc2=>?_⟩⟩⟩⟩⟩,fun hge=>?_⟩
  ·cases bq ha ha2
   cases bq hc hc2
   have:=Jb ha
   refine aT (Rm w0 a.ai c.ai _ (by omega)) ?_
   simp(maxDischargeDepth:=12) (maxSteps:=1000000) -implicitDefEqProofs only[go_sem,Nat.reduceAdd,Nat.reduceSub,Nat.reduceMul,Nat.reduceLeDiff,Nat.reduceEqDiff,Nat.reduceGT,Nat.reduceBEq,reduceCtorEq,↓reduceIte,Int.reduceToNat,Int.reduceLE,Int.reduceLT,Int.reduceNe,Int.reduceEq]
   exact⟨fun hne e=>hne (by rw[wat e ha hc]),fun hp=>⟨hlt,py hup ha hc (SQ (by omega) (Classical.byContradiction hp)),ba (by omega) (by omega)⟩⟩
  ·exact Nc (by omega) (Classical.byContradiction he2) (s7 hup he3 hge)
def zm(h:Int)(w:Wt):Prop:=w.ai=[]∨¬Row w.ai h
theorem SX(w0:W0)(w:Wt)(S:St)(b:Nat)(h:Int)(ds:List DV)(hb:lk S.box b=some (dI h::ds))(h0:w.ai.length≤1048576):aa Tryz.prog w0 102 [dW w,.v (.pointer (some ⟨b,0,none⟩))] S (fun d S'=>d=dB (pB (zm h w))∧S'=S):=by
 refine aY [] mx Tryz.func102 rfl rfl (by kernel_rfl) ?_;simp only[Tryz.ntmps102,List.length_cons,List.length_nil,Nat.reduceAdd,Nat.reduceSub,List.reduceReplicate,List.cons_append,List.nil_append];simp(maxDischargeDepth:=12) (maxSteps:=1000000) -implicitDefEqProofs only[Tryz.ntmps102,go_sem,Nat.reduceAdd,Nat.reduceSub,Nat.reduceMul,Nat.reduceLeDiff,Nat.reduceEqDiff,Nat.reduceGT,Nat.reduceBEq,reduceCtorEq,↓reduceIte,Int.reduceToNat,Int.reduceLE,Int.reduceLT,Int.reduceNe,Int.reduceEq,hb]
 intro b1
 refine⟨fun h=> .inl (List.eq_nil_of_length_eq_zero (by omega)),fun hne=>?_⟩
 refine aq (row w0 w.ai h _ (by omega)) ?_
 simp(maxDischargeDepth:=12) (maxSteps:=1000000) -implicitDefEqProofs only[go_sem,Nat.reduceAdd,Nat.reduceSub,Nat.reduceMul,Nat.reduceLeDiff,Nat.reduceEqDiff,Nat.reduceGT,Nat.reduceBEq,reduceCtorEq,↓reduceIte,Int.reduceToNat,Int.reduceLE,Int.reduceLT,Int.reduceNe,Int.reduceEq]
 exact⟨.inr,fun hw=>hw.resolve_left fun e=>hne (by rw[e];rfl)⟩
theorem Sn(w0:W0)(l:List Wt)(S:St)(b:Nat)(h:Int)(ds:List DV)(hb:lk S.box b=some (dI h::ds))(h0:l.length≤1048576)(h1:nW l≤1048576):
 aa Tryz.prog w0 163 [.sl 2 false (l.map dW),.v (.func (.func 102) #[] #[.pointer (some ⟨b,0,none⟩)])] S (fun d S'=>(∃z:Int,d=dI z∧(0≤z↔∃w,w∈l∧zm h w))∧S'=S):=by
 refine nt [] mx Tryz.func163 rfl rfl (by kernel_rfl) ?_;simp(maxDischargeDepth:=12) (maxSteps:=1000000) -implicitDefEqProofs only[Tryz.ntmps163,go_sem,Nat.reduceAdd,Nat.reduceSub,Nat.reduceMul,Nat.reduceLeDiff,Nat.reduceEqDiff,Nat.reduceGT,Nat.reduceBEq,reduceCtorEq,↓reduceIte,Int.reduceToNat,Int.reduceLE,Int.reduceLT,Int.reduceNe,Int.reduceEq]
 refine aA [] l.length [0,1,7,8] (fun k=>[(8,dI k)]) (fun _=>S) (fun k=>∀(i:Nat) w,i<k→l[i]? =some w→¬zm h w) mx (by kernel_rfl) ?_ ?_
 ·simp(maxDischargeDepth:=12) (maxSteps:=1000000) -implicitDefEqProofs only[go_sem,Nat.reduceAdd,Nat.reduceSub,Nat.reduceMul,Nat.reduceLeDiff,Nat.reduceEqDiff,Nat.reduceGT,Nat.reduceBEq,reduceCtorEq,↓reduceIte,Int.reduceToNat,Int.reduceLE,Int.reduceLT,Int.reduceNe,Int.reduceEq]
  intro i w hi;omega
 ·intro k hk hup
  simp(maxDischargeDepth:=12) (maxSteps:=1000000) -implicitDefEqProofs only[go_sem,Nat.reduceAdd,Nat.reduceSub,Nat.reduceMul,Nat.reduceLeDiff,Nat.reduceEqDiff,Nat.reduceGT,Nat.reduceBEq,reduceCtorEq,↓reduceIte,Int.reduceToNat,Int.reduceLE,Int.reduceLT,Int.reduceNe,Int.reduceEq]
  refine⟨fun hlt=>⟨hlt,fun a ha=>?_⟩,fun hge=>⟨-1,rfl,fun h=>by omega,fun⟨w,hw,hr⟩=>?_⟩⟩
  ·have:=Jb ha
   refine aq (SX w0 a S b h ds hb (by omega)) ?_
   simp(maxDischargeDepth:=12) (maxSteps:=1000000) -implicitDefEqProofs only[go_sem,Nat.reduceAdd,Nat.reduceSub,Nat.reduceMul,Nat.reduceLeDiff,Nat.reduceEqDiff,Nat.reduceGT,Nat.reduceBEq,reduceCtorEq,↓reduceIte,Int.reduceToNat,Int.reduceLE,Int.reduceLT,Int.reduceNe,Int.reduceEq]
   refine⟨fun hw=>⟨k,rfl,fun _=>⟨a,List.mem_of_getElem? ha,hw⟩,fun _=>by omega⟩,fun hw=>⟨hlt,fun i w hi hc=>?_,ba (by omega) (by omega)⟩⟩
   by_cases e:i=k
   ·subst e;cases bq ha hc;exact hw
   ·exact hup i w (by omega) hc
  ·obtain⟨i,hi⟩:=List.getElem?_of_mem hw
   exact absurd hr (hup i w (by have:=(List.getElem?_eq_some_iff.1 hi).1;omega) hi)
theorem HU(w0:W0)(l:List Wt)(S:St)(b:Nat)(h:Int)(ds:List DV)(hb:lk S.box b=some (dI h::ds))(h0:l.length≤1048576)(h1:nW l≤1048576):
 aa Tryz.prog w0 104 [.sl 2 false (l.map dW),.v (.func (.func 102) #[] #[.pointer (some ⟨b,0,none⟩)])] S (fun d S'=>d=dB (pB (∃w,w∈l∧zm h w))∧S'=S):=by
 refine aY [] mx Tryz.func104 rfl rfl (by kernel_rfl) ?_;simp(maxDischargeDepth:=12) (maxSteps:=1000000) -implicitDefEqProofs only[Tryz.ntmps104,go_sem,Nat.reduceAdd,Nat.reduceSub,Nat.reduceMul,Nat.reduceLeDiff,Nat.reduceEqDiff,Nat.reduceGT,Nat.reduceBEq,reduceCtorEq,↓reduceIte,Int.reduceToNat,Int.reduceLE,Int.reduceLT,Int.reduceNe,Int.reduceEq]
 refine bB (Sn w0 l S b h ds hb h0 h1) ?_
 rintro d S' ⟨⟨z,rfl,hz⟩,rfl⟩
 simp(maxDischargeDepth:=12) (maxSteps:=1000000) -implicitDefEqProofs only[go_sem,Nat.reduceAdd,Nat.reduceSub,Nat.reduceMul,Nat.reduceLeDiff,Nat.reduceEqDiff,Nat.reduceGT,Nat.reduceBEq,reduceCtorEq,↓reduceIte,Int.reduceToNat,Int.reduceLE,Int.reduceLT,Int.reduceNe,Int.reduceEq]
 exact hz
def GB(p:Pl)(q:Int):Prop:=(∀(i:Nat) a c,0<i→p.wait[i]? =some a→p.wait[i-1]? =some c→c.bD<a.bD)∧(∀w,w∈p.wait→¬zm p.high w)∧2≤p.high∧p.high≤q∧Row p.free p.high∧Row (listed p) p.high
theorem check(w0:W0)(p:Pl)(q:Int)(S:St)(h0:p.wait.length≤1048576)(h1:p.free.length+nW p.wait≤1048576):aa Tryz.prog w0 52 [dP p,dI q] S (fun d S'=>d=dB (pB (GB p q))∧S'=S):=by
 refine aY [] mx Tryz.func52 rfl rfl (by kernel_rfl) ?_;simp(maxDischargeDepth:=12) (maxSteps:=1000000) -implicitDefEqProofs only[Tryz.ntmps52,go_sem,Nat.reduceAdd,Nat.reduceSub,Nat.reduceMul,Nat.reduceLeDiff,Nat.reduceEqDiff,Nat.reduceGT,Nat.reduceBEq,reduceCtorEq,↓reduceIte,Int.reduceToNat,Int.reduceLE,Int.reduceLT,Int.reduceNe,Int.reduceEq]
 intro b
 refine aA [] p.wait.length [1,2,9,10] (fun k=>[(10,dI k)]) (fun _=>⟨(b.n,[dI p.high,dL p.free,.sl 2 false (p.wait.map dW)])::S.box,S.acc⟩) (fun k=>∀(i:Nat) a c,i<k→0<i→p.wait[i]? =some a→p.wait[i-1]? =some c→c.bD<a.bD) mx (by kernel_rfl) ?_ ?_
 ·simp(maxDischargeDepth:=12) (maxSteps:=1000000) -implicitDefEqProofs only[go_sem,Nat.reduceAdd,Nat.reduceSub,Nat.reduceMul,Nat.reduceLeDiff,Nat.reduceEqDiff,Nat.reduceGT,Nat.reduceBEq,reduceCtorEq,↓reduceIte,Int.reduceToNat,Int.reduceLE,Int.reduceLT,Int.reduceNe,Int.reduceEq]
  intro i a c hi;omega
 ·intro k hk hup
  simp(maxDischargeDepth:=12) (maxSteps:=1000000) -implicitDefEqProofs only[go_sem,Nat.reduceAdd,Nat.reduceSub,Nat.reduceMul,Nat.reduceLeDiff,Nat.reduceEqDiff,Nat.reduceGT,Nat.reduceBEq,reduceCtorEq,↓reduceIte,Int.reduceToNat,Int.reduceLE,Int.reduceLT,Int.reduceNe,Int.reduceEq]
  refine⟨fun hlt=>⟨fun hp=>⟨hlt,fun a ha=>?_⟩,fun hp=>⟨hlt,fun i a c hi h0=>by omega,ba (by omega) (by omega)⟩⟩,fun hge=>?_⟩
  ·rw[ba (by omega) (by omega),ba (by omega) (by omega)]
   have e:((k:Int)-1).toNat=k-1:=by omega
   rw[e]
   refine⟨by omega,by omega,fun c hc=>⟨fun hle hk=>?_,fun hle=>⟨hlt,fun i x y hi h0 hx hy=>?_,by omega⟩⟩⟩
   ·have:=hk.1 k a c (by omega) ha hc;omega
   ·by_cases e:i=k
    ·subst e;cases bq ha hx;cases bq hc hy;omega
    ·exact hup i x y (by omega) h0 hx hy
  ·have hup':∀(i:Nat) a c,0<i→p.wait[i]? =some a→p.wait[i-1]? =some c→c.bD<a.bD:=fun i a c h0 ha hc=>hup i a c (by have:=(List.getElem?_eq_some_iff.1 ha).1;omega) h0 ha hc
   refine aT (HU w0 p.wait _ b.n p.high _ (fq _ _ _) h0 (by omega)) ?_
   simp(maxDischargeDepth:=12) (maxSteps:=1000000) -implicitDefEqProofs only[go_sem,Nat.reduceAdd,Nat.reduceSub,Nat.reduceMul,Nat.reduceLeDiff,Nat.reduceEqDiff,Nat.reduceGT,Nat.reduceBEq,reduceCtorEq,↓reduceIte,Int.reduceToNat,Int.reduceLE,Int.reduceLT,Int.reduceNe,Int.reduceEq]
   refine⟨fun hw=>⟨fun h2=>⟨fun hq=>?_,fun hq hk=>hq hk.2.2.2.1⟩,fun h2 hk=>h2 hk.2.2.1⟩,fun hw hk=>hw fun⟨w,hm,hr⟩=>hk.2.1 w hm hr⟩
   refine aT (row w0 p.free p.high _ (by omega)) ?_
   simp(maxDischargeDepth:=12) (maxSteps:=1000000) -implicitDefEqProofs only[go_sem,Nat.reduceAdd,Nat.reduceSub,Nat.reduceMul,Nat.reduceLeDiff,Nat.reduceEqDiff,Nat.reduceGT,Nat.reduceBEq,reduceCtorEq,↓reduceIte,Int.reduceToNat,Int.reduceLE,Int.reduceLT,Int.reduceNe,Int.reduceEq]
   refine⟨fun hf=>?_,fun hf hk=>hf hk.2.2.2.2.1⟩
   refine aT (xp w0 p _ h0 h1) ?_
   simp(maxDischargeDepth:=12) (maxSteps:=1000000) -implicitDefEqProofs only[go_sem,Nat.reduceAdd,Nat.reduceSub,Nat.reduceMul,Nat.reduceLeDiff,Nat.reduceEqDiff,Nat.reduceGT,Nat.reduceBEq,reduceCtorEq,↓reduceIte,Int.reduceToNat,Int.reduceLE,Int.reduceLT,Int.reduceNe,Int.reduceEq]
   refine aT (row w0 (listed p) p.high _ (by unfold listed;rw[aN,pR];omega)) ?_
   simp(maxDischargeDepth:=12) (maxSteps:=1000000) -implicitDefEqProofs only[go_sem,Nat.reduceAdd,Nat.reduceSub,Nat.reduceMul,Nat.reduceLeDiff,Nat.reduceEqDiff,Nat.reduceGT,Nat.reduceBEq,reduceCtorEq,↓reduceIte,Int.reduceToNat,Int.reduceLE,Int.reduceLT,Int.reduceNe,Int.reduceEq]
   exact⟨fun h=>⟨hup',fun w hm hr=>hw ⟨w,hm,hr⟩,h2,hq,hf,h⟩,fun h=>h.2.2.2.2.2⟩
def gF(o:Int)(h:Bool)(l:List Wt):List Wt:=l.filter fun w=>h&&decide (o<w.bD)
def iM(o:Int)(h:Bool)(l:List Wt):List Wt:=l.filter fun w=>!(h&&decide (o<w.bD))
def release(p:Pl)(o:Int)(h:Bool):Pl:=⟨p.high,bz (flat (p.free::nY (iM o h p.wait))),gF o h p.wait⟩
theorem vf{l:List Wt}{k:Nat}{a:Wt}(o:Int)(h:Bool)(ha:l[k]? =some a):gF o h (l.take (k+1))=gF o h (l.take k)++if h&&decide (o<a.bD)then [a]else []:=by
 rw[ig ha];unfold gF;rw[List.filter_append];simp[List.filter_cons]
theorem Bl{l:List Wt}{k:Nat}{a:Wt}(o:Int)(h:Bool)(ha:l[k]? =some a):iM o h (l.take (k+1))=iM o h (l.take k)++if h&&decide (o<a.bD)then []else [a]:=by
 rw[ig ha];unfold iM;rw[List.filter_append]
 congr 1
 simp only[List.filter_cons,List.filter_nil]
 cases hb:(h&&decide (o<a.bD)) <;>rfl
theorem Hs(o:Int)(h:Bool)(l:List Wt):(gF o h l).length≤l.length:=List.length_filter_le _ _
theorem EN(o:Int)(h:Bool)(l:List Wt):(iM o h l).length≤l.length:=List.length_filter_le _ _
theorem Hw(f:Wt→Bool)(l:List Wt):nW (l.filter f)≤nW l:=by
 induction l with
 |nil=>simp[nW]
 |cons a l ih=>
  rw[List.filter_cons]
  split
  ·simp only[nW,List.map_cons,List.sum_cons]at *;omega
  ·simp only[nW,List.map_cons,List.sum_cons]at *;omega
@[go_sem] theorem B3 (l:List Wt):(nY l).length=l.length:=List.length_map _
theorem sA(l m:List Wt):nY (l++m)=nY l++nY m:=List.map_append
theorem Nn{l:List Wt}{k:Nat}{a:Wt}{o:Int}{h:Bool}(ha:l[k]? =some a)(hh:h=true)(ht:a.bD>o):gF o h (l.take (k+1))=gF o h (l.take k)++[a]∧iM o h (l.take (k+1))=iM o h (l.take k):=by
 rw[vf o h ha,Bl o h ha,hh];simp[show o<a.bD from ht]
theorem Fi{l:List Wt}{k:Nat}{a:Wt}{o:Int}{h:Bool}(ha:l[k]? =some a)(ht:h=false∨¬a.bD>o):gF o h (l.take (k+1))=gF o h (l.take k)∧iM o h (l.take (k+1))=iM o h (l.take k)++[a]:=by
 have hb:(h&&decide (o<a.bD))=false:=by
  rcases ht with rfl|ht
  ·rfl
  ·rw[decide_eq_false (by omega),Bool.and_false]
 rw[vf o h ha,Bl o h ha,hb];simp
theorem AB(w0:W0)(p:Pl)(o:Int)(h:Bool)(S:St)(h0:p.wait.length≤1048576)(h1:p.free.length+nW p.wait≤1048576):aa Tryz.prog w0 32 [dP p,dU o,dB h] S (fun d S'=>d=dP (release p o h)∧S'=S):=by
 refine aY [10] mx Tryz.func32 rfl rfl (by kernel_rfl) ?_;simp(maxDischargeDepth:=12) (maxSteps:=1000000) -implicitDefEqProofs only[Tryz.ntmps32,go_sem,Nat.reduceAdd,Nat.reduceSub,Nat.reduceMul,Nat.reduceLeDiff,Nat.reduceEqDiff,Nat.reduceGT,Nat.reduceBEq,reduceCtorEq,↓reduceIte,Int.reduceToNat,Int.reduceLE,Int.reduceLT,Int.reduceNe,Int.reduceEq]
 intro b b1
 refine j3 8 2 rfl (by omega) fun l2=>Lx 7 rfl (by omega) fun l1=>?_
 (refine @ab _ ?_;refine au ?_)
 refine aA [10] p.wait.length [1,2,3,6,7,8,15,16,17] (fun k=>[(7,.acc l1.n ((iM o h (p.wait.take k)).length+1)),(8,.acc l2.n (gF o h (p.wait.take k)).length),(17,dI k)]) (fun k=>⟨(b1.n,[dI 0,.sl 0 true [],.sl 0 true []])::(b.n,[dI p.high,dL p.free,.sl 2 false (p.wait.map dW)])::S.box,(l1.n,.tl 1 ((p.free::nY (iM o h (p.wait.take k))).map dL))::(l2.n,.arr 2 ((gF o h (p.wait.take k)).map dW))::S.acc⟩) (fun k=>True) mx (by kernel_rfl) ?_ ?_
 ·(refine @ab _ ?_;refine au ?_)
  simp[iM,gF,nY,sX,sC]
 ·intro k hk _
  (refine @ab _ ?_;refine au ?_)
  have g1:=Hs o h (p.wait.take k)
  have g2:=EN o h (p.wait.take k)
  rw[List.length_take]at g1 g2
  refine⟨fun hlt=>⟨hlt,fun a ha b2=>⟨fun hh=>⟨fun ht=>?_,fun ht=>?_⟩,fun hh=>?_⟩⟩,fun hge=>?_⟩
  ·obtain⟨e1,e2⟩:=Nn ha hh ht
   rw[e1,e2,List.length_append,List.map_append]
   exact⟨by omega,by unfold maxLen;omega,hlt,⟨.refl _,.refl _,ba (by omega) (by omega)⟩,.bw (.refl _)⟩
  ·obtain⟨e1,e2⟩:=Fi ha (.inr ht)
   rw[e1,e2,List.length_append,sA,List.map_append]
   exact⟨by omega,by unfold maxLen;omega,hlt,⟨.refl _,.refl _,ba (by omega) (by omega)⟩,.bw (.refl _)⟩
  ·obtain⟨e1,e2⟩:=Fi ha (.inl hh)
   rw[e1,e2,List.length_append,sA,List.map_append]
   exact⟨by omega,by unfold maxLen;omega,hlt,⟨.refl _,.refl _,ba (by omega) (by omega)⟩,.bw (.refl _)⟩
  ·rw[List.take_of_length_le (by omega)]
   refine fQ [] [7,8] mx (by kernel_rfl) ?_
   (refine @ab _ ?_;refine au ?_)
   refine aT (kI w0 (p.free::nY (iM o h p.wait)) _ ?_ ?_) ?_
   ·rw[List.length_cons,B3];have:=EN o h p.wait;omega
   ·rw[pR];have:=Hw (fun w=>!(h&&decide (o<w.bD))) p.wait;unfold iM;omega
   (refine @ab _ ?_;refine au ?_)
   exact .refl _
theorem Tc(w0:W0)(l:List Wt)(S:St)(h0:l.length≤1048576):aa Tryz.prog w0 185 [.sl 2 false (l.map dW)] S fun d S'=>∃b:FN S.acc,d= .acc b.n (l.map dW).length∧S'=⟨S.box,(b.n,.arr 2 (l.map dW))::S.acc⟩:=by
 refine KO 2 (by omega) ?_
 refine nt [] mx Tryz.func185 rfl rfl (by kernel_rfl) ?_;simp(maxDischargeDepth:=12) (maxSteps:=1000000) -implicitDefEqProofs only[Tryz.ntmps185,go_sem,Nat.reduceAdd,Nat.reduceSub,Nat.reduceMul,Nat.reduceLeDiff,Nat.reduceEqDiff,Nat.reduceGT,Nat.reduceBEq,reduceCtorEq,↓reduceIte,Int.reduceToNat,Int.reduceLE,Int.reduceLT,Int.reduceNe,Int.reduceEq]
 intro b hb
 refine⟨fun h1=> .inl ⟨Classical.byContradiction fun hn=>?_,0,rfl⟩,fun h1=>⟨by omega,by unfold maxLen;omega,fun c=> .inr ⟨c,rfl,rfl⟩⟩⟩
 rw[hb hn]at h1;cases h1
def mJ(p:Pl)(t:Int)(l:List Int):Pl:=if l=[]then p else match p.wait[p.wait.length-1]? with
 |some w=>if w.bD=t then⟨p.high,p.free,p.wait.set (p.wait.length-1) ⟨t,bz (w.ai++l)⟩⟩else⟨p.high,p.free,p.wait++[⟨t,bz l⟩]⟩
 |none=>⟨p.high,p.free,p.wait++[⟨t,bz l⟩]⟩
theorem Gc{p:Pl}{t:Int}{l:List Int}{w:Wt}(hl:¬l=[])(h:p.wait[p.wait.length-1]? =some w)(ht:w.bD=t):mJ p t l=⟨p.high,p.free,p.wait.set (p.wait.length-1) ⟨t,bz (w.ai++l)⟩⟩:=by
 unfold mJ;rw[if_neg hl,h];simp only[if_pos ht]
theorem mF{p:Pl}{t:Int}{l:List Int}(hl:¬l=[])(h:∀w,p.wait[p.wait.length-1]? =some w→¬w.bD=t):mJ p t l=⟨p.high,p.free,p.wait++[⟨t,bz l⟩]⟩:=by
 unfold mJ;rw[if_neg hl]
 cases hw:p.wait[p.wait.length-1]? with
 |none=>rfl
 |some w=>simp only[if_neg (h w hw)]
theorem kO(l:List Int):flat [l]=l:=by simp[flat]
theorem y7(l m:List Int):flat [l,m]=l++m:=by simp[flat]
theorem Wg(w0:W0)(p:Pl)(t:Int)(l:List Int)(S:St)(h0:p.wait.length≤1048576)(h1:nW p.wait+l.length≤1048576):aa Tryz.prog w0 132 [dP p,dU t,dL l] S (fun d S'=>d=dP (mJ p t l)∧S'=S):=by
 refine aY [] mx Tryz.func132 rfl rfl (by kernel_rfl) ?_;simp(maxDischargeDepth:=12) (maxSteps:=1000000) -implicitDefEqProofs only[Tryz.ntmps132,go_sem,Nat.reduceAdd,Nat.reduceSub,Nat.reduceMul,Nat.reduceLeDiff,Nat.reduceEqDiff,Nat.reduceGT,Nat.reduceBEq,reduceCtorEq,↓reduceIte,Int.reduceToNat,Int.reduceLE,Int.reduceLT,Int.reduceNe,Int.reduceEq]
 intro b b1
 refine⟨fun he=>?_,fun hne=>?_⟩
 ·rw[show mJ p t l=p from if_pos (List.eq_nil_of_length_eq_zero (by omega))];exact .refl _
 have hl:¬l=[]:=fun e=>hne (by rw[e];rfl)
 refine bB (Tc w0 p.wait _ h0) ?_
 rintro d S' ⟨c,rfl,rfl⟩
 (refine @ab _ ?_;refine au ?_)
 have hw:IntKind.i64.wrap (↑p.wait.length-1)= ↑p.wait.length-1:=ba (by omega) (by omega)
 have e:((p.wait.length:Int)-1).toNat=p.wait.length-1:=by omega
 rw[hw,e]
 refine⟨fun hp=>⟨hp,by omega,by omega,fun a ha=>⟨fun ht=>⟨hp,by omega,by omega,fun a3 ha3=>?_⟩,fun ht=>?_⟩⟩,fun hn=>?_⟩
 ·cases bq ha ha3
  have:=Jb ha
  refine aT (kI w0 [a.ai,l] _ (by simp) (by rw[y7,List.length_append];omega)) ?_ ⟨.full _ _ _,trivial⟩
  (refine @ab _ ?_;refine aO @hw @e ?_)
  refine⟨hp,by omega,by omega,fun a4 ha4=>?_⟩
  cases bq ha ha4
  rw[Gc hl ha ht,y7,←ht]
  have e3:(List.map dW p.wait).set (p.wait.length-1) (.agg [.v (.int .u64 a.bD),.sl 1 false (List.map dI (bz (a.ai++l)))])=List.map dW (p.wait.set (p.wait.length-1) ⟨a.bD,bz (a.ai++l)⟩):=(List.map_set (f:=dW) (a:=⟨a.bD,bz (a.ai++l)⟩)).symm
  rw[e3]
  exact .refl _
 ·refine aT (kI w0 [l] _ (by simp) (by rw[kO];omega)) ?_ ⟨.full _ _ _,trivial⟩
  (refine @ab _ ?_;refine au ?_)
  rw[mF hl (fun w hw'=>by cases bq ha hw';exact ht),kO,List.map_append]
  exact⟨by omega,by unfold maxLen;omega,.refl _⟩
 ·refine aT (kI w0 [l] _ (by simp) (by rw[kO];omega)) ?_ ⟨.full _ _ _,trivial⟩
  (refine @ab _ ?_;refine au ?_)
  rw[mF hl (fun w hw'=>by have:=(List.getElem?_eq_some_iff.1 hw').1;omega),kO,List.map_append]
  exact⟨by omega,by unfold maxLen;omega,.refl _⟩
def bW(h:Int)(n:Nat):List Int:=(List.range n).map fun(i:Nat)=>h+(i:Int)
theorem ln(h:Int)(n:Nat):bW h (n+1)=bW h n++[h+n]:=by unfold bW;rw[List.range_succ,List.map_append];rfl
theorem gC(h:Int)(n:Nat):(bW h n).length=n:=by simp[bW]
def bf(p:Pl)(m:Int):Nat:=min m.toNat p.free.length
def cQ(p:Pl)(m:Int):List Int:=(bz p.free).take (bf p m)++bW p.high (m.toNat-bf p m)
def take(p:Pl)(m:Int):Pl:=⟨p.high+(m.toNat-bf p m:Nat),(bz p.free).drop (bf p m),p.wait⟩
def may(p:Pl)(q m:Int):Prop:=0≤m∧m≤dy p q
theorem WR(w0:W0)(p:Pl)(q m:Int)(S:St)(h0:p.free.length≤1048576)(h1: -1099511627776≤p.high)(h2:p.high≤1048576)(h3: -1099511627776≤q)(h4:q≤1048576):
 aa Tryz.prog w0 179 [dP p,dI q,dI m] S (fun d S'=>(may p q m→d= .bN [dP (take p m),dL (cQ p m),dB true]∧S'=S)∧(¬may p q m→d= .bN [dP p,.sl 1 false [],dB false]∧S'=S)):=by
 by_cases hm:may p q m
 ·refine aa.mono (K:=fun d S'=>d= .bN [dP (take p m),dL (cQ p m),dB true]∧S'=S) ?_ fun d S' h=>⟨fun _=>h,fun k=>absurd hm k⟩
  refine aY [] mx Tryz.func179 rfl rfl (by kernel_rfl) ?_;simp(maxDischargeDepth:=12) (maxSteps:=1000000) -implicitDefEqProofs only[Tryz.ntmps179,go_sem,Nat.reduceAdd,Nat.reduceSub,Nat.reduceMul,Nat.reduceLeDiff,Nat.reduceEqDiff,Nat.reduceGT,Nat.reduceBEq,reduceCtorEq,↓reduceIte,Int.reduceToNat,Int.reduceLE,Int.reduceLT,Int.reduceNe,Int.reduceEq]
  intro b b1
  have hr:dy p q≤2199023255552:=by unfold dy;split <;>omega
  refine⟨fun h=>absurd hm.1 (by omega),fun h=>?_⟩
  refine aq (room w0 p q _ h0 (by omega) (by omega) (by omega) (by omega)) ?_
  (refine @ab _ ?_;refine au ?_)
  refine⟨fun h'=>absurd hm.2 (by omega),fun h'=>?_⟩
  refine aq (kI w0 [p.free] _ (by simp) (by rw[kO];omega)) ?_ ⟨.full _ _ _,trivial⟩
  (refine @ab _ ?_;refine ao @kO ?_)
  have ho:bf p m≤p.free.length:=Nat.min_le_right _ _
  have ho2:bf p m≤m.toNat:=Nat.min_le_left _ _
  have hmin:(if((bz p.free).length:Int)<m then((bz p.free).length:Int)else m)=(bf p m:Int):=by
   rw[aN];unfold bf
   split <;>omega
  rw[hmin]
  simp only[Int.toNat_natCast,aN]
  have hx:((bz p.free).take (bf p m)).length=bf p m:=by rw[List.length_take,aN];omega
  refine⟨by omega,by omega,by omega,by omega,?_⟩
  refine Lx 11 rfl (by omega) fun l=>?_
  (refine @ab _ ?_;refine ao @hx ?_)
  refine aA [] (m.toNat-bf p m) [2,3,6,11] (fun k=>[(11,.acc l.n (bf p m+k))]) (fun k=>⟨(b1.n,[dI 0,.sl 0 true [],.sl 0 true []])::(b.n,[dI (p.high+k),dL ((bz p.free).drop (bf p m)),.sl 2 false (p.wait.map dW)])::S.box,(l.n,.tl 1 (((bz p.free).take (bf p m)++bW p.high k).map dI))::S.acc⟩) (fun _=>True) mx (by kernel_rfl) ?_ ?_
  ·(refine @ab _ ?_;refine au ?_)
   simp[bW,sC,sX]
  ·intro k hk _
   have hm0:=hm.1
   have hm1:=hm.2
   have hlen:((bz p.free).take (bf p m)++bW p.high k).length=bf p m+k:=by rw[List.length_append,hx,gC]
   (refine @ab _ ?_;refine aO @gC @hx ?_)
   refine⟨fun hlt=>⟨by omega,by unfold maxLen;omega,by omega,?_,?_⟩,fun hge=>?_⟩
   ·exact .refl _
   ·rw[ba (by omega) (by omega),ln,←List.append_assoc,List.map_append]
    have e:p.high+(k:Int)+1=p.high+((k+1:Nat):Int):=by omega
    rw[e]
    exact .refl _
   ·have e:k=m.toNat-bf p m:=by omega
    subst e
    exact .refl _
 ·refine aa.mono (K:=fun d S'=>d= .bN [dP p,.sl 1 false [],dB false]∧S'=S) ?_ fun d S' h=>⟨fun k=>absurd k hm,fun _=>h⟩
  refine aY [] mx Tryz.func179 rfl rfl (by kernel_rfl) ?_;simp(maxDischargeDepth:=12) (maxSteps:=1000000) -implicitDefEqProofs only[Tryz.ntmps179,go_sem,Nat.reduceAdd,Nat.reduceSub,Nat.reduceMul,Nat.reduceLeDiff,Nat.reduceEqDiff,Nat.reduceGT,Nat.reduceBEq,reduceCtorEq,↓reduceIte,Int.reduceToNat,Int.reduceLE,Int.reduceLT,Int.reduceNe,Int.reduceEq]
  intro b b1
  intro h
  refine aq (room w0 p q _ h0 (by omega) (by omega) (by omega) (by omega)) ?_
  (refine @ab _ ?_;refine au ?_)
  unfold may at hm
  exact fun h'=>absurd ⟨by omega,by omega⟩ hm
def rZ(l:List Wt):List Int:=(nY l).flatten
theorem qu(f:List Int)(l:List Wt):flat (f::nY l)=f++rZ l:=rfl
theorem mK(a:Wt)(l:List Wt):rZ (a::l)=a.ai++rZ l:=rfl
theorem P1(l:List Wt):(rZ l).length=nW l:=by have:=pR [] l;rw[qu]at this;simpa using this
theorem cH(p:Pl):listed p=bz (p.free++rZ p.wait):=rfl
theorem DM(o:Int)(h:Bool)(a:Wt)(l:List Wt):gF o h (a::l)=if h&&decide (o<a.bD)then a::gF o h l else gF o h l:=by simp[gF,List.filter_cons]
theorem Br(o:Int)(h:Bool)(a:Wt)(l:List Wt):iM o h (a::l)=if h&&decide (o<a.bD)then iM o h l else a::iM o h l:=by
 unfold iM;rw[List.filter_cons]
 cases hb:(h&&decide (o<a.bD)) <;>rfl
theorem Gz(o:Int)(h:Bool)(l:List Wt):(rZ (iM o h l)++rZ (gF o h l)).Perm (rZ l):=by
 induction l with
 |nil=>exact .refl _
 |cons a l ih=>
  rw[DM,Br,mK]
  cases hb:(h&&decide (o<a.bD))with
  |true=>
   simp only[if_true]
   rw[mK]
   have h1:(rZ (iM o h l)++(a.ai++rZ (gF o h l))).Perm (a.ai++(rZ (iM o h l)++rZ (gF o h l))):=by
    rw[←List.append_assoc,←List.append_assoc];exact List.perm_append_comm.append_right _
   exact h1.trans (ih.append_left _)
  |false=>
   simp only[Bool.false_eq_true,if_false]
   rw[mK,List.append_assoc]
   exact ih.append_left _
theorem lZ(p:Pl):(listed p).length=p.free.length+nW p.wait:=by rw[cH,aN,List.length_append,P1]
theorem mO(p:Pl)(o:Int)(h:Bool):listed (release p o h)=listed p:=by
 rw[cH,cH]
 refine kM ?_
 unfold release
 simp only[qu]
 exact((bI _).append_right _).trans (by rw[List.append_assoc];exact(Gz o h _).append_left _)
theorem uR{α:Type}{R:α→α→Prop}(ht:∀a b c,R a b→R b c→R a c){l:List α}(h:∀(i:Nat) a c,0<i→l[i]? =some a→l[i-1]? =some c→R c a):l.Pairwise R:=by
 induction l with
 |nil=>exact .nil
 |cons x l ih=>
  have ih':=ih fun i a c h0 ha hc=>h (i+1) a c (by omega) (by simpa using ha) (by
   have e:i+1-1=(i-1)+1:=by omega
   rw[e];simpa using hc)
  refine List.pairwise_cons.2 ⟨fun y hy=>?_,ih'⟩
  cases l with
  |nil=>cases hy
  |cons z l=>
   have hxz:R x z:=h 1 z x (by omega) rfl rfl
   rcases List.mem_cons.1 hy with rfl|hy
   ·exact hxz
   ·exact ht _ _ _ hxz ((List.pairwise_cons.1 ih').1 y hy)
theorem tq{α:Type}{R:α→α→Prop}{l:List α}(h:l.Pairwise R):∀(i:Nat) a c,0<i→l[i]? =some a→l[i-1]? =some c→R c a:=by
 intro i a c h0 ha hc
 obtain⟨h1,rfl⟩:=List.getElem?_eq_some_iff.1 ha
 obtain⟨h2,rfl⟩:=List.getElem?_eq_some_iff.1 hc
 exact List.pairwise_iff_getElem.1 h _ _ h2 h1 (by omega)
theorem lT(l:List Int)(high:Int):Row l high↔(∀a,a∈l→2≤a∧a<high)∧l.Pairwise (·<·):=by
 constructor
 ·intro h
  refine⟨fun a ha=>?_,uR (R:=fun(x y:Int)=>x<y) (fun _ _ _ h k=>Int.lt_trans h k) fun i a c h0 ha hc=>(mY h ha).2.2 c h0 hc⟩
  obtain⟨i,hi⟩:=List.getElem?_of_mem ha
  exact⟨(mY h hi).1,(mY h hi).2.1⟩
 ·rintro⟨h1,h2⟩ i a hi ha
  have:=h1 a (List.mem_of_getElem? ha)
  exact⟨this.1,this.2,fun b h0 hb=>tq h2 i a b h0 ha hb⟩
theorem zR{l:List Int}(h1:l.Pairwise (·≤·))(h2:l.Nodup):l.Pairwise (·<·):=by
 induction l with
 |nil=>exact .nil
 |cons a l ih=>
  obtain⟨p1,p2⟩:=List.pairwise_cons.1 h1
  obtain⟨q1,q2⟩:=List.nodup_cons.1 h2
  refine List.pairwise_cons.2 ⟨fun b hb=>?_,ih p2 q2⟩
  have:=p1 b hb
  have:a≠b:=fun e=>q1 (e▸hb)
  omega
theorem jX{l:List Int}(h:l.Pairwise (·<·)):l.Nodup:=h.imp fun h e=>by omega
theorem j0(l:List Int)(high:Int):Row (bz l) high↔(∀a,a∈l→2≤a∧a<high)∧l.Nodup:=by
 rw[lT]
 constructor
 ·rintro⟨h1,h2⟩
  exact⟨fun a ha=>h1 a ((bI l).mem_iff.2 ha),(bI l).nodup_iff.1 (jX h2)⟩
 ·rintro⟨h1,h2⟩
  exact⟨fun a ha=>h1 a ((bI l).mem_iff.1 ha),zR (oE l) ((bI l).nodup_iff.2 h2)⟩
theorem U6(o:Int)(h:Bool)(l:List Wt):(rZ (iM o h l)).Sublist (rZ l):=by
 induction l with
 |nil=>exact .refl _
 |cons a l ih=>
  rw[Br,mK]
  split
  ·exact ih.trans (List.sublist_append_right _ _)
  ·rw[mK];exact(List.Sublist.refl _).append ih
theorem AK(p:Pl)(o:Int)(h:Bool)(q:Int)(hc:GB p q):GB (release p o h) q:=by
 obtain⟨c1,c2,c3,c4,c5,c6⟩:=hc
 have c6':=c6
 rw[cH,j0]at c6
 refine⟨?_,fun w hw=>c2 w (List.mem_filter.1 hw).1,c3,c4,?_,?_⟩
 ·refine tq (R:=fun(c a:Wt)=>c.bD<a.bD) ?_
  exact(uR (R:=fun(c a:Wt)=>c.bD<a.bD) (fun _ _ _ h k=>Int.lt_trans h k) c1).filter _
 ·show Row (bz (flat _)) p.high
  rw[j0,qu]
  have hs:(p.free++rZ (iM o h p.wait)).Sublist (p.free++rZ p.wait):=(List.Sublist.refl _).append (U6 o h _)
  exact⟨fun a ha=>c6.1 a (hs.subset ha),c6.2.sublist hs⟩
 ·rw[mO];exact c6'
theorem BK(h:Int)(m:Nat):∀n,bW h (m+n)=bW h m++bW (h+m) n
 |0=>by simp[bW]
 |n+1=>by
  rw[←Nat.add_assoc,ln,BK h m n,ln,List.append_assoc]
  congr 3
  rw[Int.natCast_add];omega
theorem lB{h x:Int}{n:Nat}:x∈bW h n↔h≤x∧x<h+n:=by
 induction n with
 |zero=>simp[bW] <;>omega
 |succ n ih=>rw[ln,List.mem_append,ih];simp;omega
theorem sI(h:Int)(n:Nat):(bW h n).Pairwise (·<·):=by
 induction n with
 |zero=>exact .nil
 |succ n ih=>
  rw[ln,List.pairwise_append]
  refine⟨ih,List.pairwise_cons.2 ⟨fun _ h=>by simp at h,.nil⟩,fun a ha b hb=>?_⟩
  simp only[List.mem_singleton]at hb
  have:=(lB.1 ha).2;omega
theorem zC(l:List Int)(k:Nat):bz ((bz l).drop k)=(bz l).drop k:=Bt ((oE l).sublist (List.drop_sublist k _))
theorem mR(p:Pl)(m:Int):(take p m).free.length=p.free.length-bf p m:=by
 show((bz p.free).drop (bf p m)).length=_
 rw[List.length_drop,aN]
theorem lu(p:Pl)(m:Int):(cQ p m).length=m.toNat:=by
 unfold cQ
 rw[List.length_append,List.length_take,aN,gC]
 have h1:bf p m≤p.free.length:=Nat.min_le_right _ _
 have h2:bf p m≤m.toNat:=Nat.min_le_left _ _
 omega
theorem Mn(p:Pl){a b:Int}(ha:0≤a)(hb:0≤b):cQ p (a+b)=cQ p a++cQ (take p a) b∧take (take p a) b=take p (a+b):=by
 have e1:bf (take p a) b=min b.toNat (p.free.length-bf p a):=by unfold bf;rw[mR];rfl
 have e2:bf p (a+b)=bf p a+bf (take p a) b:=by rw[e1];unfold bf;omega
 have h1:bf p a≤p.free.length:=Nat.min_le_right _ _
 have h2:bf p a≤a.toNat:=Nat.min_le_left _ _
 have h3:bf (take p a) b≤b.toNat:=Nat.min_le_left _ _
 have e3:(a+b).toNat-bf p (a+b)=(a.toNat-bf p a)+(b.toNat-bf (take p a) b):=by omega
 have e4:bz (take p a).free=(bz p.free).drop (bf p a):=zC _ _
 constructor
 ·unfold cQ
  rw[e2,e4,show(a+b).toNat-(bf p a+bf (take p a) b)=(a.toNat-bf p a)+(b.toNat-bf (take p a) b)by rw[←e2];exact e3,BK,List.take_add]
  show _=_++(_++bW (p.high+((a.toNat-bf p a:Nat):Int)) _)
  by_cases hr:a.toNat-bf p a=0
  ·rw[hr];simp[bW]
  ·have hn:bf (take p a) b=0:=by
    rw[e1];unfold bf at *;omega
   rw[hn];simp
 ·unfold take
  rw[e4.symm.trans e4]at*
  have e5:bz (List.drop (bf p a) (bz p.free))=List.drop (bf p a) (bz p.free):=zC _ _
  have e6:bf ⟨p.high+((a.toNat-bf p a:Nat):Int),List.drop (bf p a) (bz p.free),p.wait⟩ b=bf (take p a) b:=rfl
  simp only[e6,e5,List.drop_drop,e2]
  refine Nc ?_ rfl rfl
  simp only
  omega
theorem wE{p:Pl}{q a:Int}(hq:p.high≤q)(h:may p q a):dy (take p a) q=dy p q-a∧(take p a).high≤q:=by
 obtain⟨h0,h1⟩:=h
 have e1:bf p a=min a.toNat p.free.length:=rfl
 have e2:=mR p a
 have e3:(take p a).high=p.high+((a.toNat-bf p a:Nat):Int):=rfl
 unfold dy at*
 rw[e2,e3]
 split at h1 <;>split <;>omega
theorem wx(p:Pl)(m:Int):(cQ p m++(take p m).free).Perm (p.free++bW p.high (m.toNat-bf p m)):=by
 show(((bz p.free).take (bf p m)++bW _ _)++(bz p.free).drop (bf p m)).Perm _
 have h1:(((bz p.free).take (bf p m)++bW p.high (m.toNat-bf p m))++(bz p.free).drop (bf p m)).Perm (((bz p.free).take (bf p m)++(bz p.free).drop (bf p m))++bW p.high (m.toNat-bf p m)):=by
  rw[List.append_assoc,List.append_assoc];exact List.perm_append_comm.append_left _
 refine h1.trans ?_
 rw[List.take_append_drop]
 exact(bI _).append_right _
theorem vU{p:Pl}{q:Int}(hc:GB p q)(m:Int):(∀x,x∈cQ p m++((take p m).free++rZ p.wait)→2≤x∧x<(take p m).high)∧(cQ p m++((take p m).free++rZ p.wait)).Nodup:=by
 obtain⟨-, -,c3, -, -,c6⟩:=hc
 rw[cH,j0]at c6
 obtain⟨d1,d2⟩:=c6
 have hp:(cQ p m++((take p m).free++rZ p.wait)).Perm ((p.free++rZ p.wait)++bW p.high (m.toNat-bf p m)):=by
  rw[←List.append_assoc]
  refine((wx p m).append_right _).trans ?_
  rw[List.append_assoc,List.append_assoc]
  exact List.perm_append_comm.append_left _
 have e3:(take p m).high=p.high+((m.toNat-bf p m:Nat):Int):=rfl
 constructor
 ·intro x hx
  rw[hp.mem_iff,List.mem_append,lB]at hx
  rcases hx with hx|hx
  ·have:=d1 x hx;omega
  ·omega
 ·rw[hp.nodup_iff,List.nodup_append]
  refine⟨d2,jX (sI _ _),fun a ha b hb e=>?_⟩
  subst e
  have:=d1 a ha
  have:=(lB.1 hb).1
  omega
theorem Bs{p:Pl}{q:Int}(hc:GB p q):bz p.free=p.free∧(∀x,x∈p.free→2≤x∧x<p.high)∧p.free.Pairwise (·<·):=by
 have:=(lT _ _).1 hc.2.2.2.2.1
 exact⟨Bt (this.2.imp fun h=>by omega),this.1,this.2⟩
def jH(p:Pl):List Int:=p.free++rZ p.wait
def U1(n:Nat)(h:Nat→Bool):List Int:=((List.range n).filter h).map fun(i:Nat)=>(i:Int)
structure og(top:Nat)(p:Pl)(h:Nat→Bool)(bD:Int):Prop where
 oD:GB p top
 own:∀i,h i=true→2≤i∧(i:Int)<p.high∧(i:Int)∉jH p
 all:∀x:Int,2≤x→x<p.high→x∈jH p∨h x.toNat=true
 old:∀w,w∈p.wait→w.bD<bD
theorem sQ{p:Pl}{q:Int}(h:GB p q):(∀x,x∈jH p→2≤x∧x<p.high)∧(jH p).Nodup:=by
 have:=h.2.2.2.2.2;rw[cH,j0]at this;exact this
theorem FY{n:Nat}{h:Nat→Bool}{x:Int}:x∈U1 n h↔0≤x∧x<n∧h x.toNat=true:=by
 unfold U1
 simp only[List.mem_map,List.mem_filter,List.mem_range]
 constructor
 ·rintro⟨i,⟨h1,h2⟩,rfl⟩
  exact⟨by omega,by omega,by simpa using h2⟩
 ·rintro⟨h1,h2,h3⟩
  exact⟨x.toNat,⟨by omega,h3⟩,by omega⟩
theorem Gg(n:Nat)(h:Nat→Bool):(U1 n h).Nodup:=by
 unfold U1
 have h1:((List.range n).filter h).Nodup:=(List.nodup_range).sublist List.filter_sublist
 unfold List.Nodup at*
 rw[List.pairwise_map]
 exact h1.imp fun hne e=>hne (Int.ofNat.inj e)
theorem uU{top:Nat}{p:Pl}{h:Nat→Bool}{bD:Int}(k:og top p h bD):((listed p).length:Int)+(U1 top h).length=p.high-2:=by
 obtain⟨c1,c2⟩:=sQ k.oD
 have hq:=k.oD.2.2.2.1
 have h2:=k.oD.2.2.1
 have hn:(jH p++U1 top h).Nodup:=by
  rw[List.nodup_append]
  refine⟨c2,Gg _ _,fun a ha b hb e=>?_⟩
  subst e
  obtain⟨g1,g2,g3⟩:=FY.1 hb
  have:=(k.own a.toNat g3).2.2
  rw[Int.toNat_of_nonneg g1]at this
  exact this ha
 have hp:(jH p++U1 top h).Perm (bW 2 (p.high-2).toNat):=by
  refine(List.perm_ext_iff_of_nodup hn (jX (sI _ _))).2 fun x=>?_
  rw[List.mem_append,lB,FY]
  constructor
  ·rintro(hx|⟨g1,g2,g3⟩)
   ·have:=c1 x hx;omega
   ·have:=k.own _ g3;omega
  ·rintro⟨g1,g2⟩
   rcases k.all x g1 (by omega)with hx|hx
   ·exact .inl hx
   ·exact .inr ⟨by omega,by omega,hx⟩
 have:=hp.length_eq
 rw[List.length_append,gC]at this
 have e:(listed p).length=(jH p).length:=by rw[cH,aN];rfl
 rw[e];omega
theorem pK{top:Nat}{p:Pl}{h:Nat→Bool}{bD:Int}(k:og top p h bD)(o:Int)(b:Bool):og top (release p o b) h bD:=by
 have hp:(jH (release p o b)).Perm (jH p):=by
  have h1:=mO p o b
  rw[cH,cH]at h1
  exact(bI _).symm.trans (h1▸bI _)
 refine⟨AK p o b _ k.oD,fun i hi=>?_,fun x h1 h2=>?_,fun w hw=>k.old w (List.mem_filter.1 hw).1⟩
 ·have:=k.own i hi
  exact⟨this.1,this.2.1,fun hx=>this.2.2 (hp.mem_iff.1 hx)⟩
 ·exact(k.all x h1 h2).imp (fun hx=>hp.mem_iff.2 hx) id
def marks(h:Nat→Bool)(l:List Int):Nat→Bool:=fun i=>h i||decide ((i:Int)∈l)
theorem Mx{p:Pl}{q m:Int}(hc:GB p q)(hm:may p q m):GB (take p m) q:=by
 obtain⟨d1,d2⟩:=vU hc m
 obtain⟨f1,f2,f3⟩:=Bs hc
 have hh:=(wE hc.2.2.2.1 hm).2
 have hhi:(take p m).high=p.high+((m.toNat-bf p m:Nat):Int):=rfl
 have h2:=hc.2.2.1
 refine⟨hc.1,fun w hw hr=>hc.2.1 w hw ?_,by omega,hh,?_,?_⟩
 ·refine hr.imp id fun hr hrow=>hr ?_
  rw[lT]at*
  exact⟨fun a ha=>by have:=hrow.1 a ha;omega,hrow.2⟩
 ·rw[lT]
  refine⟨fun a ha=>d1 a (List.mem_append_right _ (List.mem_append_left _ ha)),?_⟩
  show((bz p.free).drop (bf p m)).Pairwise (·<·)
  rw[f1];exact f3.sublist (List.drop_sublist _ _)
 ·rw[cH,j0]
  exact⟨fun x hx=>d1 x (List.mem_append_right _ hx),(List.nodup_append.1 d2).2.1⟩
theorem qd(p:Pl)(m x:Int):(x∈cQ p m∨x∈jH (take p m))↔(x∈jH p∨(p.high≤x∧x<(take p m).high)):=by
 have h1:=(wx p m).mem_iff (a:=x)
 rw[List.mem_append,List.mem_append,lB]at h1
 have hhi:(take p m).high=p.high+((m.toNat-bf p m:Nat):Int):=rfl
 unfold jH
 rw[List.mem_append,List.mem_append,hhi]
 have e:(take p m).wait=p.wait:=rfl
 rw[e]
 constructor
 ·rintro(h|h|h)
  ·rcases h1.1 (.inl h)with h|h
   ·exact .inl (.inl h)
   ·exact .inr h
  ·rcases h1.1 (.inr h)with h|h
   ·exact .inl (.inl h)
   ·exact .inr h
  ·exact .inl (.inr h)
 ·rintro((h|h)|h)
  ·rcases h1.2 (.inl h)with h|h
   ·exact .inl h
   ·exact .inr (.inl h)
  ·exact .inr (.inr h)
  ·rcases h1.2 (.inr h)with h|h
   ·exact .inl h
   ·exact .inr (.inl h)
theorem kQ{top:Nat}{p:Pl}{h:Nat→Bool}{bD m:Int}(k:og top p h bD)(hm:may p top m):(∀x,x∈cQ p m→2≤x∧x<top∧h x.toNat=false)∧(cQ p m).Nodup∧og top (take p m) (marks h (cQ p m)) bD:=by
 obtain⟨d1,d2⟩:=vU k.oD m
 obtain⟨c1,c2⟩:=sQ k.oD
 have hh:=(wE k.oD.2.2.2.1 hm).2
 have hhi:(take p m).high=p.high+((m.toNat-bf p m:Nat):Int):=rfl
 refine⟨fun x hx=>?_,(List.nodup_append.1 d2).1,Mx k.oD hm,fun i hi=>?_,fun x h1 h2=>?_,k.old⟩
 ·have g:=d1 x (List.mem_append_left _ hx)
  refine⟨g.1,by omega,?_⟩
  cases hv:h x.toNat with
  |false=>rfl
  |true=>
   obtain⟨o1,o2,o3⟩:=k.own _ hv
   rw[Int.toNat_of_nonneg (by omega)]at o2 o3
   rcases(qd p m x).1 (.inl hx)with h|h
   ·exact absurd h o3
   ·omega
 ·unfold marks at hi
  rw[Bool.or_eq_true,decide_eq_true_eq]at hi
  rcases hi with hi|hi
  ·obtain⟨o1,o2,o3⟩:=k.own _ hi
   refine⟨o1,by omega,fun hx=>?_⟩
   rcases(qd p m i).1 (.inr hx)with h|h
   ·exact o3 h
   ·omega
  ·have g:=d1 i (List.mem_append_left _ hi)
   exact⟨by omega,g.2,fun hx=>(List.nodup_append.1 d2).2.2 _ hi _ hx rfl⟩
 ·unfold marks
  rw[Bool.or_eq_true,decide_eq_true_eq,Int.toNat_of_nonneg (by omega)]
  by_cases hx:x<p.high
  ·rcases k.all x h1 hx with h|h
   ·rcases(qd p m x).2 (.inl h)with h|h
    ·exact .inr (.inr h)
    ·exact .inl h
   ·exact .inr (.inl h)
  ·rcases(qd p m x).2 (.inr ⟨by omega,h2⟩)with h|h
   ·exact .inr (.inr h)
   ·exact .inl h
theorem GZ{top:Nat}{p:Pl}{h:Nat→Bool}{bD:Int}(k:og top p h bD){l:List Int}(h1:∀x,x∈l→0≤x∧h x.toNat=true)(h2:l.Nodup):og top (mJ p bD l) (fun i=>h i&&!decide ((i:Int)∈l)) (bD+1):=by
 obtain⟨c1,c2⟩:=sQ k.oD
 have hb:∀x,x∈l→2≤x∧x<p.high∧x∉jH p:=fun x hx=>by
  obtain⟨g1,g2⟩:=h1 x hx
  have:=k.own _ g2
  rw[Int.toNat_of_nonneg g1]at this
  exact⟨by omega,this.2.1,this.2.2⟩
 by_cases hl:l=[]
 ·subst hl
  rw[show mJ p bD []=p from if_pos rfl]
  refine⟨k.oD,fun i hi=>k.own i (by simpa using hi),fun x a b=>(k.all x a b).imp id fun h=>by simpa using h,fun w hw=>by have:=k.old w hw;omega⟩
 ·have hg:mJ p bD l=⟨p.high,p.free,p.wait++[⟨bD,bz l⟩]⟩:=mF hl fun w hw e=>by
   have:=k.old w (List.mem_of_getElem? hw);omega
  rw[hg]
  have hA:∀x,x∈jH ⟨p.high,p.free,p.wait++[⟨bD,bz l⟩]⟩↔x∈jH p∨x∈l:=by
   intro x
   unfold jH rZ
   simp only[sA,List.flatten_append,List.mem_append]
   have:(nY [(⟨bD,bz l⟩:Wt)]).flatten=bz l:=by simp[nY]
   rw[this,(bI l).mem_iff]
   constructor
   ·rintro(h|h|h)
    ·exact .inl (.inl h)
    ·exact .inl (.inr h)
    ·exact .inr h
   ·rintro((h|h)|h)
    ·exact .inl h
    ·exact .inr (.inl h)
    ·exact .inr (.inr h)
  have hP:(jH ⟨p.high,p.free,p.wait++[⟨bD,bz l⟩]⟩).Perm (jH p++l):=by
   unfold jH rZ
   simp only[sA,List.flatten_append]
   have:(nY [(⟨bD,bz l⟩:Wt)]).flatten=bz l:=by simp[nY]
   rw[this,←List.append_assoc]
   exact(bI l).append_left _
  have hN:(jH p++l).Nodup:=by
   rw[List.nodup_append]
   exact⟨c2,h2,fun a ha b hb' e=>(hb b hb').2.2 (e▸ha)⟩
  refine⟨⟨?_,fun w hw=>?_,k.oD.2.2.1,k.oD.2.2.2.1,k.oD.2.2.2.2.1,?_⟩,fun i hi=>?_,fun x a b=>?_,fun w hw=>?_⟩
  ·refine tq (R:=fun(c a:Wt)=>c.bD<a.bD) ?_
   rw[List.pairwise_append]
   refine⟨uR (R:=fun(c a:Wt)=>c.bD<a.bD) (fun _ _ _ h k=>Int.lt_trans h k) k.oD.1,List.pairwise_cons.2 ⟨fun _ h=>by simp at h,.nil⟩,fun a ha b hb=>?_⟩
   simp only[List.mem_singleton]at hb
   subst hb
   exact k.old a ha
  ·rcases List.mem_append.1 hw with hw|hw
   ·exact k.oD.2.1 w hw
   ·simp only[List.mem_singleton]at hw
    subst hw
    rintro(h|h)
    ·exact hl (List.eq_nil_of_length_eq_zero (by rw[←aN];exact congrArg List.length h))
    ·exact h ((j0 _ _).2 ⟨fun x hx=>⟨(hb x hx).1,(hb x hx).2.1⟩,h2⟩)
  ·rw[cH,j0]
   exact⟨fun x hx=>by
    rcases(hA x).1 hx with h|h
    ·exact c1 x h
    ·exact⟨(hb x h).1,(hb x h).2.1⟩,hP.nodup_iff.2 hN⟩
  ·rw[Bool.and_eq_true,Bool.not_eq_true',decide_eq_false_iff_not]at hi
   have:=k.own i hi.1
   refine⟨this.1,this.2.1,fun hx=>?_⟩
   rcases(hA _).1 hx with h|h
   ·exact this.2.2 h
   ·exact hi.2 h
  ·rw[Bool.and_eq_true,Bool.not_eq_true',decide_eq_false_iff_not,Int.toNat_of_nonneg (by omega)]
   by_cases hx:x∈l
   ·exact .inl ((hA x).2 (.inr hx))
   ·exact(k.all x a b).imp (fun h=>(hA x).2 (.inl h)) fun h=>⟨h,hx⟩
  ·rcases List.mem_append.1 hw with hw|hw
   ·have:=k.old w hw;omega
   ·simp only[List.mem_singleton]at hw
    subst hw;simp only;omega
theorem DX(top:Nat)(h:2≤top):og top ⟨2,[],[]⟩ (fun _=>false) 1:=by
 have hr:Row (listed ⟨2,[],[]⟩) 2:=by
  rw[cH,j0]
  exact⟨fun x hx=>by simp[rZ,nY]at hx,by simp[rZ,nY]⟩
 refine⟨⟨fun i a c h0 ha=>?_,fun w hw=>?_,Int.le_refl _,?_,fun i a hi=>?_,hr⟩,fun i hi=>?_,fun x a b=>?_,fun w hw=>?_⟩
 ·simp at ha
 ·simp at hw
 ·show(2:Int)≤top;omega
 ·simp at hi
 ·cases hi
 ·exact absurd b (by show¬x<2;omega)
 ·simp at hw
def H0(n:N)(l:List C):List DV:=[dI n.ak,dB n.leaf,.sl 1 false (n.l.map fun c=>dS c.key),.sl 2 false ((if n.leaf then n.l else []).map fM),.sl 5 false ((aI n).map dT),.sl 6 false (l.map lD)]
theorem JJ(w0:W0)(n:N)(l:List C)(S:St):aa Tryz.prog w0 97 [eV n l] S (fun d S'=>∃b:FN S.box,d= .v (.func (.func 149) #[] #[.pointer (some ⟨b.n,0,none⟩)])∧S'=⟨(b.n,H0 n l)::S.box,S.acc⟩):=by
 refine nt [] mx Tryz.func97 rfl rfl (by kernel_rfl) ?_;(refine @ab _ ?_;refine ao @Tryz.ntmps97 ?_)
 exact fun b=>⟨b,rfl,rfl⟩
def gR(n:N)(l:List C):List N:=n::l.map ay
structure Wk2 where
 T:St
 k:Nat
theorem RX(w0:W0)(y b2:Nat)(n:N)(l:List C)(X:List N→St)(hl:l.length≤1048576)
 (h2:∀pre,lk (X pre).box b2=some (H0 n l))
 (hy:YK Tryz.prog w0 y X (fun x=>[eT x]) (gR n l)):∀T,Has (X []) T→aa Tryz.prog w0 149 [.v (.func (.yield y) #[] #[]),.v (.pointer (some ⟨b2,0,none⟩))] T (fun _ T'=>Has (X (gR n l)) T'):=by
 intro T hT
 have t2:lk T.box b2=some (H0 n l):=hT.box _ _ (h2 [])
 unfold H0 at t2 h2
 refine nt [] mx Tryz.func149 rfl rfl (by kernel_rfl) ?_;simp only[Tryz.ntmps149,List.length_cons,List.length_nil,Nat.reduceAdd,Nat.reduceSub,List.reduceReplicate,List.cons_append,List.nil_append];(refine @ab _ ?_;refine aO @Tryz.ntmps149 @t2 ?_)
 have hp0:([]++[n]) <+: gR n l:=⟨l.map ay,rfl⟩
 refine Lo (hy [] n _ hp0 hT) ?_
 rintro d T2 ⟨rfl,hT2,hK⟩
 have u2:=hT2.box _ _ (h2 _)
 (refine @ab _ ?_;refine ao @u2 ?_)
 refine iH [] [0,11,12,13] (fun s:Wk2=>[(13,dI s.k)]) (fun s=>s.T) (fun s=>s.k≤l.length∧Has (X (n::(l.take s.k).map ay)) s.T) (fun s=>l.length-s.k) ⟨T2,0⟩ mx (by kernel_rfl) ?_ ?_
 ·(refine @ab _ ?_;refine au ?_)
  exact⟨Nat.zero_le _,hT2⟩
 ·rintro⟨T,k⟩ ⟨h1,hTk⟩
  simp only at h1 hTk
  (refine @ab _ ?_;refine au ?_)
  refine⟨fun hlt=>⟨hlt,fun c hc b5=>?_⟩,fun hge=>?_⟩
  ·have hpk:((n::(l.take k).map ay)++[ay c])=n::(l.take (k+1)).map ay:=by rw[List.take_add_one,hc];simp
   have hpre:((n::(l.take k).map ay)++[ay c]) <+: gR n l:=by
    rw[hpk]
    exact List.cons_prefix_cons.2 ⟨rfl,(List.take_prefix _ _).map _⟩
   refine Lo (hy _ (ay c) _ hpre (hTk.bw b5 _ rfl)) ?_
   rintro d T3 ⟨rfl,hT3,hK3⟩
   rw[hpk]at hT3
   (refine @ab _ ?_;refine au ?_)
   exact⟨⟨T3,k+1⟩,⟨by simp only;omega,hT3⟩,by simp only;omega,aW k (by omega),.refl _⟩
  ·rw[List.take_of_length_le (by omega)]at hTk
   exact hTk
theorem Ap(w0:W0)(b:Nat)(l:List Int)(p:Int)(S:St)(hb:lk S.box b=some [dL l])(hl:Up l)(h0:l.length≤1073741824):aa Tryz.prog w0 183 [dI p,.v (.pointer (some ⟨b,0,none⟩))] S (fun d S'=>d=dB (decide (p∈l))∧S'=S):=by
 refine aY [] mx Tryz.func183 rfl rfl (by kernel_rfl) ?_;simp only[Tryz.ntmps183,List.length_cons,List.length_nil,Nat.reduceAdd,Nat.reduceSub,List.reduceReplicate,List.cons_append,List.nil_append];(refine @ab _ ?_;refine aO @Tryz.ntmps183 @hb ?_)
 refine aq (Pf w0 l p S hl h0) ?_
 (refine @ab _ ?_;exact aK)
theorem S8(w0:W0)(b m:Nat)(l zs:List Int)(S:St)(hb:lk S.box b=some [dL l])(hm:lk S.acc m=some (.arr 1 (zs.map dI)))(hl:Up l)(h0:l.length≤1073741824)(h1:zs.length≤1073741824):
 aa Tryz.prog w0 229 [.acc m zs.length,.v (.func (.func 183) #[] #[.pointer (some ⟨b,0,none⟩)])] S (fun d S'=>d=dI (Dx l zs)∧S'=S):=by
 refine aY [] mx Tryz.func229 rfl rfl (by kernel_rfl) ?_;(refine @ab _ ?_;refine fa @Tryz.ntmps229 @hb @hm ?_)
 refine aA [] zs.length [0,1,7,8] (fun k=>[(8,dI k)]) (fun _=>S) (fun k=>k≤zs.findIdx (mh l)) mx (by kernel_rfl) ?_ ?_
 ·(refine @ab _ ?_;refine au ?_)
  exact Nat.zero_le _
 ·intro k hk hinv
  (refine @ab _ ?_;refine aO @hb @hm ?_)
  refine⟨fun hlt=>⟨hlt,hlt,fun a ha=>aq (Ap w0 b l a S hb hl h0) ?_⟩,fun hge=>?_⟩
  ·have hak:zs[k]=a:=(List.getElem?_eq_some_iff.1 ha).2
   (refine @ab _ ?_;refine au ?_)
   refine⟨fun hin=>?_,fun hni=>⟨hlt,?_,by rw[ba (by omega) (by omega)];omega⟩⟩
   ·have:¬k<zs.findIdx (mh l):=fun h=>by
     have:=List.not_of_lt_findIdx h
     rw[hak]at this
     simp[mh,hin]at this
    unfold Dx
    rw[if_pos (by omega)];omega
   ·rcases Nat.lt_or_ge k (zs.findIdx (mh l))with h|h
    ·exact h
    ·have he:zs.findIdx (mh l)=k:=by omega
     have:=List.findIdx_getElem (xs:=zs) (p:=mh l) (w:=by omega)
     simp only[he,hak]at this
     simp[mh,hni]at this
  ·unfold Dx
   rw[if_neg (by omega)]
theorem QL(w0:W0)(b:Nat)(l zs:List Int)(B:List (Nat×List DV))(A:List (Nat×Ob))(m:FN A)(hb:lk B b=some [dL l])(hl:Up l)(h0:l.length≤1073741824)(h1:zs.length≤1073741824):
 aa Tryz.prog w0 182 [.acc m.n zs.length,.v (.func (.func 183) #[] #[.pointer (some ⟨b,0,none⟩)])] ⟨B,(m.n,.arr 1 (zs.map dI))::A⟩ (fun d S'=>∃m':FN A,d= .acc m'.n (gp l zs).length∧S'=⟨B,(m'.n,.arr 1 ((gp l zs).map dI))::A⟩):=by
 refine nt [11] mx Tryz.func182 rfl rfl (by kernel_rfl) ?_;simp(maxDischargeDepth:=12) (maxSteps:=1000000) -implicitDefEqProofs only[Tryz.ntmps182,go_sem,Nat.reduceAdd,Nat.reduceSub,Nat.reduceMul,Nat.reduceLeDiff,Nat.reduceEqDiff,Nat.reduceGT,Nat.reduceBEq,reduceCtorEq,↓reduceIte,Int.reduceToNat,Int.reduceLE,Int.reduceLT,Int.reduceNe,Int.reduceEq,hb]
 refine .inl (aq (S8 w0 b m.n l zs _ (by simp(maxDischargeDepth:=12) (maxSteps:=1000000) -implicitDefEqProofs only[go_sem,Nat.reduceAdd,Nat.reduceSub,Nat.reduceMul,Nat.reduceLeDiff,Nat.reduceEqDiff,Nat.reduceGT,Nat.reduceBEq,reduceCtorEq,↓reduceIte,Int.reduceToNat,Int.reduceLE,Int.reduceLT,Int.reduceNe,Int.reduceEq,hb]) (by simp(maxDischargeDepth:=12) (maxSteps:=1000000) -implicitDefEqProofs only[go_sem,Nat.reduceAdd,Nat.reduceSub,Nat.reduceMul,Nat.reduceLeDiff,Nat.reduceEqDiff,Nat.reduceGT,Nat.reduceBEq,reduceCtorEq,↓reduceIte,Int.reduceToNat,Int.reduceLE,Int.reduceLT,Int.reduceNe,Int.reduceEq]) hl h0 h1) ?_)
 simp(maxDischargeDepth:=12) (maxSteps:=1000000) -implicitDefEqProofs only[go_sem,Nat.reduceAdd,Nat.reduceSub,Nat.reduceMul,Nat.reduceLeDiff,Nat.reduceEqDiff,Nat.reduceGT,Nat.reduceBEq,reduceCtorEq,↓reduceIte,Int.reduceToNat,Int.reduceLE,Int.reduceLT,Int.reduceNe,Int.reduceEq,hb]
 refine⟨fun hm1=>?_,fun hm1=>?_⟩
 ·have hge:zs.length≤zs.findIdx (mh l):=by
   unfold Dx at hm1
   split at hm1 <;>omega
  have hf:gp l zs=zs:=by
   refine List.filter_eq_self.2 fun a ha=>?_
   obtain⟨x,hx⟩:=List.mem_iff_getElem?.1 ha
   have hlt:=(List.getElem?_eq_some_iff.1 hx).1
   have:=List.not_of_lt_findIdx (Nat.lt_of_lt_of_le hlt hge)
   rw[(List.getElem?_eq_some_iff.1 hx).2]at this
   simpa using this
  exact⟨m,by rw[hf],by rw[hf]⟩
 ·have hlt:zs.findIdx (mh l)<zs.length:=by
   unfold Dx at hm1
   split at hm1 <;>first|assumption|exact absurd rfl hm1
  generalize hi0:zs.findIdx (mh l)=i0 at hlt
  have hidx:Dx l zs=(i0:Int):=by unfold Dx;rw[hi0,if_pos hlt]
  have htk:gp l (zs.take (i0+1))=zs.take i0:=by
   have hx:zs[i0]? =some zs[i0]:=List.getElem?_eq_getElem hlt
   have hh:=List.findIdx_getElem (xs:=zs) (p:=mh l) (w:=by omega)
   simp only[hi0]at hh
   rw[List.take_add_one,hx,Option.toList_some]
   unfold gp
   rw[List.filter_append,List.filter_eq_self.2 fun a ha=>?_]
   ·simp[hh]
   ·obtain⟨x,hx⟩:=List.mem_iff_getElem?.1 ha
    rw[List.getElem?_take]at hx
    split at hx
    ·rename_i hxi
     have:=List.not_of_lt_findIdx (p:=mh l) (xs:=zs) (i:=x) (by omega)
     rw[(List.getElem?_eq_some_iff.1 hx).2]at this
     simpa using this
    ·cases hx
  rw[hidx]
  refine iH [11] [0,1,5,6] (fun s:Nat×Nat×List Int=>[(5,dI s.1),(6,dI s.2.1)]) (fun s=>⟨B,(m.n,.arr 1 (s.2.2.map dI))::A⟩) (fun s=>s.1<s.2.1∧s.2.1≤zs.length∧s.2.2.length=zs.length∧s.2.2.take s.1=gp l (zs.take s.2.1)∧∀x,s.2.1≤x→s.2.2[x]? =zs[x]?) (fun s=>zs.length-s.2.1) (i0,i0+1,zs) mx (by kernel_rfl) ?_ ?_
  ·simp(maxDischargeDepth:=12) (maxSteps:=1000000) -implicitDefEqProofs only[go_sem,Nat.reduceAdd,Nat.reduceSub,Nat.reduceMul,Nat.reduceLeDiff,Nat.reduceEqDiff,Nat.reduceGT,Nat.reduceBEq,reduceCtorEq,↓reduceIte,Int.reduceToNat,Int.reduceLE,Int.reduceLT,Int.reduceNe,Int.reduceEq]
   exact⟨⟨by omega,htk.symm⟩,by rw[ba (by omega) (by omega)];omega⟩
  ·rintro⟨i,j,xs⟩ ⟨k1,k2,k3,k4,k5⟩
   simp only at k1 k2 k3 k4 k5
   rw[←k3]
   simp(maxDischargeDepth:=12) (maxSteps:=1000000) -implicitDefEqProofs only[go_sem,Nat.reduceAdd,Nat.reduceSub,Nat.reduceMul,Nat.reduceLeDiff,Nat.reduceEqDiff,Nat.reduceGT,Nat.reduceBEq,reduceCtorEq,↓reduceIte,Int.reduceToNat,Int.reduceLE,Int.reduceLT,Int.reduceNe,Int.reduceEq]
   refine⟨fun hj=>⟨hj,hj,fun a ha=>aq (Ap w0 b l a _ (by simp(maxDischargeDepth:=12) (maxSteps:=1000000) -implicitDefEqProofs only[go_sem,Nat.reduceAdd,Nat.reduceSub,Nat.reduceMul,Nat.reduceLeDiff,Nat.reduceEqDiff,Nat.reduceGT,Nat.reduceBEq,reduceCtorEq,↓reduceIte,Int.reduceToNat,Int.reduceLE,Int.reduceLT,Int.reduceNe,Int.reduceEq,hb]) hl h0) ?_⟩,fun hj=>?_⟩
   ·have hzj:zs[j]? =some a:=by rw[←k5 j (Nat.le_refl _)];exact ha
    have hfj:gp l (zs.take (j+1))=gp l (zs.take j)++(if a∈l then []else [a]):=by
     rw[List.take_add_one,hzj,Option.toList_some]
     unfold gp
     rw[List.filter_append]
     congr 1
     by_cases h:a∈l <;>simp[mh,h]
    have dn:(xs.map dI).set i (.v (.int .i64 a))=(xs.set i a).map dI:=(List.map_set (f:=dI)).symm
    simp(maxDischargeDepth:=12) (maxSteps:=1000000) -implicitDefEqProofs only[go_sem,Nat.reduceAdd,Nat.reduceSub,Nat.reduceMul,Nat.reduceLeDiff,Nat.reduceEqDiff,Nat.reduceGT,Nat.reduceBEq,reduceCtorEq,↓reduceIte,Int.reduceToNat,Int.reduceLE,Int.reduceLT,Int.reduceNe,Int.reduceEq,hb,dn]
    have hj':IntKind.i64.wrap ((j:Int)+1)=((j+1:Nat):Int):=by rw[ba (by omega) (by omega)];omega
    have hi':IntKind.i64.wrap ((i:Int)+1)=((i+1:Nat):Int):=by rw[ba (by omega) (by omega)];omega
    refine⟨fun hni=>⟨by omega,by omega,fun _ _=>⟨(i+1,j+1,xs.set i a),⟨by simp only;omega,by simp only;omega,by simp,?_,fun x hx=>?_⟩,by simp only;omega,⟨hi',hj'⟩,.refl _⟩⟩,fun hin=>⟨(i,j+1,xs),⟨by simp only;omega,by simp only;omega,rfl,?_,fun x hx=>k5 x (by simp only at hx;omega)⟩,by simp only;omega,⟨rfl,hj'⟩,.refl _⟩⟩
    ·simp only
     rw[hfj,if_neg hni,←k4,List.take_add_one,List.getElem?_set_self (by omega),List.take_set_of_le (Nat.le_refl _)];rfl
    ·simp only at hx ⊢
     rw[List.getElem?_set_ne (by omega)]
     exact k5 x (by omega)
    ·simp only
     rw[hfj,if_pos (Decidable.not_not.1 hin),List.append_nil,k4]
   ·have hjn:j=xs.length:=by omega
    have hfin:xs.take i=gp l zs:=by rw[k4,hjn,k3,List.take_length]
    have hfl:(gp l zs).length=i:=by rw[←hfin,List.length_take];omega
    refine TM (l:=m.n) (k:=i) (xs:=xs.map dI) ty.k37 ty.z3 (by simp[rc]) rfl (by simp(maxDischargeDepth:=12) (maxSteps:=1000000) -implicitDefEqProofs only[go_sem,Nat.reduceAdd,Nat.reduceSub,Nat.reduceMul,Nat.reduceLeDiff,Nat.reduceEqDiff,Nat.reduceGT,Nat.reduceBEq,reduceCtorEq,↓reduceIte,Int.reduceToNat,Int.reduceLE,Int.reduceLT,Int.reduceNe,Int.reduceEq]) (by rw[List.length_map];omega) rfl (by simp[rc]) (by simp[rc]) (by simp[rc]) fun v u=>?_
    simp(maxDischargeDepth:=12) (maxSteps:=1000000) -implicitDefEqProofs only[go_sem,Nat.reduceAdd,Nat.reduceSub,Nat.reduceMul,Nat.reduceLeDiff,Nat.reduceEqDiff,Nat.reduceGT,Nat.reduceBEq,reduceCtorEq,↓reduceIte,Int.reduceToNat,Int.reduceLE,Int.reduceLT,Int.reduceNe,Int.reduceEq,hb,List.length_map]
    have hT:((xs.take i).map dI++List.replicate (xs.length-i) (DV.v (.int .i64 0))).take i=(gp l zs).map dI:=by
     rw[List.take_append_of_le_length (by rw[List.length_map,List.length_take];omega),List.take_of_length_le (by rw[List.length_map,List.length_take];omega),hfin]
    refine .inl ⟨.inr (by omega),⟨_,_,_,rfl⟩,by rw[List.length_replicate];omega,fun m'=>⟨⟨m'.n,m'.h.2.2⟩,by rw[hfl];rfl,?_⟩⟩
    rw[hT]
    first|done|rfl
theorem vR{X T:St}(h:Has X T){b:Nat}(hb:lk T.box b=none)(ds:List DV){A:List (Nat×Ob)}(hA:A=T.acc):Has X ⟨(b,ds)::T.box,A⟩:=⟨fun c x hc=>by
 have:=h.box c x hc
 simp only[lk]
 rw[if_neg (fun e=>by rw[e,this]at hb;cases hb)];exact this,by subst hA;exact h.acc⟩
theorem y6{X T T':St}(h:Kp X T T'){b:Nat}(hb:lk T'.box b=none)(ds:List DV){A:List (Nat×Ob)}(hA:A=T'.acc):Kp X T ⟨(b,ds)::T'.box,A⟩:=⟨fun c x hc hx=>by
 have:=h.box c x hc hx
 simp only[lk]
 rw[if_neg (fun e=>by rw[e,this]at hb;cases hb)];exact this,by subst hA;exact h.acc⟩
theorem sD{L:List (Nat×List DV)}{b c:Nat}(v:List DV)(h:lk L c=none):lk (up L b v) c=none:=by
 rw[Rz];split <;>simp[h]
def oL(l:List N):Nat:=(l.map dg).sum
theorem Gt(l:List N)(x:N):oL (l++[x])=oL l+dg x:=by simp[oL]
theorem I9{l m:List N}(h:l <+: m):oL l≤oL m:=by
 obtain⟨t,rfl⟩:=h
 simp[oL]
theorem Ai(n:N)(l:List C):oL (gR n l)=eu (n,l):=by
 unfold oL gR eu nF
 simp[List.map_map,Function.comp_def]
theorem o9{k:Nat}{n:N}{l:List C}(h:VI k n l)(hk:k≤116):∀x,x∈gR n l→DK x∧dg x≤70000∧(dO x).length≤70000:=fun x hx=>by
 have hx:TB k x:=by
  unfold gR at hx
  rcases List.mem_cons.1 hx with rfl|hx
  ·exact h.dir
  ·obtain⟨c,hc,rfl⟩:=List.mem_map.1 hx
   exact(h.cell c hc).2.1
 obtain⟨hr,d,hg,hd,ht⟩:=hx
 have h1:=tF (aw hg)
 have h2:=Ee qN (aw hg)
 exact⟨⟨d,aw hg,by omega⟩,by omega,by unfold dO;rw[aN];omega⟩
theorem E3:∀{l:List N},(∀x,x∈l→dg x≤70000)→oL l≤70000*l.length:=fun{l}=>by
 induction l with
 |nil=>intro _;exact Nat.zero_le _
 |cons c l ih=>
  intro h
  have h1:=ih fun c hc=>h c (List.mem_cons_of_mem _ hc)
  have h2:=h c List.mem_cons_self
  unfold oL at h1 ⊢
  rw[List.map_cons,List.sum_cons,List.length_cons];omega
theorem wC:∀{l:List N},(∀x,x∈l→(dO x).length≤70000)→(flat (l.map dO)).length≤70000*l.length:=fun{l}=>by
 induction l with
 |nil=>intro _;exact Nat.zero_le _
 |cons c l ih=>
  intro h
  have h1:=ih fun c hc=>h c (List.mem_cons_of_mem _ hc)
  have h2:=h c List.mem_cons_self
  unfold flat at h1 ⊢
  rw[List.map_cons,List.flatten_cons,List.length_append,List.length_cons];omega
theorem sW(n:N)(l:List C):(gR n l).length=l.length+1:=by unfold gR;rw[List.length_cons,List.length_map]
theorem uS(w0:W0)(k:Nat)(n:N)(l:List C)(S:St)(h:VI k n l)(hk:k≤116):aa Tryz.prog w0 129 [eV n l] S (fun d S'=>d=dI (eu (n,l))∧S'=S):=by
 have hln:=h.len
 have htf:=o9 h hk
 have hsl:=E3 (l:=gR n l) fun x hx=>(htf x hx).2.1
 rw[sW]at hsl
 have htre:=JJ w0 n l
 have hit:=fun w1 y b2 X=>RX w1 y b2 n l X (by omega)
 rw[←Ai]
 refine aY [] mx Tryz.func129 rfl rfl (by kernel_rfl) ?_;(refine @ab _ ?_;refine ao @Tryz.ntmps129 ?_)
 intro b b1
 refine bB (htre _) ?_
 rintro d S' ⟨b3,rfl,rfl⟩
 generalize gR n l=V at*
 generalize H0 n l=R at*
 (refine @ab _ ?_;refine au ?_)
 refine qv [] (fun pre=>⟨(b3.n,R)::(b1.n,[dI (oL pre)])::(b.n,[dI n.ak,dB n.leaf,.sl 1 false (n.l.map fun c=>dS c.key),.sl 2 false ((if n.leaf then n.l else []).map fM),.sl 5 false ((aI n).map dT),.sl 6 false (l.map lD)])::S.box,S.acc⟩) (fun x=>[eT x]) V mx (by kernel_rfl) rfl rfl rfl (fun _=>rfl) (fun _=>rfl) (fun _=>rfl) ?_ ?_ ?_
 ·intro y w1 hy T hT
  exact hit w1 y b3.n _ (fun _=>by(refine @ab _ ?_;exact aK)) hy T hT
 ·intro pre x T hp hT
  have t1:lk T.box b1.n=some [dI (oL pre)]:=hT.box _ _ (by(refine @ab _ ?_;exact aK))
  have hxV:x∈V:=by obtain⟨t,ht⟩:=hp;rw[←ht];simp
  have hfr:=Gt pre x
  have hfp:=I9 hp
  obtain⟨hfx,hf1,_⟩:=htf x hxV
  have hH:∀v,v=(oL (pre++[x]):Int)→Has _ ⟨up T.box b1.n [dI v],T.acc⟩:=fun v hv=>by rw[hv];exact xE hT _
  have hu:∀v:Int,up ((b3.n,R)::(b1.n,[dI (oL pre)])::(b.n,[dI n.ak,dB n.leaf,.sl 1 false (n.l.map fun c=>dS c.key),.sl 2 false ((if n.leaf then n.l else []).map fM),.sl 5 false ((aI n).map dT),.sl 6 false (l.map lD)])::S.box) b1.n [dI v]=(b3.n,R)::(b1.n,[dI v])::(b.n,[dI n.ak,dB n.leaf,.sl 1 false (n.l.map fun c=>dS c.key),.sl 2 false ((if n.leaf then n.l else []).map fM),.sl 5 false ((aI n).map dT),.sl 6 false (l.map lD)])::S.box:=fun v=>by(refine @ab _ ?_;exact aK)
  have hK:∀v,Kp ⟨(b3.n,R)::(b1.n,[dI (oL pre)])::(b.n,[dI n.ak,dB n.leaf,.sl 1 false (n.l.map fun c=>dS c.key),.sl 2 false ((if n.leaf then n.l else []).map fM),.sl 5 false ((aI n).map dT),.sl 6 false (l.map lD)])::S.box,S.acc⟩ T ⟨up T.box b1.n v,T.acc⟩:=fun v=>Kp.up (by(refine @ab _ ?_;exact aK))
  simp only[hu]at hH
  simp only[jo]
  (refine @ab _ ?_;refine ao @t1 ?_)
  intro b5
  have hb5:¬b5.n=b1.n:=fun e=>by have:=jy b5;rw[e,t1]at this;cases this
  refine aT (K9 w0 x _ hfx) ?_
  (refine @ab _ ?_;refine aO @t1 @hb5 ?_)
  exact⟨vR (hH _ (by rw[ba (by omega) (by omega)];omega)) (sD _ (jy b5)) _ rfl,y6 (hK _) (sD _ (jy b5)) _ rfl⟩
 ·(refine @ab _ ?_;exact aK)
def bJ(n:N)(l:List C):List Int:=bz (flat ((gR n l).map dO))
theorem Hb(w0:W0)(rows:List (List Int))(S:St)(h0:rows.length≤1099511627776)(h1:(flat rows).length≤1099511627776):
 aa Tryz.prog w0 99 [.sl 1 false (rows.map dL)] S (fun d S'=>∃m:FN S.acc,d= .acc m.n (flat rows).length∧S'=⟨S.box,(m.n,.arr 1 ((bz (flat rows)).map dI))::S.acc⟩):=by
 refine vp [] mx Tryz.func99 rfl rfl (by kernel_rfl) ?_;(refine @ab _ ?_;refine ao @Tryz.ntmps99 ?_)
 refine bB (concat w0 rows S h0 h1) ?_
 rintro d S' ⟨l,rfl,rfl⟩
 (refine @ab _ ?_;refine au ?_)
 refine .inl (bB (mN w0 (l:=l.n) (zs:=flat rows) (S:=⟨S.box,(l.n,.arr 1 ((flat rows).map dI))::S.acc⟩) (by simp[lk]) (by omega)) ?_)
 rintro d S' ⟨rfl,rfl⟩
 (refine @ab _ ?_;refine au ?_)
 exact⟨_,_,.refl _,.refl _,l,rfl,rfl⟩
theorem oy(w0:W0)(k:Nat)(n:N)(l:List C)(S:St)(h:VI k n l)(hk:k≤116):aa Tryz.prog w0 49 [eV n l] S (fun d S'=>∃m:FN S.acc,d= .acc m.n (flat ((gR n l).map dO)).length∧S'=⟨S.box,(m.n,.arr 1 ((bJ n l).map dI))::S.acc⟩):=by
 have hln:=h.len
 have htf:=o9 h hk
 have hfl:=wC (l:=gR n l) fun x hx=>(htf x hx).2.2
 have hVl:=sW n l
 rw[hVl]at hfl
 have htre:=JJ w0 n l
 have hit:=fun w1 y b2 X=>RX w1 y b2 n l X (by omega)
 have htg:=fun S=>Hb w0 ((gR n l).map dO) S (by rw[List.length_map,hVl];omega) (by omega)
 unfold bJ
 refine vp [] mx Tryz.func49 rfl rfl (by kernel_rfl) ?_;(refine @ab _ ?_;refine ao @Tryz.ntmps49 ?_)
 intro b b1
 refine bB (htre _) ?_
 rintro d S' ⟨b3,rfl,rfl⟩
 generalize gR n l=V at*
 generalize H0 n l=R at*
 (refine @ab _ ?_;refine au ?_)
 refine eg b1.n 0 1 (by omega) (ds:=[.sl 0 true []]) (by(refine @ab _ ?_;exact aK)) rfl fun lb=>?_
 (refine @ab _ ?_;refine au ?_)
 refine qv [] (fun pre=>⟨(b3.n,R)::(b1.n,[.acc lb.n pre.length])::(b.n,[dI n.ak,dB n.leaf,.sl 1 false (n.l.map fun c=>dS c.key),.sl 2 false ((if n.leaf then n.l else []).map fM),.sl 5 false ((aI n).map dT),.sl 6 false (l.map lD)])::S.box,(lb.n,.arr 1 ((pre.map dO).map dL))::S.acc⟩) (fun x=>[eT x]) V mx (by kernel_rfl) rfl rfl rfl (fun _=>rfl) (fun _=>rfl) (fun _=>rfl) ?_ ?_ ?_
 ·intro y w1 hy T hT
  exact hit w1 y b3.n _ (fun _=>by(refine @ab _ ?_;exact aK)) hy T hT
 ·intro pre x T hp hT
  have t1:lk T.box b1.n=some [.acc lb.n pre.length]:=hT.box _ _ (by(refine @ab _ ?_;exact aK))
  have u1:lk T.acc lb.n=some (.arr 1 ((pre.map dO).map dL)):=hT.acc _ _ (by(refine @ab _ ?_;exact aK))
  have hxV:x∈V:=by obtain⟨t,ht⟩:=hp;rw[←ht];simp
  have hpl:=hp.length_le
  rw[List.length_append]at hpl
  obtain⟨hfx,_,hf1⟩:=htf x hxV
  have hH:∀q:List N,q=pre++[x]→Has _ ⟨up T.box b1.n [.acc lb.n q.length],up T.acc lb.n (.arr 1 ((q.map dO).map dL))⟩:=fun v hv=>by rw[hv];exact zG hT _ _
  have hu:∀(q:List N),(⟨up ((b3.n,R)::(b1.n,[.acc lb.n pre.length])::(b.n,[dI n.ak,dB n.leaf,.sl 1 false (n.l.map fun c=>dS c.key),.sl 2 false ((if n.leaf then n.l else []).map fM),.sl 5 false ((aI n).map dT),.sl 6 false (l.map lD)])::S.box) b1.n [.acc lb.n q.length],up ((lb.n,.arr 1 ((pre.map dO).map dL))::S.acc) lb.n (.arr 1 ((q.map dO).map dL))⟩:St)=⟨(b3.n,R)::(b1.n,[.acc lb.n q.length])::(b.n,[dI n.ak,dB n.leaf,.sl 1 false (n.l.map fun c=>dS c.key),.sl 2 false ((if n.leaf then n.l else []).map fM),.sl 5 false ((aI n).map dT),.sl 6 false (l.map lD)])::S.box,(lb.n,.arr 1 ((q.map dO).map dL))::S.acc⟩:=fun v=>by(refine @ab _ ?_;exact aK)
  have hK:∀v o,Kp ⟨(b3.n,R)::(b1.n,[.acc lb.n pre.length])::(b.n,[dI n.ak,dB n.leaf,.sl 1 false (n.l.map fun c=>dS c.key),.sl 2 false ((if n.leaf then n.l else []).map fM),.sl 5 false ((aI n).map dT),.sl 6 false (l.map lD)])::S.box,(lb.n,.arr 1 ((pre.map dO).map dL))::S.acc⟩ T ⟨up T.box b1.n v,up T.acc lb.n o⟩:=fun v o=>Ke (by(refine @ab _ ?_;exact aK)) (by(refine @ab _ ?_;exact aK))
  simp only[hu]at hH
  simp only[jo]
  (refine @ab _ ?_;refine aO @t1 @u1 ?_)
  intro b5
  have hb5:¬b5.n=b1.n:=fun e=>by have:=jy b5;rw[e,t1]at this;cases this
  have hm8:maxLen=9223372036854775807:=rfl
  refine aT (LF w0 x _ hfx) ?_
  (refine @ab _ ?_;refine fa @t1 @u1 @hb5 ?_)
  have hQ:=hH (pre++[x]) rfl
  rw[List.length_append,List.length_cons,List.length_nil,List.map_append,List.map_append,List.map_cons,List.map_nil,List.map_cons,List.map_nil]at hQ
  refine⟨by omega,by omega,?_,y6 (hK _ _) (sD _ (jy b5)) _ rfl⟩
  rw[List.map_append,List.map_append,List.map_cons,List.map_nil,List.map_cons,List.map_nil]
  exact vR hQ (sD _ (jy b5)) _ rfl
 ·(refine @ab _ ?_;refine au ?_)
  refine .inr (bB (htg _) ?_ ⟨.full _ _ _,trivial⟩)
  rintro d S' ⟨m,rfl,rfl⟩
  (refine @ab _ ?_;refine au ?_)
  exact⟨_,_,.refl _,.bw (.bw (.bw (.Kc (.nZ (.refl _))))),⟨m.n,m.h.2.2⟩,rfl,rfl⟩
theorem vd{k:Nat}{n:N}{l:List C}(h:VI k n l)(hk:k≤116):(bJ n l).length=(flat ((gR n l).map dO)).length∧(bJ n l).length≤70000*117:=by
 have hln:=h.len
 have hfl:=wC (l:=gR n l) fun x hx=>(o9 h hk x hx).2.2
 rw[sW]at hfl
 have:=aN (flat ((gR n l).map dO))
 unfold bJ
 exact⟨this,by omega⟩
theorem OK(n:N)(l:List C):Up (bJ n l):=SI _
theorem vZ(w0:W0)(k:Nat)(n:N)(l:List C)(m:N)(q:List C)(S:St)(ha:VI k n l)(hb:VI k m q)(hk:k≤116):aa Tryz.prog w0 131 [eV n l,eV m q] S (fun d S'=>d=dL (gp (bJ m q) (bJ n l))∧S'=S):=by
 have hpa:=fun S=>oy w0 k n l S ha hk
 have hpb:=fun S=>oy w0 k m q S hb hk
 obtain⟨la,la2⟩:=vd ha hk
 obtain⟨lb,lb2⟩:=vd hb hk
 rw[←la]at hpa
 rw[←lb]at hpb
 have hub:=OK m q
 generalize bJ n l=A at*
 generalize bJ m q=B at*
 refine aY [2] mx Tryz.func131 rfl rfl (by kernel_rfl) ?_;(refine @ab _ ?_;refine ao @Tryz.ntmps131 ?_)
 intro b1 b2
 refine bB (hpb _) ?_
 rintro d S' ⟨m,rfl,rfl⟩
 (refine @ab _ ?_;refine au ?_)
 intro b3
 refine Lt b3.n 0 (l:=m.n) (s:=1) (xs:=B.map dI) (ds:=[.acc m.n B.length]) (by(refine @ab _ ?_;exact aK)) (by simp) (by(refine @ab _ ?_;exact aK)) ?_
 (refine @ab _ ?_;refine au ?_)
 refine fQ [] [] mx (by kernel_rfl) ?_
 (refine @ab _ ?_;refine au ?_)
 refine bB (hpa _) ?_
 rintro d S' ⟨m2,rfl,rfl⟩
 (refine @ab _ ?_;refine au ?_)
 refine .inl (bB (QL w0 b3.n B A _ _ m2 (by(refine @ab _ ?_;exact aK)) hub (by omega) (by omega)) ?_)
 rintro d S' ⟨m3,rfl,rfl⟩
 (refine @ab _ ?_;exact aK)
def sb(f w k:Nat):Bool:=decide ((f-k+w+58)/59≤k)
def pv(f w:Nat):Nat:=(List.range (f+w+1)).findIdx (sb f w)
theorem PS(f w:Nat):sb f w (f+w)=true:=by unfold sb;simp;omega
theorem xz(f w:Nat):pv f w<f+w+1:=by
 have:=List.findIdx_lt_length_of_exists (xs:=List.range (f+w+1)) (p:=sb f w) ⟨f+w,List.mem_range.2 (by omega),PS f w⟩
 rwa [List.length_range]at this
theorem KT(f w:Nat):sb f w (pv f w)=true:=by
 have h:=xz f w
 have:=List.findIdx_getElem (xs:=List.range (f+w+1)) (p:=sb f w) (w:=by rw[List.length_range];exact h)
 rwa [List.getElem_range]at this
theorem JS{f w k:Nat}(h:k<pv f w):sb f w k=false:=by
 have h2:=xz f w
 have:=List.not_of_lt_findIdx (xs:=List.range (f+w+1)) (p:=sb f w) h
 rw[List.getElem_range]at this
 simpa using this
theorem SC{f w k:Nat}(h:sb f w k=true):pv f w≤k:=by
 rcases Nat.lt_or_ge k (pv f w)with h1|h1
 ·rw[JS h1]at h;cases h
 ·exact h1
theorem wX(w0:W0)(n:Nat)(S:St)(h:n≤1099511627776):aa Tryz.prog w0 186 [dI n] S (fun d S'=>d=dI ((n+58)/59:Nat)∧S'=S):=by
 refine aY [] mx Tryz.func186 rfl rfl (by kernel_rfl) ?_;(refine @ab _ ?_;refine ao @Tryz.ntmps186 ?_)
 refine⟨fun h1=>by omega,fun h1=>?_⟩
 have e1:IntKind.i64.wrap ((n:Int)-1)=((n-1:Nat):Int):=by rw[ba (by omega) (by omega)];omega
 have e2:((n-1:Nat):Int).tdiv 59=((n-1)/59:Nat):=rfl
 have e3:IntKind.i64.wrap (((n-1)/59:Nat):Int)=(((n-1)/59:Nat):Int):=ba (by omega) (by omega)
 rw[e1,e2,e3,ba (by omega) (by omega)]
 omega
theorem AV(w0:W0)(a b:Int)(S:St)(h1: -1099511627776≤a)(h2:a≤274877906944)(h3: -1099511627776≤b)(h4:b≤274877906944):aa Tryz.prog w0 133 [dI a,dI b] S (fun d S'=>d=dI (pv a.toNat b.toNat)∧S'=S):=by
 have e1:(if a<0 then 0 else a)=(a.toNat:Int):=by split <;>omega
 have e2:(if b<0 then 0 else b)=(b.toNat:Int):=by split <;>omega
 have hN:=fun n h S=>wX w0 n S h
 have hl:=xz a.toNat b.toNat
 have his:=KT a.toNat b.toNat
 have hno:=fun k=>JS (f:=a.toNat) (w:=b.toNat) (k:=k)
 have hle:=fun k=>SC (f:=a.toNat) (w:=b.toNat) (k:=k)
 have ha:a.toNat≤274877906944:=by omega
 have hb:b.toNat≤274877906944:=by omega
 refine aY [] mx Tryz.func133 rfl rfl (by kernel_rfl) ?_;(refine @ab _ ?_;refine fa @Tryz.ntmps133 @e1 @e2 ?_)
 generalize pv a.toNat b.toNat=o at*
 generalize a.toNat=f at*
 generalize b.toNat=w at*
 refine iH [] [0,1,5] (fun k:Nat=>[(0,dI f),(1,dI w),(5,dI k)]) (fun _=>S) (fun k=>k≤o) (fun k=>f+w+1-k) 0 mx (by kernel_rfl) ?_ ?_
 ·(refine @ab _ ?_;refine au ?_)
  exact Nat.zero_le _
 ·intro k hk
  have e3:IntKind.i64.wrap ((f:Int)-k)=(f:Int)-k:=ba (by omega) (by omega)
  have e4:(if(f:Int)-k<0 then 0 else(f:Int)-k)=((f-k:Nat):Int):=by split <;>omega
  have e5:IntKind.i64.wrap (((f-k:Nat):Int)+w)=((f-k+w:Nat):Int):=by rw[ba (by omega) (by omega)];omega
  (refine @ab _ ?_;refine fa @e3 @e4 @e5 ?_)
  refine aq (hN (f-k+w) (by omega) _) ?_
  (refine @ab _ ?_;refine au ?_)
  refine⟨fun hy=>?_,fun hn=>?_⟩
  ·have:=hle k (by unfold sb;rw[decide_eq_true_eq];omega)
   omega
  ·refine⟨k+1,?_,by omega,aW k (by omega)⟩
   rcases Nat.lt_or_ge k o with h5|h5
   ·exact h5
   ·have:k=o:=by omega
    subst this
    unfold sb at his
    rw[decide_eq_true_eq]at his
    omega
def nj(q:N×List C)(p:Pl)(b:Nat):Nat:=eu q+pv (p.free.length-eu q) (nW p.wait+b)
theorem Uw{k:Nat}{n:N}{l:List C}(h:VI k n l)(hk:k≤116):eu (n,l)≤70000*117:=by
 have hln:=h.len
 have hsl:=E3 (l:=gR n l) fun x hx=>(o9 h hk x hx).2.1
 rw[sW,Ai]at hsl
 omega
theorem GC(w0:W0)(k:Nat)(n:N)(l:List C)(p:Pl)(c:Nat)(S:St)(h:VI k n l)(hk:k≤116)(hf:p.free.length≤500000)(hw:p.wait.length≤500000)(hn:nW p.wait+c≤100000000):aa Tryz.prog w0 177 [eV n l,dP p,dI c] S (fun d S'=>d=dI (nj (n,l) p c)∧S'=S):=by
 have hfr:=fun S=>uS w0 k n l S h hk
 have hwt:=fun S=>waiting w0 p S (by omega) (by omega)
 have hfl:=Uw h hk
 have hol:=xz (p.free.length-eu (n,l)) (nW p.wait+c)
 have how:=fun S=>AV w0 ((p.free.length:Int)-eu (n,l)) ((nW p.wait+c:Nat):Int) S (by omega) (by omega) (by omega) (by omega)
 have e1:((p.free.length:Int)-eu (n,l)).toNat=p.free.length-eu (n,l):=by omega
 rw[e1,Int.toNat_natCast]at how
 have hdef:nj (n,l) p c=eu (n,l)+pv (p.free.length-eu (n,l)) (nW p.wait+c):=rfl
 rw[hdef]
 generalize eu (n,l)=F at*
 have e2:IntKind.i64.wrap ((p.free.length:Int)-F)=(p.free.length:Int)-F:=ba (by omega) (by omega)
 have e3:IntKind.i64.wrap ((nW p.wait:Int)+c)=((nW p.wait+c:Nat):Int):=by rw[ba (by omega) (by omega)];omega
 refine aY [] mx Tryz.func177 rfl rfl (by kernel_rfl) ?_;(refine @ab _ ?_;refine ao @Tryz.ntmps177 ?_)
 intro b1 b2
 refine aq (hfr _) ?_
 (refine @ab _ ?_;refine au ?_)
 refine aT (hwt _) ?_
 (refine @ab _ ?_;refine aO @e2 @e3 ?_)
 refine aT (how _) ?_
 (refine @ab _ ?_;refine au ?_)
 rw[ba (by omega) (by omega)];omega
theorem vV(w0:W0)(k:Nat)(m:N)(q:List C)(n:N)(l:List C)(o:List Int)(p:Pl)(t:Int)(S:St)(h0:VI k m q)(h:VI k n l)(hk:k≤116)(hf:p.free.length≤500000)(hw:p.wait.length≤500000)(hn:nW p.wait+((gp (bJ n l) (bJ m q)).length+o.length)≤100000000)
 (h1: -1099511627776≤p.high) (h2:p.high≤1099511627776) (h3: -1099511627776≤t) (h4:t≤1099511627776):aa Tryz.prog w0 127 [eV m q,eV n l,dL o,dP p,dI t] S (fun d S'=>d=dB (decide ((nj (n,l) p ((gp (bJ n l) (bJ m q)).length+o.length):Int)≤dy p t))∧S'=S):=by
 have hlo:=fun S=>vZ w0 k m q n l S h0 h hk
 have hne:=fun S=>GC w0 k n l p ((gp (bJ n l) (bJ m q)).length+o.length) S h hk hf hw hn
 have hro:=fun S=>room w0 p t S (by omega) h1 h2 h3 h4
 generalize gp (bJ n l) (bJ m q)=L at*
 generalize nj (n,l) p (L.length+o.length)=Z at*
 have e3:IntKind.i64.wrap ((L.length:Int)+o.length)=((L.length+o.length:Nat):Int):=by rw[ba (by omega) (by omega)];omega
 refine aY [] mx Tryz.func127 rfl rfl (by kernel_rfl) ?_;(refine @ab _ ?_;refine ao @Tryz.ntmps127 ?_)
 intro b1 b2 b3
 refine aT (hlo _) ?_
 (refine @ab _ ?_;refine ao @e3 ?_)
 refine aT (hne _) ?_
 (refine @ab _ ?_;refine au ?_)
 refine aT (hro _) ?_
 (refine @ab _ ?_;exact aK)
theorem DD(w0:W0)(k:Nat)(n:N)(l:List C)(S:St)(h:VI k n l)(hk:k≤116):aa Tryz.prog w0 49 [eV n l] S (fun d S'=>d=dL (bJ n l)∧S'=S):=by
 have hl:=(vd h hk).1
 refine Ft ((oy w0 k n l S h hk).mono (K':=fun d S'=>oz S' d fun d S''=>Wk d (dL (bJ n l))∧Aml.Sub S S'') ?_)
 rw[←hl]
 generalize bJ n l=P
 rintro d S' ⟨m,rfl,rfl⟩
 (refine @ab _ ?_;exact aK)
structure Zt where
 label:Int
 bD:Int
 root:Int
 n8:Int
 high:Int
 n:N
 l:List C
 own:List Int
 p:Pl
def dn(L:List Int):Nat→Bool:=fun i=>decide ((i:Int)∈L)
structure ZI(k:Nat)(z:Zt):Prop where
 vi:VI k z.n z.l
 tv:TV (z.n,z.l)
 fr:eu (z.n,z.l)=0
 cl:kE (Bq z.l) z.n
 nd:(gS (z.n,z.l)++z.own).Nodup
 qh:∀x,x∈gS (z.n,z.l)++z.own→2≤x∧x<z.p.high
 keep:og 1000 z.p (dn (gS (z.n,z.l)++z.own)) (z.bD+1)
 high:z.high=z.p.high
 root:z.root=z.n.ak
 bD:0≤z.bD∧z.bD≤k
 label:0≤z.label∧z.label≤63
structure ZV(k:Nat)(z:Zt)(n:N)(l:List C):Prop where
 vi:VI k n l
 tv:TV (n,l)
 cl:kE (Bq l) n
 sub:∀p,(gS (n,l)).count p≤(gS (z.n,z.l)).count p
theorem ZI.zv{k:Nat}{z:Zt}(h:ZI k z):ZV k z z.n z.l:=⟨h.vi,h.tv,h.cl,fun _=>Nat.le_refl _⟩
theorem ZV.mem{k:Nat}{z:Zt}{n:N}{l:List C}(h:ZV k z n l){p:Int}(hp:p∈gS (n,l)):p∈gS (z.n,z.l):=
 List.count_pos_iff.1 (Nat.lt_of_lt_of_le (List.count_pos_iff.2 hp) (h.sub p))
theorem ZV.nd{k j:Nat}{z:Zt}{n:N}{l:List C}(h:ZV k z n l)(hz:ZI j z):(gS (n,l)).Nodup:=
 List.nodup_iff_count.2 fun p=>Nat.le_trans (h.sub p) (List.nodup_iff_count.1 (List.nodup_append.1 hz.nd).1 p)
theorem rR{k:Nat}{n:N}{l:List C}(h:VI k n l):(bJ n l).Perm (gS (n,l)):=by
 have h1:∀V:List N,(∀x,x∈V→∃d,Nd d x)→(flat (V.map dO)).Perm (V.flatMap bX):=fun V=>by
  induction V with
  |nil=>intro _;exact .refl _
  |cons a V ih=>
   intro hV
   obtain⟨d,hd⟩:=hV a List.mem_cons_self
   have:=ih fun x hx=>hV x (List.mem_cons_of_mem _ hx)
   unfold flat at this ⊢
   rw[List.map_cons,List.flatten_cons,List.flatMap_cons,IY hd]
   exact(bI _).append this
 have h2:=h1 (gR n l) fun x hx=>by
  have hx:TB k x:=by
   unfold gR at hx
   rcases List.mem_cons.1 hx with rfl|hx
   ·exact h.dir
   ·obtain⟨c,hc,rfl⟩:=List.mem_map.1 hx
    exact(h.cell c hc).2.1
  obtain⟨_,d,hg,_⟩:=hx
  exact⟨d,aw hg⟩
 have h3:(gR n l).flatMap bX=gS (n,l):=by
  unfold gR gS qj
  rw[List.flatMap_cons,List.flatMap_map]
 rw[h3]at h2
 exact(bI _).trans h2
theorem sK{A B:List Int}{p:Int}:p∈gp A B↔p∈B∧p∉A:=by
 unfold gp mh
 rw[List.mem_filter]
 simp
theorem IF{A A' B:List Int}(h:∀p,p∈B→(p∈A↔p∈A')):gp A B=gp A' B:=by
 unfold gp mh
 refine List.filter_congr fun p hp=>?_
 rw[decide_eq_decide.2 (h p hp)]
theorem Va{A B:List Int}(h:B.Nodup):(gp A B).Nodup:=List.Pairwise.sublist List.filter_sublist h
theorem Oy{k:Nat}{z:Zt}(h:ZI k z):(bJ z.n z.l).Nodup:=(rR h.vi).nodup_iff.2 (List.nodup_append.1 h.nd).1
def cq(z:Zt)(n:N)(l:List C):List Int:=gp (bJ n l) (bJ z.n z.l)++z.own
def mC(z:Zt)(n:N)(l:List C)(q:Int)(p:Pl):Prop:=(nj (n,l) p (cq z n l).length:Int)≤dy p q
theorem sU{p:Pl}{q m:Int}(h:may p q m)(hq:q≤1000):may p 1000 m:=by
 unfold may dy at*
 refine⟨h.1,Int.le_trans h.2 ?_⟩
 split <;>split <;>omega
theorem wZ{p:Pl}{q m:Int}(h:may p q m):(take p m).high≤max p.high q∧p.high≤(take p m).high:=by
 unfold may dy at h
 have hh:(take p m).high=p.high+((m.toNat-bf p m:Nat):Int):=rfl
 have ho:bf p m=min m.toNat p.free.length:=rfl
 rw[hh,ho]
 split at h <;>omega
theorem D8{p:Pl}{q m:Int}(h:may p q m):dy (take p m) q=dy p q-m:=by
 have h2:=h
 unfold may dy at h
 unfold dy
 have hh:(take p m).high=p.high+((m.toNat-bf p m:Nat):Int):=rfl
 have ho:bf p m=min m.toNat p.free.length:=rfl
 have hf:=mR p m
 rw[hf,hh,ho]
 split at h <;>split <;>omega
theorem RB{k j:Nat}{z:Zt}{n:N}{l:List C}{p:Pl}(hz:ZI j z)(hv:ZV k z n l)(hk:og 1000 p (dn (gS (z.n,z.l)++z.own)) (z.bD+1))(hm:may p 1000 (eu (n,l))):PV k n l (cQ p (eu (n,l))):=by
 obtain⟨t1,t2,t3⟩:=kQ hk hm
 have hno:∀x,x∈cQ p (eu (n,l))→x∉gS (z.n,z.l)++z.own:=fun x hx hx2=>by
  obtain⟨a,b,c⟩:=t1 x hx
  unfold dn at c
  rw[decide_eq_false_iff_not,Int.toNat_of_nonneg (by omega)]at c
  exact c hx2
 refine⟨hv.vi,hv.tv,List.nodup_append.2 ⟨hv.nd hz,t2,fun a ha b hb e=>hno b hb (List.mem_append_left _ (e▸hv.mem ha))⟩,fun x hx=>?_,by rw[lu];omega,hv.cl⟩
 rcases List.mem_append.1 hx with hx|hx
 ·have:=hz.qh x (List.mem_append_left _ (hv.mem hx))
  have:=hz.keep.oD.2.2.2.1
  omega
 ·have:=t1 x hx;omega
theorem Ff{top:Nat}{p:Pl}{h h':Nat→Bool}{t:Int}(k:og top p h t)(e:∀i,h i=h' i):og top p h' t:=by
 rw[←funext e];exact k
theorem wF{p:Pl}{t:Int}{l:List Int}(h:∀w,w∈p.wait→w.bD<t):(mJ p t l).free=p.free∧(mJ p t l).high=p.high∧nW (mJ p t l).wait=nW p.wait+l.length:=by
 by_cases hl:l=[]
 ·subst hl
  rw[show mJ p t []=p from if_pos rfl]
  exact⟨rfl,rfl,rfl⟩
 ·rw[mF hl fun w hw e=>by have:=h w (List.mem_of_getElem? hw);omega]
  refine⟨rfl,rfl,?_⟩
  show nW (p.wait++[⟨t,bz l⟩])=_
  unfold nW
  rw[List.map_append,List.sum_append]
  simp[aN]
def nO(z:Zt)(n:N)(l:List C)(p:Pl):Pl:=mJ (take p (eu (n,l))) (z.bD+1) (cq z n l)
def vt(z:Zt)(n:N)(l:List C)(p:Pl):Nat:=pv (nO z n l p).free.length (nW (nO z n l p).wait)
def fw(z:Zt)(n:N)(l:List C)(p:Pl):List Int:=cQ (nO z n l p) (vt z n l p)
def oT(z:Zt)(n:N)(l:List C)(p:Pl):Pl:=take (nO z n l p) (vt z n l p)
def jR(z:Zt)(n:N)(l:List C)(p:Pl)(M:N)(X:List C):Zt:=⟨z.label,z.bD+1,M.ak,(fw z n l p).headD 0,(oT z n l p).high,M,X,fw z n l p,oT z n l p⟩
structure PO(k:Nat)(z:Zt)(n:N)(l:List C)(q:Int)(p:Pl)(M:N)(X:List C):Prop where
 m1:may p q (eu (n,l))
 back:cq z M X=cq z n l
 m2:may (nO z n l p) q (vt z n l p)
 zi:ZI (k+1) (jR z n l p M X)
 row:Row (listed (oT z n l p)) 1000
 many:(listed (oT z n l p)).length≤59*(fw z n l p).length
 nd:(fw z n l p).Nodup
 qh:∀x,x∈fw z n l p→2≤x∧x≤999∧x∉listed (oT z n l p)
 at_:∀x,x∈cQ p (eu (n,l))++fw z n l p→2≤x∧x<(oT z n l p).high∧x∉gS (z.n,z.l)++z.own
 atn:(cQ p (eu (n,l))++fw z n l p).Nodup
 high:z.p.high≤(oT z n l p).high∧(oT z n l p).high≤max z.p.high q
theorem Qx{k:Nat}{z:Zt}{n:N}{l:List C}{q:Int}{p:Pl}{M:N}{X:List C}{R:List Int}{W:List (Int×ByteArray)}(hz:ZI k z)(hv:ZV k z n l)(hk:og 1000 p (dn (gS (z.n,z.l)++z.own)) (z.bD+1))(hph:p.high=z.p.high)(hq:q≤1000)(hf:mC z n l q p)(ha:PA k n l (cQ p (eu (n,l))) M X R W):PO k z n l q p M X:=by
 have hfit:nj (n,l) p (cq z n l).length=eu (n,l)+pv (p.free.length-eu (n,l)) (nW p.wait+(cq z n l).length):=rfl
 have m1:may p q (eu (n,l)):=by
  unfold mC at hf
  rw[hfit]at hf
  exact⟨by omega,by omega⟩
 have m1t:=sU m1 hq
 obtain⟨t1,t2,t3⟩:=kQ hk m1t
 have hpv:=RB hz hv hk m1t
 have htl:(cQ p (eu (n,l))).length=eu (n,l):=by rw[lu];omega
 have hno:∀x,x∈cQ p (eu (n,l))→x∉gS (z.n,z.l)++z.own:=fun x hx hx2=>by
  obtain⟨a,b,c⟩:=t1 x hx
  unfold dn at c
  rw[decide_eq_false_iff_not,Int.toNat_of_nonneg (by omega)]at c
  exact c hx2
 have hal:∀x,x∈gS (M,X)↔x∈gS (n,l)∨x∈cQ p (eu (n,l)):=fun x=>by
  rw[ha.al.mem_iff,List.mem_append,List.take_of_length_le (by omega)]
 have hzp:∀x,x∈bJ z.n z.l↔x∈gS (z.n,z.l):=fun x=>(rR hz.vi).mem_iff
 have hnp:∀x,x∈bJ n l↔x∈gS (n,l):=fun x=>(rR hv.vi).mem_iff
 have hMp:∀x,x∈bJ M X↔x∈gS (M,X):=fun x=>(rR ha.vi).mem_iff
 have hback:cq z M X=cq z n l:=by
  unfold cq
  rw[IF fun x hx=>?_]
  rw[hMp,hnp,hal]
  exact⟨fun e=>e.resolve_right fun e=>hno x e (List.mem_append_left _ ((hzp x).1 hx)),.inl⟩
 have hB:∀x,x∈cq z n l→x∈gS (z.n,z.l)++z.own:=fun x hx=>by
  unfold cq at hx
  rcases List.mem_append.1 hx with hx|hx
  ·exact List.mem_append_left _ ((hzp x).1 (sK.1 hx).1)
  ·exact List.mem_append_right _ hx
 have hdis:=(List.nodup_append.1 hz.nd).2.2
 have hBn:(cq z n l).Nodup:=by
  unfold cq
  refine List.nodup_append.2 ⟨Va (Oy hz),(List.nodup_append.1 hz.nd).2.1,fun a ha b hb e=>hdis a ((hzp a).1 (sK.1 ha).1) b hb e⟩
 have hold:=t3.old
 obtain⟨g1,g2,g3⟩:=wF (l:=cq z n l) hold
 have k3:=GZ t3 (l:=cq z n l) (fun x hx=>by
  have:=hz.qh x (hB x hx)
  refine⟨by omega,?_⟩
  unfold marks dn
  rw[Bool.or_eq_true,decide_eq_true_eq,Int.toNat_of_nonneg (by omega)]
  exact .inl (hB x hx)) hBn
 have e3:mJ (take p (eu (n,l))) (z.bD+1) (cq z n l)=nO z n l p:=rfl
 rw[e3]at g1 g2 g3 k3
 have hroom:=D8 m1
 have hm2:may (nO z n l p) q (vt z n l p):=by
  refine⟨by omega,?_⟩
  have e1:dy (nO z n l p) q=dy (take p (eu (n,l))) q:=by unfold dy;rw[g1,g2]
  have e2:vt z n l p=pv (p.free.length-eu (n,l)) (nW p.wait+(cq z n l).length):=by
   unfold vt
   rw[g3,g1,mR]
   have:(take p (eu (n,l))).wait=p.wait:=rfl
   rw[this]
   congr 1
   have:bf p (eu (n,l))=min (eu (n,l)) p.free.length:=by unfold bf;rw[Int.toNat_natCast]
   omega
  unfold mC at hf
  rw[hfit]at hf
  rw[e1,hroom,e2]
  omega
 have m2t:=sU hm2 hq
 obtain⟨u1,u2,u3⟩:=kQ k3 m2t
 have ho1:cQ (nO z n l p) (vt z n l p)=fw z n l p:=rfl
 have ho2:take (nO z n l p) (vt z n l p)=oT z n l p:=rfl
 rw[ho1]at u1 u2 u3
 rw[ho2]at u3
 have hset3:∀i:Nat,(marks (dn (gS (z.n,z.l)++z.own)) (cQ p (eu (n,l))) i&&!decide ((i:Int)∈cq z n l))=decide ((i:Int)∈gS (M,X)):=fun i=>by
  have:((i:Int)∈gS (z.n,z.l)++z.own∨(i:Int)∈cQ p (eu (n,l)))∧¬(i:Int)∈cq z n l↔(i:Int)∈gS (M,X):=by
   rw[hal]
   constructor
   ·rintro⟨h1|h1,h2⟩
    ·unfold cq at h2
     rw[List.mem_append,sK]at h2
     rcases List.mem_append.1 h1 with h1|h1
     ·exact .inl ((hnp _).1 (Classical.byContradiction fun e=>h2 (.inl ⟨(hzp _).2 h1,e⟩)))
     ·exact absurd (.inr h1) h2
    ·exact .inr h1
   ·rintro(h1|h1)
    ·refine⟨.inl (List.mem_append_left _ (hv.mem h1)),fun h2=>?_⟩
     unfold cq at h2
     rw[List.mem_append,sK]at h2
     rcases h2 with h2|h2
     ·exact h2.2 ((hnp _).2 h1)
     ·exact hdis _ (hv.mem h1) _ h2 rfl
    ·exact⟨.inr h1,fun h2=>hno _ h1 (hB _ h2)⟩
  unfold marks dn
  by_cases e:(i:Int)∈gS (M,X)
  ·obtain⟨e1,e2⟩:=this.2 e
   rw[decide_eq_true e,decide_eq_false e2,Bool.not_false,Bool.and_true,Bool.or_eq_true,decide_eq_true_eq,decide_eq_true_eq]
   exact e1
  ·rw[decide_eq_false e]
   cases h:((decide ((i:Int)∈gS (z.n,z.l)++z.own)||decide ((i:Int)∈cQ p (eu (n,l))))&&!decide ((i:Int)∈cq z n l))with
   |false=>rfl
   |true=>
    rw[Bool.and_eq_true,Bool.or_eq_true,decide_eq_true_eq,decide_eq_true_eq,Bool.not_eq_true',decide_eq_false_iff_not]at h
    exact absurd (this.1 h) e
 have htw:cQ p (eu (n,l)+vt z n l p)=cQ p (eu (n,l))++fw z n l p:=by
  rw[(Mn p (by omega) (by omega)).1]
  congr 1
  unfold fw cQ bf
  rw[g1,g2]
 have hmm:may p 1000 (eu (n,l)+vt z n l p):=by
  refine sU (q:=q) ⟨by omega,?_⟩ hq
  have h1:=hm2.2
  have e1:dy (nO z n l p) q=dy (take p (eu (n,l))) q:=by unfold dy;rw[g1,g2]
  rw[e1,hroom]at h1
  omega
 obtain⟨v1,v2,v3⟩:=kQ hk hmm
 rw[htw]at v1 v2
 have hlo:∀x,x∈gS (M,X)→2≤x:=fun x hx=>by
  rcases(hal x).1 hx with hx|hx
  ·exact(hz.qh x (List.mem_append_left _ (hv.mem hx))).1
  ·exact(t1 x hx).1
 have hown:∀x,x∈fw z n l p→x∉gS (M,X):=fun x hx hx2=>by
  obtain⟨a,b,c⟩:=u1 x hx
  rw[hset3,decide_eq_false_iff_not,Int.toNat_of_nonneg (by omega)]at c
  exact c hx2
 have hMn:(gS (M,X)).Nodup:=by
  refine ha.al.nodup_iff.2 ?_
  rw[List.take_of_length_le (by omega)]
  exact hpv.nd
 have hnd:(gS (M,X)++fw z n l p).Nodup:=List.nodup_append.2 ⟨hMn,u2,fun a h1 b h2 e=>hown b h2 (e▸h1)⟩
 have k4:og 1000 (oT z n l p) (dn (gS (M,X)++fw z n l p)) (z.bD+1+1):=Ff u3 fun i=>by
  show((marks (dn (gS (z.n,z.l)++z.own)) (cQ p (eu (n,l))) i&&!decide ((i:Int)∈cq z n l))||decide ((i:Int)∈fw z n l p))=_
  rw[hset3]
  unfold dn
  by_cases e1:(i:Int)∈gS (M,X)
  ·rw[decide_eq_true e1,decide_eq_true (List.mem_append_left _ e1)];rfl
  ·rw[decide_eq_false e1,Bool.false_or]
   exact decide_eq_decide.2 ⟨List.mem_append_right _,fun e=>(List.mem_append.1 e).resolve_left e1⟩
 have hrng:∀x,x∈gS (M,X)++fw z n l p→2≤x∧x<(oT z n l p).high:=fun x hx=>by
  have h2:2≤x:=(List.mem_append.1 hx).elim (hlo x) fun h=>(u1 x h).1
  have:=k4.own x.toNat (by unfold dn;rw[decide_eq_true_eq,Int.toNat_of_nonneg (by omega)];exact hx)
  rw[Int.toNat_of_nonneg (by omega)]at this
  exact⟨h2,this.2.1⟩
 have hhi1:=wZ m1
 have hhi2:=wZ hm2
 rw[ho2]at hhi2
 obtain⟨c1,c2,c3,c4,c5,c6⟩:=k4.oD
 have hall:=fun x hx=>(k4.own x hx).2.2
 refine⟨m1,hback,hm2,⟨fJ ha.vi (by omega),ha.tv,ha.fr,ha.cl,hnd,hrng,k4,rfl,rfl,⟨by have:=hz.bD.1;show 0≤z.bD+1;omega,by have:=hz.bD.2;show z.bD+1≤((k+1:Nat):Int);omega⟩,hz.label⟩,?_,?_,u2,fun x hx=>?_,fun x hx=>?_,?_,by omega,by omega⟩
 ·exact(lT _ _).2 ⟨fun a ha=>by have:=((lT _ _).1 c6).1 a ha;have c4:(oT z n l p).high≤1000:=c4;omega,((lT _ _).1 c6).2⟩
 ·have h1:=KT (nO z n l p).free.length (nW (nO z n l p).wait)
  unfold sb at h1
  rw[decide_eq_true_eq]at h1
  have e4:pv (nO z n l p).free.length (nW (nO z n l p).wait)=vt z n l p:=rfl
  rw[e4]at h1
  have e5:(fw z n l p).length=vt z n l p:=by unfold fw;rw[lu];omega
  have e6:(oT z n l p).free.length=(nO z n l p).free.length-vt z n l p:=by
   unfold oT
   rw[mR]
   have:bf (nO z n l p) (vt z n l p)=min (vt z n l p) (nO z n l p).free.length:=by unfold bf;rw[Int.toNat_natCast]
   omega
  rw[lZ,e5,e6]
  have e7:(oT z n l p).wait=(nO z n l p).wait:=rfl
  rw[e7]
  omega
 ·obtain⟨a,b,c⟩:=u1 x hx
  refine⟨a,by omega,fun h=>?_⟩
  have:=(k4.own x.toNat (by unfold dn;rw[decide_eq_true_eq,Int.toNat_of_nonneg (by omega)];exact List.mem_append_right _ hx)).2.2
  rw[Int.toNat_of_nonneg (by omega)]at this
  rw[cH]at h
  exact this ((bI _).mem_iff.1 h)
 ·have h1:2≤x∧x<(oT z n l p).high:=by
   rcases List.mem_append.1 hx with hx|hx
   ·exact hrng x (List.mem_append_left _ ((hal x).2 (.inr hx)))
   ·exact hrng x (List.mem_append_right _ hx)
  refine⟨h1.1,h1.2,fun h2=>?_⟩
  obtain⟨a,b,c⟩:=v1 x hx
  unfold dn at c
  rw[decide_eq_false_iff_not,Int.toNat_of_nonneg (by omega)]at c
  exact c h2
 ·exact v2
theorem No(w0:W0)(n:Int)(S:St):aa Tryz.prog w0 231 [dI n] S (fun d S'=>d=dB (decide (2≤n∧n≤999))∧S'=S):=by
 refine aY [] mx Tryz.func231 rfl rfl (by kernel_rfl) ?_;(refine @ab _ ?_;refine ao @Tryz.ntmps231 ?_)
 exact⟨fun h=>⟨fun e=>⟨h,e⟩,fun e=>e.2⟩,fun h e=>h e.1⟩
theorem Pg(w0:W0)(l:List Int)(S:St)(h0:l.length≤1048576)(hr:Row l 1000):aa Tryz.prog w0 187 [dL l] S (fun d S'=>d=dB true∧S'=S):=by
 refine aY [] mx Tryz.func187 rfl rfl (by kernel_rfl) ?_;(refine @ab _ ?_;refine ao @Tryz.ntmps187 ?_)
 refine aA [] l.length [0,5,6,7] (fun k=>[(7,dI k)]) (fun _=>S) (fun _=>True) mx (by kernel_rfl) ?_ ?_
 ·(refine @ab _ ?_;exact aK)
 ·intro k hk _
  (refine @ab _ ?_;refine au ?_)
  refine fun hlt=>⟨hlt,fun a ha=>?_⟩
  obtain⟨r1,r2,r3⟩:=mY hr ha
  have hpg:=fun S=>No w0 a S
  rw[decide_eq_true (⟨r1,by omega⟩:2≤a∧a≤999)]at hpg
  refine aq (hpg _) ?_
  (refine @ab _ ?_;refine au ?_)
  refine⟨fun h0=>?_,fun h0=>⟨hlt,aW k (by omega)⟩⟩
  have ew:IntKind.i64.wrap ((k:Int)-1)=((k-1:Nat):Int):=by rw[ba (by omega) (by omega)];omega
  rw[ew,Int.toNat_natCast]
  refine⟨by omega,by omega,fun b hb=>⟨fun e=>?_,fun _=>⟨hlt,aW k (by omega)⟩⟩⟩
  have:=r3 b (by omega) hb
  omega
def PT(es:List (Value×DV×Nat))(v:Int)(c:Nat):Prop:=iQ es (.int .i64 v)=if c=0 then none else some (dI c)
theorem ET{es:List (Value×DV×Nat)}{clk:Nat}{f:Int→Nat}(h:∀v,PT es v (f v))(a v:Int):PT (jS es clk (.int .i64 a) (dI (f a+1:Nat))) v (if v=a then f a+1 else f v):=by
 unfold PT
 by_cases e:v=a
 ·rw[if_pos e,if_neg (by omega),e,kv]
 ·rw[if_neg e,rQ _ _ (fun z=>e (by injection z)) _]
  exact h v
theorem zV{l:List Int}{k:Nat}{a:Int}(ha:l[k]? =some a)(v:Int):(l.take (k+1)).count v=if v=a then(l.take k).count a+1 else(l.take k).count v:=by
 rw[List.take_add_one,ha,Option.toList_some,List.count_append,List.count_singleton]
 by_cases e:v=a
 ·subst e;simp
 ·rw[if_neg e,if_neg (by simpa using fun z:a=v=>e z.symm)];rfl
theorem RF:IntKind.i64.wrap (0+1)=1:=by decide
theorem Ph(w0:W0)(at_ l:List Int)(S:St)(ha:at_.length≤1048576)(hl:l.length≤1048576)(hn:at_.Nodup)(hr:∀x,x∈at_→2≤x∧x≤999∧x∉l):aa Tryz.prog w0 188 [dL at_,dL l] S (fun d S'=>d=dB true∧S'=S):=by
 refine aY [] mx Tryz.func188 rfl rfl (by kernel_rfl) ?_;(refine @ab _ ?_;refine ao @Tryz.ntmps188 ?_)
 intro m
 refine iH [] [0,5,11,12,13] (fun s:Nat×List (Value×DV×Nat)×Nat=>[(13,dI s.1)]) (fun s=>⟨S.box,(m.n,.xo (.mp (.int .i64) s.2.1 s.2.2))::S.acc⟩) (fun s=>s.1≤l.length∧∀v,PT s.2.1 v ((l.take s.1).count v)) (fun s=>l.length-s.1) (0,[],0) mx (by kernel_rfl) ?_ ?_
 ·(refine @ab _ ?_;refine au ?_)
  exact⟨Nat.zero_le _,fun v=>rfl⟩
 ·rintro⟨k,es,clk⟩ ⟨h1,h2⟩
  simp only at h1 h2
  (refine @ab _ ?_;refine au ?_)
  refine⟨fun hlt=>⟨hlt,fun a ha2=>?_⟩,fun hge=>?_⟩
  ·have hcl:(l.take k).count a≤k:=Nat.le_trans List.count_le_length (by rw[List.length_take];omega)
   have e1:IntKind.i64.wrap (((l.take k).count a:Int)+1)=(((l.take k).count a+1:Nat):Int):=by rw[ba (by omega) (by omega)];omega
   have hstep:∀v,PT (jS es clk (.int .i64 a) (dI ((l.take k).count a+1:Nat))) v ((l.take (k+1)).count v):=fun v=>by rw[zV ha2];exact ET h2 a v
   have hc:=h2 a
   unfold PT at hc
   by_cases c0:(l.take k).count a=0
   ·rw[if_pos c0]at hc
    rw[c0]at e1 hstep
    (refine @ab _ ?_;refine aO @hc @e1 ?_)
    rw[RF]
    exact⟨(k+1,jS es clk (.int .i64 a) (dI (0+1:Nat)),rp es clk (.int .i64 a)),⟨hlt,hstep⟩,by show l.length-(k+1)<l.length-k;omega,aW k (by omega),.refl _⟩
   ·rw[if_neg c0]at hc
    (refine @ab _ ?_;refine aO @hc @e1 ?_)
    exact⟨(k+1,jS es clk (.int .i64 a) (dI ((l.take k).count a+1:Nat)),rp es clk (.int .i64 a)),⟨hlt,hstep⟩,by show l.length-(k+1)<l.length-k;omega,aW k (by omega),.refl _⟩
  ·have hle:l.take k=l:=List.take_of_length_le (by omega)
   rw[hle]at h2
   refine iH [] [5,22,23,24] (fun s:Nat×List (Value×DV×Nat)×Nat=>[(24,dI s.1)]) (fun s=>⟨S.box,(m.n,.xo (.mp (.int .i64) s.2.1 s.2.2))::S.acc⟩) (fun s=>s.1≤at_.length∧∀v,PT s.2.1 v (l.count v+(at_.take s.1).count v)) (fun s=>at_.length-s.1) (0,es,clk) mx (by kernel_rfl) ?_ ?_
   ·(refine @ab _ ?_;refine au ?_)
    exact⟨Nat.zero_le _,fun v=>h2 v⟩
   ·rintro⟨k,es,clk⟩ ⟨h1,h2⟩
    simp only at h1 h2
    (refine @ab _ ?_;refine au ?_)
    refine fun hlt=>⟨hlt,fun a ha2=>?_⟩
    obtain⟨r1,r2,r3⟩:=hr a (List.mem_of_getElem? ha2)
    have c1:l.count a=0:=List.count_eq_zero.2 r3
    have c2:(at_.take k).count a=0:=List.count_eq_zero.2 fun hm=>by
     obtain⟨i,hi⟩:=List.mem_iff_getElem?.1 hm
     have hik:i<k:=by have:=(List.getElem?_eq_some_iff.1 hi).1;rw[List.length_take]at this;omega
     rw[List.getElem?_take,if_pos hik]at hi
     obtain⟨u1,e1⟩:=List.getElem?_eq_some_iff.1 hi
     obtain⟨u2,e2⟩:=List.getElem?_eq_some_iff.1 ha2
     exact(List.pairwise_iff_getElem.1 hn) i k u1 u2 hik (e1.trans e2.symm)
    have hc:=h2 a
    unfold PT at hc
    rw[c1,c2,if_pos rfl]at hc
    have dn:iQ (jS es clk (.int .i64 a) (.v (.int .i64 1))) (.int .i64 a)=some (.v (.int .i64 1)):=kv _ _ _ _
    have hstep:∀v,PT (jS es clk (.int .i64 a) (dI (0+1:Nat))) v (l.count v+(at_.take (k+1)).count v):=fun v=>by
     have:=ET (clk:=clk) h2 a v
     rw[c1,c2]at this
     rw[zV ha2,c2]
     by_cases e:v=a
     ·rw[if_pos e]at this ⊢
      rw[e,c1];rw[e]at this;exact this
     ·rw[if_neg e]at this ⊢
      exact this
    have hpg:=fun S=>No w0 a S
    rw[decide_eq_true (⟨r1,r2⟩:2≤a∧a≤999)]at hpg
    (refine @ab _ ?_;refine ao @hc ?_)
    rw[RF]
    refine aq (hpg _) ?_
    (refine @ab _ ?_;refine ao @dn ?_)
    exact⟨fun e=>absurd e (by decide),fun _=>⟨(k+1,jS es clk (.int .i64 a) (dI (0+1:Nat)),rp es clk (.int .i64 a)),⟨hlt,hstep⟩,by show at_.length-(k+1)<at_.length-k;omega,aW k (by omega),.refl _⟩⟩
def uk(at_:List Int)(i:Nat):Int:=(at_[i+1]?).getD 0
def gU(L:List Int):ByteArray:=L.foldl (fun s n=>s++bF 2 n) aZ
def jb(l at_:List Int)(i:Nat):ByteArray:=gU (uk at_ i::(l.drop (59*i)).take 59)
def gI(l at_:List Int):List ByteArray:=(List.range at_.length).map fun i=>gz 4 [jb l at_ i]
theorem tz(L:List Int)(n:Int):gU (L++[n])=gU L++bF 2 n:=by unfold gU;rw[List.foldl_append];rfl
theorem ju(L:List Int):(gU L).size=2*L.length:=by
 suffices h:∀(L:List Int) (s:ByteArray),(L.foldl (fun s n=>s++bF 2 n) s).size=s.size+2*L.length by
  have:=h L aZ
  rw[bC]at this
  unfold gU;omega
 intro L
 induction L with
 |nil=>intro s;simp
 |cons a L ih=>intro s;rw[List.foldl_cons,ih,ByteArray.size_append,aC,List.length_cons];omega
theorem rk(l at_:List Int):(gI l at_).length=at_.length:=by unfold gI;rw[List.length_map,List.length_range]
theorem pT(l at_:List Int)(i:Nat):(jb l at_ i).size≤120:=by
 unfold jb
 rw[ju,List.length_cons,List.length_take]
 omega
def sc(l at_:List Int)(i:Nat):List Int:=uk at_ i::(l.drop (59*i)).take 59
theorem QE(l at_:List Int)(i:Nat):(sc l at_ i).length≤60:=by
 unfold sc;rw[List.length_cons,List.length_take];omega
theorem Sz(l at_:List Int)(i:Nat)(hr:Row l 1000)(hra:∀x,x∈at_→2≤x∧x≤999∧x∉l):∀a,a∈sc l at_ i→0≤a∧a<1000:=by
 intro a h
 unfold sc uk at h
 rcases List.mem_cons.1 h with h|h
 ·rcases e:at_[i+1]? with _|x
  ·rw[e]at h;simp only[Option.getD_none]at h;omega
  ·rw[e]at h;simp only[Option.getD_some]at h
   have:=hra x (List.mem_of_getElem? e)
   omega
 ·obtain⟨j,hj⟩:=List.mem_iff_getElem?.1 (List.mem_of_mem_drop (List.mem_of_mem_take h))
  have:=mY hr hj
  omega
theorem V0(l:List Int)(k:Nat):(l.take (min (min (59*k) l.length+59) l.length)).drop (min (59*k) l.length)=(l.drop (59*k)).take 59:=by
 apply List.ext_getElem?
 intro i
 rw[List.getElem?_drop,List.getElem?_take,List.getElem?_take,List.getElem?_drop]
 rcases Nat.lt_or_ge l.length (59*k)with h|h
 ·rw[List.getElem?_eq_none (l:=l) (i:=59*k+i) (by omega),List.getElem?_eq_none (l:=l) (i:=min (59*k) l.length+i) (by omega)]
  split <;>split <;>rfl
 ·rw[Nat.min_eq_left h]
  rcases Nat.lt_or_ge (59*k+i) l.length with h1|h1
  ·by_cases h2:i<59
   ·rw[if_pos (by omega),if_pos h2]
   ·rw[if_neg (by omega),if_neg h2]
  ·rw[List.getElem?_eq_none (l:=l) (i:=59*k+i) (by omega)]
   split <;>split <;>rfl
theorem Ak(l at_:List Int)(k:Nat)(h:k<at_.length):(gI l at_)[k]? =some (gz 4 [jb l at_ k]):=by
 unfold gI
 rw[List.getElem?_map,List.getElem?_range h];rfl
theorem PR(w0:W0)(hg:fF w0)(l at_:List Int)(S:St)(hl:l.length≤100000)(ha:at_.length≤100000)(hr:Row l 1000)(hm:l.length≤59*at_.length)(hn:at_.Nodup)(hra:∀x,x∈at_→2≤x∧x≤999∧x∉l):
 aa Tryz.prog w0 135 [dL l,dL at_] S (fun d S'=>d= .bN [.sl 1 false ((gI l at_).map fC),dI 0]∧S'=S):=by
 have hll:=rk l at_
 have hpk:=fun k S=>EL w0 hg 4 [jb l at_ k] S (by decide) (by decide) (by decide) (by have:=pT l at_ k;simp only[db,List.map_cons,List.map_nil,List.sum_cons,List.sum_nil];omega)
 refine aY [] mx Tryz.func135 rfl rfl (by kernel_rfl) ?_;(refine @ab _ ?_;refine ao @Tryz.ntmps135 ?_)
 refine aq (Pg w0 l _ (by omega) hr) ?_
 (refine @ab _ ?_;refine au ?_)
 refine aq (wX w0 l.length _ (by omega)) ?_
 (refine @ab _ ?_;refine au ?_)
 refine⟨fun h=>absurd h (by omega),fun _=>aq (Ph w0 at_ l _ (by omega) (by omega) hn hra) ?_⟩
 (refine @ab _ ?_;refine au ?_)
 refine j3 6 1 rfl (by omega) fun lo=>?_
 (refine @ab _ ?_;refine au ?_)
 refine aA [] at_.length [0,1,6,33,34] (fun k=>[(6,.acc lo.n k),(34,dI k)]) (fun k=>⟨S.box,(lo.n,.arr 1 (((gI l at_).take k).map fC))::S.acc⟩) (fun _=>True) mx (by kernel_rfl) ?_ ?_
 ·(refine @ab _ ?_;exact aK)
 ·intro k hk _
  have e1:IntKind.i64.wrap ((k:Int)+1)=((k+1:Nat):Int):=by rw[ba (by omega) (by omega)];omega
  have e2:IntKind.i64.wrap ((k:Int)*59)=((59*k:Nat):Int):=by rw[ba (by omega) (by omega)];omega
  have e3:(if l.length<59*k then(l.length:Int)else((59*k:Nat):Int))=((min (59*k) l.length:Nat):Int):=by split <;>omega
  have e4:IntKind.i64.wrap (((min (59*k) l.length:Nat):Int)+59)=((min (59*k) l.length+59:Nat):Int):=by rw[ba (by omega) (by omega)];omega
  have e5:(if l.length<min (59*k) l.length+59 then(l.length:Int)else((min (59*k) l.length+59:Nat):Int))=((min (min (59*k) l.length+59) l.length:Nat):Int):=by split <;>omega
  have hm8:maxLen=9223372036854775807:=rfl
  have hx:(k+1<at_.length∧at_[k+1]? =some (uk at_ k))∨(¬k+1<at_.length∧uk at_ k=0):=by
   unfold uk
   rcases Nat.lt_or_ge (k+1) at_.length with h|h
   ·exact .inl ⟨h,by rw[List.getElem?_eq_getElem h];rfl⟩
   ·exact .inr ⟨by omega,by rw[List.getElem?_eq_none h];rfl⟩
  have e6:=V0 l k
  have e8:min (min (min (59*k) l.length+59) l.length) l.length-min (59*k) l.length+1=(sc l at_ k).length:=by
   unfold sc;rw[List.length_cons,←e6,List.length_drop,List.length_take]
  have hcl:=QE l at_ k
  have hcb:=Sz l at_ k hr hra
  rcases hx with⟨h1,h2⟩|⟨h1,h2⟩
  ·have e7:DV.v (.int .i64 (uk at_ k))::List.map dI ((l.drop (59*k)).take 59)=List.map dI (sc l at_ k):=rfl
   (refine @ab _ ?_;refine Q0 @e1 @e2 @e3 @e4 @e5 @h1 @h2 @Int.toNat_natCast ?_)
   refine⟨fun hlt=>⟨by omega,by omega,by omega,by omega,fun lb=>?_⟩,fun hge=>⟨by omega,by rw[List.take_of_length_le (by omega)];exact .refl _⟩⟩
   rw[e6,e7,e8]
   refine j3 10 1 rfl (by omega) fun lc=>?_
   refine fQ [] [62] mx (by kernel_rfl) ?_
   (refine @ab _ ?_;refine au ?_)
   refine aA [] (sc l at_ k).length [0,1,6,10,33,34,62,63,64] (fun j=>[(10,.acc lc.n (2*j)),(64,dI j)]) (fun j=>⟨S.box,(lc.n,.arr 1 (bY (gU ((sc l at_ k).take j))))::(lb.n,.tl 1 ((sc l at_ k).map dI))::(lo.n,.arr 1 (((gI l at_).take k).map fC))::S.acc⟩) (fun _=>True) mx (by kernel_rfl) ?_ ?_
   ·have e0:bY (gU ((sc l at_ k).take 0))=[]:=rfl
    (refine @ab _ ?_;refine aO @e0 @Nat.mul_zero ?_)
    exact .refl _
   ·intro j hj _
    have ej:IntKind.i64.wrap ((j:Int)+1)=((j+1:Nat):Int):=by rw[ba (by omega) (by omega)];omega
    (refine @ab _ ?_;refine aO @ej @Int.toNat_natCast ?_)
    refine⟨fun hlt2=>⟨hlt2,fun a ha2=>?_⟩,fun hge2=>⟨by rw[bg,ju,List.length_take];omega,?_⟩⟩
    ·have hb:=hcb a (List.mem_of_getElem? ha2)
     rw[ja (by omega) (by omega)]
     refine aq (tn w0 a 2 _ (by decide) (by decide) (by omega) (by omega)) ?_
     have hz:(gU ((sc l at_ k).take j)).size=2*j:=by rw[ju,List.length_take];omega
     have hs:gU ((sc l at_ k).take (j+1))=gU ((sc l at_ k).take j)++bF 2 a:=by rw[List.take_add_one,ha2];exact tz _ _
     (refine @ab _ ?_;refine AW @bg @hz @aC @ej ?_)
     rw[hs,cP]
     exact⟨by omega,by omega,hlt2,by rw[show 2*j+2=2*(j+1)by omega];exact .refl _,.refl _⟩
    ·have hz:gU ((sc l at_ k).take j)=jb l at_ k:=by rw[List.take_of_length_le (by omega)];rfl
     rw[hz]
     refine aq (hpk k _) ?_ (.cons (.refl _) (.cons (Wk.full _ _ _) .nil))
     (refine @ab _ ?_;refine au ?_)
     have hs:(gI l at_).take (k+1)=(gI l at_).take k++[gz 4 [jb l at_ k]]:=by
      have:=Ak l at_ k hlt
      rw[List.take_add_one,this];rfl
     rw[hs,List.map_append,List.map_cons,List.map_nil]
     exact⟨by omega,by omega,by omega,hlt,⟨by rw[show min k (gI l at_).length+1=k+1 by omega];exact .refl _,e1⟩,.nZ (.nZ (.refl _))⟩
  ·have e7:DV.v (.int .i64 0)::List.map dI ((l.drop (59*k)).take 59)=List.map dI (sc l at_ k):=by unfold sc;rw[h2];rfl
   (refine @ab _ ?_;refine Q0 @e1 @e2 @e3 @e4 @e5 @h1 @h2 @Int.toNat_natCast ?_)
   refine⟨fun hlt=>⟨by omega,by omega,by omega,by omega,fun lb=>?_⟩,fun hge=>⟨by omega,by rw[List.take_of_length_le (by omega)];exact .refl _⟩⟩
   rw[e6,e7,e8]
   refine j3 10 1 rfl (by omega) fun lc=>?_
   refine fQ [] [62] mx (by kernel_rfl) ?_
   (refine @ab _ ?_;refine au ?_)
   refine aA [] (sc l at_ k).length [0,1,6,10,33,34,62,63,64] (fun j=>[(10,.acc lc.n (2*j)),(64,dI j)]) (fun j=>⟨S.box,(lc.n,.arr 1 (bY (gU ((sc l at_ k).take j))))::(lb.n,.tl 1 ((sc l at_ k).map dI))::(lo.n,.arr 1 (((gI l at_).take k).map fC))::S.acc⟩) (fun _=>True) mx (by kernel_rfl) ?_ ?_
   ·have e0:bY (gU ((sc l at_ k).take 0))=[]:=rfl
    (refine @ab _ ?_;refine aO @e0 @Nat.mul_zero ?_)
    exact .refl _
   ·intro j hj _
    have ej:IntKind.i64.wrap ((j:Int)+1)=((j+1:Nat):Int):=by rw[ba (by omega) (by omega)];omega
    (refine @ab _ ?_;refine aO @ej @Int.toNat_natCast ?_)
    refine⟨fun hlt2=>⟨hlt2,fun a ha2=>?_⟩,fun hge2=>⟨by rw[bg,ju,List.length_take];omega,?_⟩⟩
    ·have hb:=hcb a (List.mem_of_getElem? ha2)
     rw[ja (by omega) (by omega)]
     refine aq (tn w0 a 2 _ (by decide) (by decide) (by omega) (by omega)) ?_
     have hz:(gU ((sc l at_ k).take j)).size=2*j:=by rw[ju,List.length_take];omega
     have hs:gU ((sc l at_ k).take (j+1))=gU ((sc l at_ k).take j)++bF 2 a:=by rw[List.take_add_one,ha2];exact tz _ _
     (refine @ab _ ?_;refine AW @bg @hz @aC @ej ?_)
     rw[hs,cP]
     exact⟨by omega,by omega,hlt2,by rw[show 2*j+2=2*(j+1)by omega];exact .refl _,.refl _⟩
    ·have hz:gU ((sc l at_ k).take j)=jb l at_ k:=by rw[List.take_of_length_le (by omega)];rfl
     rw[hz]
     refine aq (hpk k _) ?_ (.cons (.refl _) (.cons (Wk.full _ _ _) .nil))
     (refine @ab _ ?_;refine au ?_)
     have hs:(gI l at_).take (k+1)=(gI l at_).take k++[gz 4 [jb l at_ k]]:=by
      have:=Ak l at_ k hlt
      rw[List.take_add_one,this];rfl
     rw[hs,List.map_append,List.map_cons,List.map_nil]
     exact⟨by omega,by omega,by omega,hlt,⟨by rw[show min k (gI l at_).length+1=k+1 by omega];exact .refl _,e1⟩,.nZ (.nZ (.refl _))⟩
end Go.Proofs.YtpjenciplibdnaaGreatDoor
namespace Go.Proofs.YtpjenciplibdnaaGreatDoor
open Aml Go
@[go_sem] def Wo (a t r l h:Int):List DV:=[dI a,dU t,dI r,dI l,dI h]
@[go_sem] def QG (a t r l h:Int):DV:= .agg (Wo a t r l h)
structure vG(a t r l h:Int):Prop where
 ha:0≤a∧a≤63
 ht:0<t∧t≤18446744073709551615
 hh:2≤h∧h≤1000
 hr:r=0∨(2≤r∧r<h)
 hl:l=0∨(2≤l∧l<h)
 U7:r=0∨r≠l
section
variable {a t r l h:Int}
theorem Rx(w0:W0)(n:Int)(S:St)(hn:n=0∨(2≤n∧n<h)):aa Tryz.prog w0 190 [QG a t r l h,dI n] S (fun d S'=>d=dB true∧S'=S):=by
 refine aY [] mx Tryz.func190 rfl rfl (by kernel_rfl) ?_;(refine @ab _ ?_;refine ao @Tryz.ntmps190 ?_)
 exact fun b h0=>⟨fun _=>by omega,fun h1=>by omega⟩
theorem Xn(w0:W0)(S:St)(hm:vG a t r l h):aa Tryz.prog w0 191 [QG a t r l h] S (fun d S'=>d=dB true∧S'=S):=by
 have h1:=hm.ha
 refine aY [] mx Tryz.func191 rfl rfl (by kernel_rfl) ?_;(refine @ab _ ?_;refine ao @Tryz.ntmps191 ?_)
 exact fun b=>⟨fun _=>by omega,fun h1=>by omega⟩
theorem W4(w0:W0)(S:St)(hm:vG a t r l h):aa Tryz.prog w0 192 [QG a t r l h] S (fun d S'=>d=dB true∧S'=S):=by
 have h1:=hm.ht
 refine aY [] mx Tryz.func192 rfl rfl (by kernel_rfl) ?_;(refine @ab _ ?_;refine ao @Tryz.ntmps192 ?_)
 exact fun b=>by omega
theorem V6(w0:W0)(S:St)(hm:vG a t r l h):aa Tryz.prog w0 193 [QG a t r l h] S (fun d S'=>d=dB true∧S'=S):=by
 have h1:=hm.hh
 refine aY [] mx Tryz.func193 rfl rfl (by kernel_rfl) ?_;(refine @ab _ ?_;refine ao @Tryz.ntmps193 ?_)
 exact fun b=>⟨fun _=>by omega,fun h1=>by omega⟩
theorem VM(w0:W0)(b:Nat)(S:St)(hb:lk S.box b=some [.v (.func (.func 190) #[] #[])])(hm:vG a t r l h):aa Tryz.prog w0 194 [QG a t r l h,.v (.pointer (some ⟨b,0,none⟩))] S (fun d S'=>d=dB true∧S'=S):=by
 refine aY [] mx Tryz.func194 rfl rfl (by kernel_rfl) ?_;simp only[Tryz.ntmps194,List.length_cons,List.length_nil,Nat.reduceAdd,Nat.reduceSub,List.reduceReplicate,List.cons_append,List.nil_append];(refine @ab _ ?_;refine aO @Tryz.ntmps194 @hb ?_)
 intro b1
 refine aq (Rx w0 r _ hm.hr) ?_
 (refine @ab _ ?_;refine ao @hb ?_)
 refine aq (Rx w0 l _ hm.hl) ?_
 (refine @ab _ ?_;refine au ?_)
 trivial
theorem Wd(w0:W0)(S:St)(hm:vG a t r l h):aa Tryz.prog w0 195 [QG a t r l h] S (fun d S'=>d=dB true∧S'=S):=by
 have h1:=hm.U7
 refine aY [] mx Tryz.func195 rfl rfl (by kernel_rfl) ?_;(refine @ab _ ?_;refine ao @Tryz.ntmps195 ?_)
 exact fun b h0=>by omega
theorem sY(w0:W0)(f:FuncId)(cs:List Value)(b:Nat)(S:St)(hb:lk S.box b=some (Wo a t r l h))(hok:okF Tryz.prog f=true)(hcs:cs.all (fun u=>u.oneCell')=true)
 (hf:∀T,Has S T→aa Tryz.prog w0 f (QG a t r l h::cs.map .v) T (fun d S'=>d=dB true∧S'=T)):
 aa Tryz.prog w0 138 [.agg [.v (.func (.func f) #[] cs.toArray)],.v (.pointer (some ⟨b,0,none⟩))] S (fun d S'=>d=dB false∧S'=S):=by
 refine aY [] mx Tryz.func138 rfl rfl (by kernel_rfl) ?_;simp only[Tryz.ntmps138,List.length_cons,List.length_nil,Nat.reduceAdd,Nat.reduceSub,List.reduceReplicate,List.cons_append,List.nil_append];(refine @ab _ ?_;refine AW @Tryz.ntmps138 @hb @hok @hcs ?_)
 intro b1
 refine⟨hcs,aq (hf _ (by(refine @ab _ ?_;exact aK))) ?_⟩
 (refine @ab _ ?_;refine au ?_)
 trivial
theorem TF(w0:W0)(S:St):aa Tryz.prog w0 137 [] S (fun d S'=>∃b:FN S.box,d= .sl 1 true [.agg [.v (.func (.func 191) #[] #[])],.agg [.v (.func (.func 192) #[] #[])],.agg [.v (.func (.func 193) #[] #[])],.agg [.v (.func (.func 194) #[] #[.pointer (some ⟨b.n,0,none⟩)])],.agg [.v (.func (.func 195) #[] #[])]]∧S'=⟨(b.n,[.v (.func (.func 190) #[] #[])])::S.box,S.acc⟩):=by
 refine nt [] mx Tryz.func137 rfl rfl (by kernel_rfl) ?_;(refine @ab _ ?_;refine ao @Tryz.ntmps137 ?_)
 exact fun b=>⟨b,rfl,rfl⟩
theorem M3(w0:W0)(b c:Nat)(S:St)(hb:lk S.box b=some (Wo a t r l h))(hc:lk S.box c=some [.v (.func (.func 190) #[] #[])])(hm:vG a t r l h):
 aa Tryz.prog w0 189 [.sl 1 true [.agg [.v (.func (.func 191) #[] #[])],.agg [.v (.func (.func 192) #[] #[])],.agg [.v (.func (.func 193) #[] #[])],.agg [.v (.func (.func 194) #[] #[.pointer (some ⟨c,0,none⟩)])],.agg [.v (.func (.func 195) #[] #[])]],.v (.func (.func 138) #[] #[.pointer (some ⟨b,0,none⟩)])] S (fun d S'=>d=dI (-1)∧S'=S):=by
 have k2:=sY w0 191 [] b S hb (by kernel_rfl) rfl fun T _=>Xn w0 T hm
 have k3:=sY w0 192 [] b S hb (by kernel_rfl) rfl fun T _=>W4 w0 T hm
 have k4:=sY w0 193 [] b S hb (by kernel_rfl) rfl fun T _=>V6 w0 T hm
 have k5:=sY w0 194 [.pointer (some ⟨c,0,none⟩)] b S hb (by kernel_rfl) rfl fun T hT=>VM w0 c T (hT.box _ _ hc) hm
 have k6:=sY w0 195 [] b S hb (by kernel_rfl) rfl fun T _=>Wd w0 T hm
 refine aY [] mx Tryz.func189 rfl rfl (by kernel_rfl) ?_;(refine @ab _ ?_;refine ao @Tryz.ntmps189 ?_)
 refine aA [] 5 [0,1,7,8] (fun k=>[(8,dI k)]) (fun _=>S) (fun _=>True) mx (by kernel_rfl) ?_ ?_
 ·(refine @ab _ ?_;exact aK)
 ·intro k hk _
  match k,hk with
  |0,_=>
   (refine @ab _ ?_;refine au ?_)
   refine aq k2 ?_
   (refine @ab _ ?_;refine au ?_)
   decide
  |1,_=>
   (refine @ab _ ?_;refine au ?_)
   refine aq k3 ?_
   (refine @ab _ ?_;refine au ?_)
   decide
  |2,_=>
   (refine @ab _ ?_;refine au ?_)
   refine aq k4 ?_
   (refine @ab _ ?_;refine au ?_)
   decide
  |3,_=>
   (refine @ab _ ?_;refine au ?_)
   refine aq k5 ?_
   (refine @ab _ ?_;refine au ?_)
   decide
  |4,_=>
   (refine @ab _ ?_;refine au ?_)
   refine aq k6 ?_
   (refine @ab _ ?_;refine au ?_)
   decide
  |5,_=>(refine @ab _ ?_;exact aK)
theorem Nw(w0:W0)(b c:Nat)(S:St)(hb:lk S.box b=some (Wo a t r l h))(hc:lk S.box c=some [.v (.func (.func 190) #[] #[])])(hm:vG a t r l h):
 aa Tryz.prog w0 136 [.sl 1 true [.agg [.v (.func (.func 191) #[] #[])],.agg [.v (.func (.func 192) #[] #[])],.agg [.v (.func (.func 193) #[] #[])],.agg [.v (.func (.func 194) #[] #[.pointer (some ⟨c,0,none⟩)])],.agg [.v (.func (.func 195) #[] #[])]],.v (.func (.func 138) #[] #[.pointer (some ⟨b,0,none⟩)])] S (fun d S'=>d=dB false∧S'=S):=by
 have h:=M3 w0 b c S hb hc hm
 refine aY [] mx Tryz.func136 rfl rfl (by kernel_rfl) ?_;(refine @ab _ ?_;refine ao @Tryz.ntmps136 ?_)
 refine aq h ?_
 (refine @ab _ ?_;refine au ?_)
 decide
theorem Uk(w0:W0)(S:St)(hm:vG a t r l h):aa Tryz.prog w0 80 [QG a t r l h] S (fun d S'=>d=dB true∧S'=S):=by
 refine aY [] mx Tryz.func80 rfl rfl (by kernel_rfl) ?_;(refine @ab _ ?_;refine ao @Tryz.ntmps80 ?_)
 intro b
 refine bB (TF w0 _) ?_
 rintro _ _ ⟨c,rfl,rfl⟩
 (refine @ab _ ?_;refine au ?_)
 refine aq (Nw w0 b.n c.n _ (by(refine @ab _ ?_;exact aK)) (by(refine @ab _ ?_;exact aK)) hm) ?_
 (refine @ab _ ?_;refine au ?_)
 trivial
end
end Go.Proofs.YtpjenciplibdnaaGreatDoor
namespace Aml
open Go Go.RowKit
variable {P:Program} {w0:W0}
theorem rD{ro:Option Nat}{o:Oper}(hnd:∀c,o.op≠ .defer c){a:Act}{w w':World}{u:Value}(hrun:(execOp a.eval o).run P w= .ok (.value u) w'){next:Act→World→Prop}{Q:Exit→Act→World→Prop}(hn:next (a.put o.dst u) w'):o.wpIn (fz ro) 0 P a w next Q:=by
 have hs:o.semAt (fz ro).round a.eval=execOp a.eval o:=Oper.semAt_eq _ _ _ fun c hc=>absurd hc (hnd c)
 refine⟨fun _ _=>trivial,?_⟩
 rw[hs,hrun]
 exact hn
def gL(ns:List Int):Array Value:=(ns.map fun n=>Value.int .u8 n).toArray
theorem Zw{id:Nat}{o1 o2:Oper}{rest:List Oper}{fr:List DV}{S:St}{Q:Exit→List DV→St→Prop}{t e d1 n:Nat}{parts:Array (Nat×Operand)}{ns:List Int}
 (h1:o1.dst=some d1) (hg1:o1.guard=none) (hg2:o2.guard=none) (ho1:o1.op= .buildSlice t n parts) (ho2:o2.op= .convert t t (.tmp d1)) (ht:P.underlying t=some (.slice e)) (he:P.underlying e=some (.int .u8)) (hd:d1<fr.length) (hns:ns≠[]) (hml:ns.length≤maxLen)
 (hrun:∀(ρ:Operand→Value) (w:World),(∀u,ρ (.const u)=u)→(execOp ρ o1).run P w= .ok (.value (.slice (some ⟨w.heap.size,0,none⟩) ns.length ns.length)) (w.alloc (.cells (gL ns) e)))
 (h:Ba P w0 (o1::o2::rest).toArray (fun fr S=>Q .normal fr S) rest (pt (pt fr (some d1) (.sl 1 true (ns.map fun n=> .v (.int .u8 n)))) o2.dst (.sl 1 true (ns.map fun n=> .v (.int .u8 n)))) S):
 fW P w0 (.region id (o1::o2::rest).toArray false) fr S Q:=by
 intro g a w k1 k2 k3
 refine jn fun ro=>?_
 have hsz:(gL ns).size=ns.length:=by simp[gL]
 unfold wpListIn
 rw[if_pos (by simp[Region.wanted,hg1])]
 refine rD (fun c hc=>by rw[ho1]at hc;cases hc) (hrun a.eval w fun u=>rfl) ?_
 unfold wpListIn
 rw[if_pos (by simp[Region.wanted,hg2])]
 have hlen:fr.length=a.tmps.size:=by simpa using k2.len
 have hev:(a.put o1.dst (.slice (some ⟨w.heap.size,0,none⟩) ns.length ns.length)).eval (.tmp d1)= .slice (some ⟨w.heap.size,0,none⟩) ns.length ns.length:=by
  rw[h1]
  have:d1<a.tmps.size:=by omega
  simp[Act.eval,Act.put,this]
 have hrun2:(execOp (a.put o1.dst (.slice (some ⟨w.heap.size,0,none⟩) ns.length ns.length)).eval o2).run P (w.alloc (.cells (gL ns) e))= .ok (.value (.slice (some ⟨w.heap.size,0,none⟩) ns.length ns.length)) (w.alloc (.cells (gL ns) e ((gL ns).size,(gL ns).size+1))):=by
  have:=Lib.run_convert_bytes_const (P:=P) w t e (gL ns) ns.length ns.length ht he
  simp only[execOp,ho2,Sem.run_bind]
  rw[hev,this]
  rfl
 refine rD (fun c hc=>by rw[ho2]at hc;cases hc) hrun2 ?_
 have hb:(w.alloc (.cells (gL ns) e ((gL ns).size,(gL ns).size+1))).heap[w.heap.size]? =some (.cells (gL ns) e ((gL ns).size,(gL ns).size+1)):=heap_alloc_new w _
 obtain⟨hle,hR⟩:=k1.Er (dm w (.cells (gL ns) e ((gL ns).size,(gL ns).size+1))) (Nat.le_refl _) hb
 have hrep:aM (g.bx w.heap.size fun i=>(gL ns)[i]?) (.sl 1 true (ns.map fun n=> .v (.int .u8 n))) (.slice (some ⟨w.heap.size,0,none⟩) ns.length ns.length):=by
  have:=aM.sl (g:=g.bx w.heap.size fun i=>(gL ns)[i]?) 1 true (ns.map fun n=>DV.v (.int .u8 n)) w.heap.size 0 ns.length (ns.map fun n=>Value.int .u8 n) (by simp) (fun _=>by simp) (by simp) hml
   (fun i d u x y=>by
    rw[List.getElem?_map,Option.map_eq_some_iff]at x y
    obtain⟨z,hz,rfl⟩:=x
    obtain⟨z',hz',rfl⟩:=y
    rw[hz]at hz';cases hz'
    exact .v _ rfl)
   (fun i u x=>by
    rw[List.getElem?_map,Option.map_eq_some_iff]at x
    obtain⟨z,hz,rfl⟩:=x
    rfl)
   (fun u hu x hx=>by
    obtain⟨z,hz,rfl⟩:=List.mem_map.1 hu
    simp[Value.cells]at hx
    subst hx;rfl)
   (fun i u j x hu hx=>by
    rw[List.getElem?_map,Option.map_eq_some_iff]at hu
    obtain⟨z,hz,rfl⟩:=hu
    have hj:j=0:=by
     have:=(Array.getElem?_eq_some_iff.1 hx).1
     simp[Value.cells]at this;omega
    subst hj
    simp[Value.cells]at hx
    subst hx
    simp only[Gh.bx,if_true,Nat.mul_one,Nat.zero_add,Nat.add_zero]
    unfold gL
    rw[List.getElem?_toArray,List.getElem?_map,hz];rfl)
  simpa using this
 have hkeep:∀(i:Nat) (ob:Obj),w.heap[i]? =some ob→nc ob=true→(w.alloc (.cells (gL ns) e ((gL ns).size,(gL ns).size+1))).heap[i]? =some ob:=fun i ob x _=>
  ((dm w (.cells (gL ns) e ((gL ns).size,(gL ns).size+1))).block i (Array.getElem?_eq_some_iff.1 x).1).trans x
 have hr1:=dq (k2.mono hle) (some d1) hrep
 rw[←h1]at hr1
 have hr2:=dq hr1 o2.dst hrep
 rw[h1]at hr2
 rw[h1]
 refine lz rest _ _ _ _ _ hle hR hr2 ?_ h
 exact(k3.keep (by rw[put_defers,put_defers]) hkeep)
theorem YE{id:Nat}{o1 o2:Oper}{rest:List Oper}{fr:List DV}{S:St}{Q:Exit→List DV→St→Prop}{t e d1 n:Nat}{parts:Array (Nat×Operand)}(ns:List Int)
 (h1:o1.dst=some d1) (hg1:o1.guard=none) (hg2:o2.guard=none) (ho1:o1.op= .buildSlice t n parts) (ho2:o2.op= .convert t t (.tmp d1)) (ht:P.underlying t=some (.slice e)) (he:P.underlying e=some (.int .u8)) (hd:d1<fr.length) (hns:ns≠[]) (hml:ns.length≤maxLen)
 (hrun:∀(ρ:Operand→Value) (w:World),(∀u,ρ (.const u)=u)→(execOp ρ o1).run P w= .ok (.value (.slice (some ⟨w.heap.size,0,none⟩) ns.length ns.length)) (w.alloc (.cells (gL ns) e)))
 (hs:rest.all (fun o=>hJ o.op)=true)
 (h:vy P w0 (o1::o2::rest).toArray (fun fr S=>jx fr fun fr=>Q .normal fr S) rest (pt (pt fr (some d1) (.sl 1 true (ns.map fun n=> .v (.int .u8 n)))) o2.dst (.sl 1 true (ns.map fun n=> .v (.int .u8 n)))) S):
 fW P w0 (.region id (o1::o2::rest).toArray false) fr S Q:=
 Zw h1 hg1 hg2 ho1 ho2 ht he hd hns hml hrun (l7 rest hs h)
end Aml
namespace Go.Proofs.YtpjenciplibdnaaGreatDoor
open Aml Go
def SV:ByteArray:=⟨#[109,101,116,97]⟩
def rP(a t r l h:Int):ByteArray:=SV++bF 1 a++bF 8 t++bF 2 r++bF 2 l++bF 2 h
def rS(a t r l h:Int):ByteArray:=gz 5 [rP a t r l h]
def iF(a t r l h:Int):Nat→ByteArray
 |0=>SV
 |1=>SV++bF 1 a
 |2=>SV++bF 1 a++bF 8 t
 |3=>SV++bF 1 a++bF 8 t++bF 2 r
 |4=>SV++bF 1 a++bF 8 t++bF 2 r++bF 2 l
 |_=>rP a t r l h
theorem jr(a t r l h:Int):∀k,(iF a t r l h k).size≤19
 |0=>by show SV.size≤19;decide
 |1=>by simp only[iF,ByteArray.size_append,aC];decide
 |2=>by simp only[iF,ByteArray.size_append,aC];decide
 |3=>by simp only[iF,ByteArray.size_append,aC];decide
 |4=>by simp only[iF,ByteArray.size_append,aC];decide
 |_+5=>by
  show(rP a t r l h).size≤19
  unfold rP
  simp only[ByteArray.size_append,aC];decide
theorem uo(a t r l h:Int):(rP a t r l h).size=19:=by
 unfold rP
 simp only[ByteArray.size_append,aC]
 rfl
theorem N9{o:Oper}{ρ:Operand→Value}{w:World}(ho:o.op= .buildSlice 63 4 #[(0,.const (.int .u8 109)),(1,.const (.int .u8 101)),(2,.const (.int .u8 116)),(3,.const (.int .u8 97))])(hc:∀u,ρ (.const u)=u):
 (execOp ρ o).run Tryz.prog w= .ok (.value (.slice (some ⟨w.heap.size,0,none⟩) 4 4)) (w.alloc (.cells (gL [109,101,116,97]) 5)):=by
 have h1:(Tryz.prog.info? 5).map (fun i=>(i.size,i.zero))=some (1,some (.int .u8 0)):=by kernel_rfl
 obtain⟨i,hi,he⟩:=Option.map_eq_some_iff.1 h1
 simp only[Prod.mk.injEq]at he
 obtain⟨hs,hz⟩:=he
 have hf:Instr.fill (fun i=>some (i,1)) (Array.map (fun x=>(Value.int .u8 0).cells[x%(Value.int .u8 0).cells.size]!) (Array.range 4)) [(0,.int .u8 109),(1,.int .u8 101),(2,.int .u8 116),(3,.int .u8 97)]=some (gL [109,101,116,97]):=by kernel_rfl
 simp[execOp,ho,Instr.buildSlice,run_underlying Tryz.underlying63,Go.sizeOf,typeInfo,hi,hs,hz,zeroValue,newRow,hc]
 rw[hf]
 rfl
section
variable {a t r l h:Int}
theorem Qi(w0:W0)(hg:fF w0)(S:St)(hm:vG a t r l h):aa Tryz.prog w0 34 [QG a t r l h] S (fun d S'=>d= .bN [fC (rS a t r l h),dI 0]∧S'=S):=by
 have hck:=fun S=>Uk w0 S hm
 have hpk:=fun S=>EL w0 hg 5 [rP a t r l h] S (by decide) (by decide) (by decide) (by simp only[db,List.map_cons,List.map_nil,List.sum_cons,List.sum_nil,uo];omega)
 obtain⟨q1,q2,q3,q4,q5,q6⟩:=hm
 have ea:IntKind.u64.wrap a=a:=ja (by omega) (by omega)
 have er:IntKind.u64.wrap r=r:=ja (by omega) (by omega)
 have el:IntKind.u64.wrap l=l:=ja (by omega) (by omega)
 have eh:IntKind.u64.wrap h=h:=ja (by omega) (by omega)
 unfold rS
 generalize gz 5 [rP a t r l h]=PK at*
 refine aY [3] mx Tryz.func34 rfl rfl (by kernel_rfl) ?_;(refine @ab _ ?_;refine ao @Tryz.ntmps34 ?_)
 intro b
 refine aq (hck _) ?_
 (refine @ab _ ?_;refine AW @ea @er @el @eh ?_)
 refine YE (t:=63) (e:=5) [109,101,116,97] rfl rfl rfl rfl rfl Tryz.underlying63 Tryz.underlying5 (Nat.le_of_ble_eq_true rfl) (by decide) (by decide) (fun ρ w hc=>N9 rfl hc) (by kernel_rfl) ?_
 (refine @ab _ ?_;refine AW @ea @er @el @eh ?_)
 refine Lx 4 rfl (by omega) fun lc=>?_
 refine fQ [] [] mx (by kernel_rfl) ?_
 (refine @ab _ ?_;refine au ?_)
 refine aA [] 5 [4,31,32,33] (fun k=>[(4,.acc lc.n (iF a t r l h k).size),(33,dI k)]) (fun k=>⟨(b.n,Wo a t r l h)::S.box,(lc.n,.tl 1 (bY (iF a t r l h k)))::S.acc⟩) (fun _=>True) mx (by kernel_rfl) ?_ ?_
 ·(refine @ab _ ?_;refine au ?_)
  exact⟨.refl _,.refl _⟩
 ·intro k hk _
  have hm8:maxLen=9223372036854775807:=rfl
  match k,hk with
  |0,_=>
   have hz:=jr a t r l h 0
   have e:iF a t r l h 1=iF a t r l h 0++bF 1 a:=rfl
   (refine @ab _ ?_;refine au ?_)
   intro b1
   refine aq (tn w0 a 1 _ (by decide) (by decide) (by omega) (by omega)) ?_
   (refine @ab _ ?_;refine aO @bg @aC ?_)
   rw[e,cP,ByteArray.size_append,aC]
   exact⟨by omega,by omega,⟨.refl _,by decide⟩,.bw (.refl _)⟩
  |1,_=>
   have hz:=jr a t r l h 1
   have e:iF a t r l h 2=iF a t r l h 1++bF 8 t:=rfl
   (refine @ab _ ?_;refine au ?_)
   intro b1
   refine aq (tn w0 t 8 _ (by decide) (by decide) (by omega) (by omega)) ?_
   (refine @ab _ ?_;refine aO @bg @aC ?_)
   rw[e,cP,ByteArray.size_append,aC]
   exact⟨by omega,by omega,⟨.refl _,by decide⟩,.bw (.refl _)⟩
  |2,_=>
   have hz:=jr a t r l h 2
   have e:iF a t r l h 3=iF a t r l h 2++bF 2 r:=rfl
   (refine @ab _ ?_;refine au ?_)
   intro b1
   refine aq (tn w0 r 2 _ (by decide) (by decide) (by omega) (by omega)) ?_
   (refine @ab _ ?_;refine aO @bg @aC ?_)
   rw[e,cP,ByteArray.size_append,aC]
   exact⟨by omega,by omega,⟨.refl _,by decide⟩,.bw (.refl _)⟩
  |3,_=>
   have hz:=jr a t r l h 3
   have e:iF a t r l h 4=iF a t r l h 3++bF 2 l:=rfl
   (refine @ab _ ?_;refine au ?_)
   intro b1
   refine aq (tn w0 l 2 _ (by decide) (by decide) (by omega) (by omega)) ?_
   (refine @ab _ ?_;refine aO @bg @aC ?_)
   rw[e,cP,ByteArray.size_append,aC]
   exact⟨by omega,by omega,⟨.refl _,by decide⟩,.bw (.refl _)⟩
  |4,_=>
   have hz:=jr a t r l h 4
   have e:iF a t r l h 5=iF a t r l h 4++bF 2 h:=rfl
   (refine @ab _ ?_;refine au ?_)
   intro b1
   refine aq (tn w0 h 2 _ (by decide) (by decide) (by omega) (by omega)) ?_
   (refine @ab _ ?_;refine aO @bg @aC ?_)
   rw[e,cP,ByteArray.size_append,aC]
   exact⟨by omega,by omega,⟨.refl _,by decide⟩,.bw (.refl _)⟩
  |5,_=>
   (refine @ab _ ?_;refine au ?_)
   refine⟨bg _,aq (hpk _) ?_ (.cons (.refl _) (.cons (Wk.full _ _ _) .nil))⟩
   (refine @ab _ ?_;refine au ?_)
   trivial
end
end Go.Proofs.YtpjenciplibdnaaGreatDoor
namespace Go.Proofs.YtpjenciplibdnaaGreatDoor
open Aml Go
theorem RE(w0:W0)(p:Pl)(q m:Int)(S:St)(hm:may p q m)(h0:p.free.length≤1048576)(h1: -1099511627776≤p.high)(h2:p.high≤1048576)(h3: -1099511627776≤q)(h4:q≤1048576):
 aa Tryz.prog w0 179 [dP p,dI q,dI m] S (fun d S'=>d= .bN [dP (take p m),dL (cQ p m),dB true]∧S'=S):=(WR w0 p q m S h0 h1 h2 h3 h4).mono fun _ _ h=>h.1 hm
def p0:Pl:=⟨5,[3],[]⟩
def p1:Pl:=⟨6,[],[]⟩
def p2:Pl:=⟨6,[],[⟨7,[2,5]⟩]⟩
def p3:Pl:=⟨6,[2,5],[]⟩
theorem s52:bz [5,2]=[2,5]:=(mB (a:=[2,5]) (by decide) (by decide)).symm
theorem s3:bz [3]=[3]:=(mB (a:=[3]) (by decide) (by decide)).symm
theorem s25:bz [2,5]=[2,5]:=(mB (a:=[2,5]) (by decide) (by decide)).symm
theorem s0:bz []=[]:=(mB (a:=[]) (by decide) (by decide)).symm
theorem x1:take p0 2=p1∧cQ p0 2=[3,5]∧may p0 6 2∧dy p0 6=2:=by
 refine⟨?_,?_,?_,?_⟩
 ·unfold take bf p0 p1;simp only[s3];rfl
 ·unfold cQ bf p0;simp only[s3];rfl
 ·unfold may dy p0;decide
 ·unfold dy p0;decide
theorem x2:mJ p1 7 [5,2]=p2:=by
 rw[mF (by decide) (fun w h=>by simp[p1]at h)]
 simp only[s52];rfl
theorem x3:release p2 6 true=p2:=by
 unfold release
 have e:iM 6 true p2.wait=[]:=by decide
 rw[e]
 have e2:bz (flat (p2.free::nY []))=[]:=s0
 rw[e2];rfl
theorem x4:release p2 7 true=p3:=by
 unfold release
 have e:iM 7 true p2.wait=p2.wait:=by decide
 rw[e]
 have e2:bz (flat (p2.free::nY p2.wait))=[2,5]:=s25
 rw[e2];rfl
theorem y3:release ⟨6,[],[⟨7,[2,5]⟩]⟩ 6 true=⟨6,[],[⟨7,[2,5]⟩]⟩:=x3
theorem y4:release ⟨6,[],[⟨7,[2,5]⟩]⟩ 7 true=⟨6,[2,5],[]⟩:=x4
theorem x5:listed p2=[2,5]:=s25
theorem x6:GB p2 6∧¬GB p2 5:=by
 refine⟨⟨fun i a c h0 ha hc=>?_,fun w hw=>?_,by decide,by decide,fun i a hi ha=>by simp[p2]at hi,?_⟩,fun h=>absurd h.2.2.2.1 (by decide)⟩
 ·have:i<1:=(List.getElem?_eq_some_iff.1 ha).1;omega
 ·simp[p2]at hw
  subst hw
  rintro(h|h)
  ·cases h
  ·refine h fun i a hi ha=>?_
   match i,hi with
   |0,_=>cases ha;exact⟨by decide,by decide,fun b h=>by omega⟩
   |1,_=>cases ha;exact⟨by decide,by decide,fun b _ hb=>by cases hb;decide⟩
 ·rw[x5]
  intro i a hi ha
  match i,hi with
  |0,_=>cases ha;exact⟨by decide,by decide,fun b h=>by omega⟩
  |1,_=>cases ha;exact⟨by decide,by decide,fun b _ hb=>by cases hb;decide⟩
end Go.Proofs.YtpjenciplibdnaaGreatDoor
namespace Go.Proofs.YtpjenciplibdnaaGreatDoor
open Aml Go
@[go_sem] def xi (l:List C):DV:= .sl 6 false (l.map lD)
def gn(z o:Zt)(L W:DV)(q:Int)(A:DV)(lw k:Nat):List DV:=
 dI z.label::dU z.bD::dI z.root::dI z.n8::dI z.high::dI z.n.ak::dB z.n.leaf:: .sl 1 false (z.n.l.map fun c=>dS c.key):: .sl 2 false ((if z.n.leaf then z.n.l else []).map fM):: .sl 5 false ((aI z.n).map dT)::L::W::dI z.p.high:: .sl 1 false (z.p.free.map dI):: .sl 2 false (z.p.wait.map dW)::dI o.label::dU o.bD::dI o.root::dI o.n8::dI o.high::dI o.n.ak::dB o.n.leaf:: .sl 1 false (o.n.l.map fun c=>dS c.key):: .sl 2 false ((if o.n.leaf then o.n.l else []).map fM):: .sl 5 false ((aI o.n).map dT)::xi o.l::dL o.own::dI o.p.high:: .sl 1 false (o.p.free.map dI):: .sl 2 false (o.p.wait.map dW)::dI q::A:: .acc lw k::[]
def dw(S:St)(b lw:Nat)(z o:Zt)(L W:DV)(q:Int)(A:DV)(ws:List (Int×ByteArray)):St:=⟨up S.box b (gn z o L W q A lw ws.length),up S.acc lw (.arr 2 (ws.map nS))⟩
structure D9(S:St)(b lw:Nat)(z o:Zt)(L W:DV)(q:Int)(A:DV)(ws:List (Int×ByteArray)):Prop where
 box:lk S.box b=some (gn z o L W q A lw ws.length)
 acc:lk S.acc lw=some (.arr 2 (ws.map nS))
theorem M9(w0:W0)(A B:List Int)(S:St)(h:A.length+B.length≤1048576):aa Tryz.prog w0 48 [.sl 1 false [dL A,dL B]] S (fun d S'=>d=dL (A++B)∧S'=S):=by
 have e:flat [A,B]=A++B:=by simp[flat]
 have h1:=concat w0 [A,B] S (by simp) (by rw[e,List.length_append];omega)
 rw[e]at h1
 refine jC (aa.mono h1 ?_)
 rintro d S' ⟨b,rfl,rfl⟩
 (refine @ab _ ?_;exact aK)
section
variable {S:St} {b lw:Nat} {z o:Zt} {L W A:DV} {q:Int} {ws:List (Int×ByteArray)}
theorem FZ(h:D9 S b lw z o L W q A ws)(z':Zt)(L' W' A':DV)(ws':List (Int×ByteArray)):D9 (dw S b lw z' o L' W' q A' ws') b lw z' o L' W' q A' ws':=
 ⟨by show lk (up S.box b _) b=_;rw[ax,h.box];rfl,by show lk (up S.acc lw _) lw=_;rw[ax,h.acc];rfl⟩
theorem DI{z' z'' o' o'':Zt}{L' L'' W' W'' A' A'':DV}{q' q'':Int}{w' w'':List (Int×ByteArray)}:dw (dw S b lw z' o' L' W' q' A' w') b lw z'' o'' L'' W'' q'' A'' w''=dw S b lw z'' o'' L'' W'' q'' A'' w'':=by
 unfold dw
 simp only[rK]
theorem Ku(h:D9 S b lw z o L W q A ws):dw S b lw z o L W q A ws=S:=by
 unfold dw
 rw[dt h.box,dt h.acc]
theorem RA(w0:W0)(h:D9 S b lw z o (xi z.l) W q A ws)(r:Bool)(hf:∀S,aa Tryz.prog w0 127 [eV o.n o.l,eV z.n z.l,dL o.own,dP z.p,dI q] S (fun d S'=>d=dB r∧S'=S)):
 aa Tryz.prog w0 74 [BY b] S (fun d S'=>d=dB r∧S'=S):=by
 have hb:=h.box
 unfold gn at hb
 refine aY [] mx Tryz.func74 rfl rfl (by kernel_rfl) ?_;(refine @ab _ ?_;refine aO @Tryz.ntmps74 @hb ?_)
 refine aT (hf _) ?_
 (refine @ab _ ?_;refine au ?_)
 trivial
theorem Sb(w0:W0)(m:Int)(h:D9 S b lw z o L W q A ws)(p:Pl)(at_:List Int)(r:Bool)(hf:∀S,aa Tryz.prog w0 179 [dP z.p,dI q,dI m] S (fun d S'=>d= .bN [dP p,dL at_,dB r]∧S'=S)):
 aa Tryz.prog w0 128 [BY b,dI m] S (fun d S'=>d= .bN [dL at_,dB r]∧S'=dw S b lw {z with p:=p} o L W q A ws):=by
 have hb:=h.box
 have ha:=h.acc
 unfold gn at hb
 refine vp [1] mx Tryz.func128 rfl rfl (by kernel_rfl) ?_;(refine @ab _ ?_;refine fa @Tryz.ntmps128 @hb @ha ?_)
 refine Jp mx (by kernel_rfl) ?_
 (refine @ab _ ?_;refine aO @hb @ha ?_)
 refine KE (fun B _=>hf _) ?_
 (refine @ab _ ?_;refine aO @hb @ha ?_)
 intro b1
 refine⟨_,_,.refl _,?_,rfl,rfl⟩
 unfold dw
 rw[dt ha]
 exact .bw (.refl _)
theorem WA(w0:W0)(m:Int)(h:D9 S b lw z o (xi z.l) W q A ws)(p:Pl)(at_:List Int)(r:Bool)(hm:∀S,aa Tryz.prog w0 129 [eV z.n z.l] S (fun d S'=>d=dI m∧S'=S))(hf:∀S,aa Tryz.prog w0 179 [dP z.p,dI q,dI m] S (fun d S'=>d= .bN [dP p,dL at_,dB r]∧S'=S)):
 aa Tryz.prog w0 75 [BY b] S (fun d S'=>d=dB r∧S'=dw S b lw {z with p:=p} o (xi z.l) W q (dL at_) ws):=by
 have hb:=h.box
 have ha:=h.acc
 unfold gn at hb
 refine vp [] mx Tryz.func75 rfl rfl (by kernel_rfl) ?_;(refine @ab _ ?_;refine fa @Tryz.ntmps75 @hb @ha ?_)
 refine aq (hm _) ?_
 (refine @ab _ ?_;refine aO @hb @ha ?_)
 refine bB (Sb w0 m h p at_ r hf) ?_
 rintro e S' ⟨rfl,rfl⟩
 simp(maxDischargeDepth:=12) (maxSteps:=1000000) -implicitDefEqProofs only[go_sem,Nat.reduceAdd,Nat.reduceSub,Nat.reduceMul,Nat.reduceLeDiff,Nat.reduceEqDiff,Nat.reduceGT,Nat.reduceBEq,reduceCtorEq,↓reduceIte,Int.reduceToNat,Int.reduceLE,Int.reduceLT,Int.reduceNe,Int.reduceEq,dw,gn,hb,ha]
 exact⟨_,_,.refl _,.refl _,rfl,rfl⟩
theorem RQ(w0:W0)(n:N)(at_ R:List Int)(M:N)(V:List (Int×ByteArray))(h:D9 S b lw z o L W q (dL at_) ws)(hlw:ws.length+V.length≤1048576)(hf:∀S,aa Tryz.prog w0 181 [eT n,dL at_] S (fun d S'=>d= .bN [eT M,.sl 2 false (V.map nS),dL R,dB true]∧S'=S)):
 aa Tryz.prog w0 130 [BY b,eT n] S (fun d S'=>d= .bN [eT M,dB true]∧S'=dw S b lw z o L W q (dL R) (ws++V)):=by
 have hb:=h.box
 have ha:=h.acc
 unfold gn at hb
 refine vp [1] mx Tryz.func130 rfl rfl (by kernel_rfl) ?_;(refine @ab _ ?_;refine fa @Tryz.ntmps130 @hb @ha ?_)
 intro b1 b2
 refine Jp mx (by kernel_rfl) ?_
 (refine @ab _ ?_;refine aO @hb @ha ?_)
 refine KE (fun B _=>hf _) ?_
 (refine @ab _ ?_;refine aO @hb @ha ?_)
 intro b3
 have hm8:maxLen=9223372036854775807:=rfl
 refine⟨by omega,by omega,_,_,.refl _,?_,rfl,rfl⟩
 unfold dw
 rw[List.length_append]
 exact .bw (.bw (.bw (.refl _)))
theorem Zh(w0:W0)(at_ R:List Int)(M:N)(V:List (Int×ByteArray))(h:D9 S b lw z o L W q (dL at_) ws)(hlw:ws.length+V.length≤1048576)(hf:∀S,aa Tryz.prog w0 181 [eT z.n,dL at_] S (fun d S'=>d= .bN [eT M,.sl 2 false (V.map nS),dL R,dB true]∧S'=S)):
 aa Tryz.prog w0 77 [BY b] S (fun d S'=>d=dB true∧S'=dw S b lw {z with n:=M,root:=M.ak} o L W q (dL R) (ws++V)):=by
 have hb:=h.box
 have ha:=h.acc
 unfold gn at hb
 refine vp [2] mx Tryz.func77 rfl rfl (by kernel_rfl) ?_;(refine @ab _ ?_;refine fa @Tryz.ntmps77 @hb @ha ?_)
 refine bB (RQ w0 z.n at_ R M V h hlw hf) ?_
 rintro e S' ⟨rfl,rfl⟩
 simp(maxDischargeDepth:=12) (maxSteps:=1000000) -implicitDefEqProofs only[go_sem,Nat.reduceAdd,Nat.reduceSub,Nat.reduceMul,Nat.reduceLeDiff,Nat.reduceEqDiff,Nat.reduceGT,Nat.reduceBEq,reduceCtorEq,↓reduceIte,Int.reduceToNat,Int.reduceLE,Int.reduceLT,Int.reduceNe,Int.reduceEq,dw,gn,hb,ha]
 intro b1
 refine MU ⟨[(b1.n,[dI M.ak,dB M.leaf,.sl 1 false (M.l.map fun c=>dS c.key),.sl 2 false ((if M.leaf then M.l else []).map fM),.sl 5 false ((aI M).map dT)])],[]⟩ [9,14] [] [0,1,3,2,5,6,7,8,4,9,10,11,12,13,14] mx (by kernel_rfl) ?_
 simp(maxDischargeDepth:=12) (maxSteps:=1000000) -implicitDefEqProofs only[go_sem,Nat.reduceAdd,Nat.reduceSub,Nat.reduceMul,Nat.reduceLeDiff,Nat.reduceEqDiff,Nat.reduceGT,Nat.reduceBEq,reduceCtorEq,↓reduceIte,Int.reduceToNat,Int.reduceLE,Int.reduceLT,Int.reduceNe,Int.reduceEq,dw,gn,hb,ha]
 exact⟨mj (by simp(maxDischargeDepth:=12) (maxSteps:=1000000) -implicitDefEqProofs only[go_sem,Nat.reduceAdd,Nat.reduceSub,Nat.reduceMul,Nat.reduceLeDiff,Nat.reduceEqDiff,Nat.reduceGT,Nat.reduceBEq,reduceCtorEq,↓reduceIte,Int.reduceToNat,Int.reduceLE,Int.reduceLT,Int.reduceNe,Int.reduceEq]),mj (by simp(maxDischargeDepth:=12) (maxSteps:=1000000) -implicitDefEqProofs only[go_sem,Nat.reduceAdd,Nat.reduceSub,Nat.reduceMul,Nat.reduceLeDiff,Nat.reduceEqDiff,Nat.reduceGT,Nat.reduceBEq,reduceCtorEq,↓reduceIte,Int.reduceToNat,Int.reduceLE,Int.reduceLT,Int.reduceNe,Int.reduceEq]),mj (by simp(maxDischargeDepth:=12) (maxSteps:=1000000) -implicitDefEqProofs only[go_sem,Nat.reduceAdd,Nat.reduceSub,Nat.reduceMul,Nat.reduceLeDiff,Nat.reduceEqDiff,Nat.reduceGT,Nat.reduceBEq,reduceCtorEq,↓reduceIte,Int.reduceToNat,Int.reduceLE,Int.reduceLT,Int.reduceNe,Int.reduceEq]),mj (by simp(maxDischargeDepth:=12) (maxSteps:=1000000) -implicitDefEqProofs only[go_sem,Nat.reduceAdd,Nat.reduceSub,Nat.reduceMul,Nat.reduceLeDiff,Nat.reduceEqDiff,Nat.reduceGT,Nat.reduceBEq,reduceCtorEq,↓reduceIte,Int.reduceToNat,Int.reduceLE,Int.reduceLT,Int.reduceNe,Int.reduceEq]),_,_,.refl _,.bw (.refl _),rfl,rfl⟩
theorem Xd(w0:W0)(B:List Int)(h:D9 S b lw z o (xi z.l) W q A ws)(hB:B.length+o.own.length≤1048576)(p:Pl)(hl:∀S,aa Tryz.prog w0 131 [eV o.n o.l,eV z.n z.l] S (fun d S'=>d=dL B∧S'=S))(hf:∀S,aa Tryz.prog w0 132 [dP z.p,dU z.bD,dL (B++o.own)] S (fun d S'=>d=dP p∧S'=S)):
 aa Tryz.prog w0 78 [BY b] S (fun d S'=>d=dB true∧S'=dw S b lw {z with p:=p} o (xi z.l) W q A ws):=by
 have hb:=h.box
 have ha:=h.acc
 unfold gn at hb
 refine vp [] mx Tryz.func78 rfl rfl (by kernel_rfl) ?_;(refine @ab _ ?_;refine fa @Tryz.ntmps78 @hb @ha ?_)
 have hcc:=M9 w0 B o.own S hB
 refine aT (hl _) ?_
 (refine @ab _ ?_;refine aO @hb @ha ?_)
 refine aT hcc ?_ (.cons (Wk.full _ _ _) .nil)
 (refine @ab _ ?_;refine aO @hb @ha ?_)
 refine aT (hf _) ?_
 (refine @ab _ ?_;refine aO @hb @ha ?_)
 refine⟨_,_,.refl _,?_,rfl,rfl⟩
 unfold dw
 rw[dt ha]
 exact .refl _
end
end Go.Proofs.YtpjenciplibdnaaGreatDoor
namespace Go.Proofs.YtpjenciplibdnaaGreatDoor
open Aml Go
theorem xF{P:Program}{w0:W0}{f:FuncId}{args args':List DV}{S T:St}{K:DV→St→Prop}{r:DV}(h:aa P w0 f args' S (fun d S'=>d=r∧S'=T))(hk:K r T)(ha:gk args args':=by exact gk.refl _):@AC P w0 f args S ⟨K⟩:=bB h (fun d S' e=>by rw[e.1,e.2];exact hk) ha
section
variable {S:St} {b lw:Nat} {z o:Zt} {L W A:DV} {q:Int} {ws:List (Int×ByteArray)}
theorem WB(w0:W0)(h:D9 S b lw z o L W q A ws)(wn m:Int)(p:Pl)(at_ ls:List Int)(pg:List ByteArray)(hlw:ws.length+pg.length≤1048576)(hl:pg.length=at_.length)(hlf:z.p.free.length≤1048576)
 (h1:∀S,aa Tryz.prog w0 134 [dP z.p] S (fun d S'=>d=dI wn∧S'=S)) (h2:∀S,aa Tryz.prog w0 133 [dI z.p.free.length,dI wn] S (fun d S'=>d=dI m∧S'=S))
 (h3:∀S,aa Tryz.prog w0 179 [dP z.p,dI q,dI m] S (fun d S'=>d= .bN [dP p,dL at_,dB true]∧S'=S))
 (h4:∀S,aa Tryz.prog w0 50 [dP p] S (fun d S'=>d=dL ls∧S'=S)) (h5:∀S,aa Tryz.prog w0 135 [dL ls,dL at_] S (fun d S'=>d= .bN [.sl 1 false (pg.map fC),dI 0]∧S'=S)):
 aa Tryz.prog w0 79 [BY b] S (fun d S'=>d=dB true∧S'=dw S b lw {z with p:=p,n8:=at_.headD 0,high:=p.high} o L (dL at_) q A (ws++at_.zip pg)):=by
 have hb:=h.box
 have ha:=h.acc
 unfold gn at hb
 refine vp [1,6] mx Tryz.func79 rfl rfl (by kernel_rfl) ?_;(refine @ab _ ?_;refine fa @Tryz.ntmps79 @hb @ha ?_)
 refine Y.mn [] [15] [0,1,2,3,4,5,8,9,10,11,6,7,12,13,14,15,16,17,18,19,20] mx (by kernel_rfl) ?_
 (refine @ab _ ?_;refine aO @hb @ha ?_)
 refine Y.uO (fun T _=>h1 T) ?_
 (refine @ab _ ?_;refine aO @hb @ha ?_)
 refine Y.uO (fun T _=>h2 T) ?_
 (refine @ab _ ?_;refine aO @hb @ha ?_)
 refine xF (Sb w0 m h p at_ true h3) ?_
 have hb2:=(FZ h {z with p:=p} L W A ws).box
 have ha2:=(FZ h {z with p:=p} L W A ws).acc
 have hpost:dw S b lw {z with p:=p,n8:=at_.headD 0,high:=p.high} o L (dL at_) q A (ws++at_.zip pg)=dw (dw S b lw {z with p:=p} o L W q A ws) b lw {z with p:=p,n8:=at_.headD 0,high:=p.high} o L (dL at_) q A (ws++at_.zip pg):=DI.symm
 have hWT:=FZ h {z with p:=p} L W A ws
 rw[hpost]
 clear hpost
 generalize dw S b lw {z with p:=p} o L W q A ws=T at hb2 ha2 hWT ⊢
 dsimp only[gn]at hb2
 (refine @ab _ ?_;refine aO @hb2 @ha2 ?_)
 refine aq (h4 _) ?_
 (refine @ab _ ?_;refine aO @hb2 @ha2 ?_)
 refine aq (h5 _) ?_
 (refine @ab _ ?_;refine aO @hb2 @ha2 ?_)
 obtain⟨U,hU1,hU2,hU3,hU4⟩:∃U:Nat→St,(∀k,D9 (U k) b lw {z with p:=p} o L W q A (ws++(at_.zip pg).take k))∧U 0=T∧(∀k z' L' W' A' w',dw T b lw z' o L' W' q A' w'=dw (U k) b lw z' o L' W' q A' w')∧∀k,U (k+1)=dw (U k) b lw {z with p:=p} o L W q A (ws++(at_.zip pg).take (k+1)):=
  ⟨fun k=>dw T b lw {z with p:=p} o L W q A (ws++(at_.zip pg).take k),fun k=>FZ hWT _ _ _ _ _,by show dw T b lw _ o L W q A (ws++[])=T;rw[List.append_nil];exact Ku hWT,fun k _ _ _ _ _=>DI.symm,fun k=>DI.symm⟩
 refine aA [6] pg.length [0,3,4,6,39,40,41] (fun k=>[(41,dI k)]) U (fun _=>True) mx (by kernel_rfl) ?_ ?_
 ·rw[hU2]
  (refine @ab _ ?_;exact aK)
 ·intro k hk _
  have ek:IntKind.i64.wrap ((k:Int)+1)=((k+1:Nat):Int):=by rw[ba (by omega) (by omega)];omega
  have hb3:=(hU1 k).box
  have ha3:=(hU1 k).acc
  have hzl:((at_.zip pg).take k).length=k:=by rw[List.length_take,List.length_zip];omega
  have hwl:(ws++(at_.zip pg).take k).length=ws.length+k:=by rw[List.length_append,hzl]
  rw[hwl]at hb3
  dsimp only[gn]at hb3
  (refine @ab _ ?_;refine fa @hb3 @ha3 @ek ?_)
  refine⟨fun hlt=>?_,fun hge=>?_⟩
  ·refine⟨hlt,fun c hc=>?_⟩
   refine Y.mn [] [12,15] [0,1,2,3,5,6,7,9,4,8,10,11,12,13,14,15] mx (by kernel_rfl) ?_
   have hm8:maxLen=9223372036854775807:=rfl
   (refine @ab _ ?_;refine fa @hb3 @ha3 @ek ?_)
   refine⟨by omega,fun a ha1=>?_⟩
   have hlz:min k (at_.zip pg).length=k:=by rw[List.length_zip];omega
   have hs:(at_.zip pg).take (k+1)=(at_.zip pg).take k++[(a,c)]:=by
    rw[List.take_add_one]
    congr 1
    rw[List.getElem?_zip_eq_some (z:=(a,c)).2 ⟨ha1,hc⟩];rfl
   refine⟨by omega,by omega,by omega,hlt,?_⟩
   rw[hU4 k,hs,hlz]
   unfold dw
   rw[←List.append_assoc,List.length_append,hwl,List.map_append]
   exact .refl _
  ·have htk:ws++(at_.zip pg).take k=ws++at_.zip pg:=by rw[List.take_of_length_le (by rw[List.length_zip];omega)]
   rw[hU3 k]
   have hfin:∀a,a=at_.headD 0→dw (U k) b lw {z with p:=p,n8:=at_.headD 0,high:=p.high} o L (dL at_) q A (ws++at_.zip pg)=dw (U k) b lw {z with p:=p,n8:=a,high:=p.high} o L (dL at_) q A (ws++at_.zip pg):=by rintro a rfl;rfl
   have hgo:∀a,a=at_.headD 0→∃d' S'',Wk (dB true) d'∧Aml.Sub S'' (⟨up (U k).box b (gn {z with p:=p,n8:=a,high:=p.high} o L (dL at_) q A lw (ws.length+k)),(U k).acc⟩:St)∧d'=dB true∧S''=dw (U k) b lw {z with p:=p,n8:=at_.headD 0,high:=p.high} o L (dL at_) q A (ws++at_.zip pg):=fun a e=>by
    refine⟨_,_,.refl _,?_,rfl,rfl⟩
    rw[hfin a e]
    unfold dw
    rw[←htk,hwl,dt ha3]
    exact .refl _
   refine⟨fun hp=>⟨hp,fun a ha1=>?_⟩,fun hp=>?_⟩
   ·refine hgo a ?_
    cases at_ with
    |nil=>cases ha1
    |cons x l=>cases ha1;rfl
   ·refine hgo 0 ?_
    cases at_ with
    |nil=>rfl
    |cons x l=>exact absurd (by simp) hp
end
end Go.Proofs.YtpjenciplibdnaaGreatDoor
namespace Go.Proofs.YtpjenciplibdnaaGreatDoor
open Aml Go
end Go.Proofs.YtpjenciplibdnaaGreatDoor
namespace Go.Proofs.YtpjenciplibdnaaGreatDoor
open Aml Go
section
variable {a t r l h:Int}
end
end Go.Proofs.YtpjenciplibdnaaGreatDoor
namespace Go.Proofs.YtpjenciplibdnaaGreatDoor
open Aml Go
theorem VU{P:Program}{w0:W0}{f:FuncId}{args args':List DV}{S:St}{K:DV→St→Prop}{α:Type}{F:α→DV}{T:α→St}(h:aa P w0 f args' S (fun d S'=>∃b:α,d=F b∧S'=T b))(hk:∀b,K (F b) (T b))(ha:gk args args':=by exact gk.refl _):@AC P w0 f args S ⟨K⟩:=bB h (fun d S' ⟨b,e⟩=>by rw[e.1,e.2];exact hk b) ha
theorem VB{k:Nat}{n:N}{l:List C}{q:List Int}{c:C}(h:PV k n l q)(hcm:c∈l):BT k (ay c):=by
 obtain⟨hce,htb,hok⟩:=h.vi.cell c hcm
 have hsub:(bX (ay c)).Sublist (gS (n,l)):=(Fa hcm).trans (List.sublist_append_right _ _)
 exact⟨htb,h.tv.cell c hcm,(List.nodup_append.1 h.nd).1.sublist hsub,fun p hp=>h.qh p (List.mem_append_left _ (hsub.subset hp))⟩
theorem YW(s:ByteArray):pn (bY s)=true∧strOfNums (yX (bY s))=s:=by
 have e:bY s=(s.data.toList.map fun c=>(c.toNat:Int)).map fun n=>DV.v (.int .u8 n):=by unfold bY;rw[List.map_map];rfl
 rw[e,(DG _).1]
 refine⟨(DG _).2,?_⟩
 unfold strOfNums
 rw[List.map_map]
 have:s.data.toList.map ((fun n:Int=>UInt8.ofNat n.toNat)∘fun c=>(c.toNat:Int))=s.data.toList:=by
  refine(List.map_congr_left fun c _=>?_).trans (List.map_id _)
  simp
 rw[this]
section
variable {S:St} {b lw:Nat} {z o:Zt} {L W A:DV} {q:Int} {ws:List (Int×ByteArray)}
theorem KL(w0:W0)(hg:fF w0)(k:Nat)(hk:k≤116)(q0:List Int)(hq0:q0.length≤1000)(hpv:PV k z.n z.l q0)(h:D9 S b lw z o (xi z.l) W q (dL q0) []):
 aa Tryz.prog w0 76 [BY b] S (fun d S'=>d=dB true∧S'=dw S b lw {z with n:=(eP z.l z.n q0).n} o (xi (eP z.l z.n q0).l) W q (dL (eP z.l z.n q0).q) (eP z.l z.n q0).w):=by
 have hb:=h.box
 have ha:=h.acc
 have hll:z.l.length≤131072:=by have:=hpv.vi.len;omega
 unfold gn at hb
 refine vp [15] mx Tryz.func76 rfl rfl (by kernel_rfl) ?_;(refine @ab _ ?_;refine fa @Tryz.ntmps76 @hb @ha ?_)
 refine VU (xh w0 (z.l.map lD) _ (by rw[List.length_map];omega)) ?_
 intro lv
 (refine @ab _ ?_;refine aO @hb @ha ?_)
 have hne:¬lv.n=lw:=ft lv ha
 obtain⟨U,hUd⟩:∃U:Nat→St,∀j,U j=⟨up S.box b (gn {z with n:=(eP (z.l.take j) z.n q0).n} o (.acc lv.n z.l.length) W q (dL (eP (z.l.take j) z.n q0).q) lw (eP (z.l.take j) z.n q0).w.length),(lv.n,.arr 6 (((eP (z.l.take j) z.n q0).l++z.l.drop j).map lD))::up S.acc lw (.arr 2 ((eP (z.l.take j) z.n q0).w.map nS))⟩:=⟨_,fun _=>rfl⟩
 refine aA [15] z.l.length [0,3,26,27,28] (fun k=>[(28,dI k)]) U (fun _=>True) mx (by kernel_rfl) ?_ ?_
 ·have e0:up S.acc lw (.arr 2 ([].map nS))=S.acc:=dt ha
  rw[hUd 0,show eP (z.l.take 0) z.n q0=⟨[],z.n,q0,[]⟩from rfl]
  dsimp only[gn,List.drop_zero,List.nil_append,List.length_nil]
  rw[e0]
  (refine @ab _ ?_;exact aK)
 ·intro j hj _
  have ej:IntKind.i64.wrap ((j:Int)+1)=((j+1:Nat):Int):=by rw[ba (by omega) (by omega)];omega
  have hs:=xf hpv j hj
  have hUj:=hUd j
  have hUs:=hUd (j+1)
  rcases Nat.lt_or_ge j z.l.length with hlt|hge
  ·obtain⟨c,hc⟩:∃c,z.l[j]? =some c:=⟨_,List.getElem?_eq_getElem hlt⟩
   have hcm:=List.mem_of_getElem? hc
   obtain⟨hm,⟨M,R,V,hd⟩,hs1⟩:=E7 hpv hc hs
   have hbt:=VB hpv hcm
   obtain⟨_,hksz⟩:=dp (hpv.vi.cell c hcm).2.2
   have hsu:eP (z.l.take (j+1)) z.n q0=⟨(eP (z.l.take j) z.n q0).l++[af c.key M],rr (eP (z.l.take j) z.n q0).n c.key M.ak,R,(eP (z.l.take j) z.n q0).w++V⟩:=by
    rw[xc hc];unfold H7;rw[hd.eq]
   rw[hsu]at hUs
   generalize eP (z.l.take j) z.n q0=s at*
   have hql:s.q.length≤1000:=by rw[hs.left,List.length_drop];omega
   have hwl:s.w.length≤1000:=by have:=congrArg List.length hs.wr;rw[List.length_map,List.length_take]at this;omega
   have hvl:V.length≤1000:=by have:=congrArg List.length hd.pg;rw[List.length_map,List.length_take]at this;omega
   have hlay:∀S,aa Tryz.prog w0 181 [eT (ay c),dL s.q] S (fun d S'=>d= .bN [eT M,.sl 2 false (V.map nS),dL R,dB true]∧S'=S):=fun S=>by
    have:=Xu w0 hg (ay c) s.q S (AU hbt hk) (by omega)
    rw[Js hm hd]at this;exact this
   have hMp:0≤M.ak∧M.ak≤999:=by
    by_cases e:M.ak=0
    ·omega
    ·have:=hd.bt.qh _ (yr e);omega
   have hfind:=fun S=>Uy w0 (key:=c.key) hs.tb hk S
   have hput:=fun S=>EM w0 (key:=c.key) (val:=bF 2 M.ak) hs.tb hk hksz (by rw[aC];omega) S
   have hWU:D9 (U j) b lw {z with n:=s.n} o (.acc lv.n z.l.length) W q (dL s.q) s.w:=by
    rw[hUj]
    exact⟨by show lk (up S.box b _) b=_;rw[ax,hb];rfl,by show lk ((lv.n,_)::up S.acc lw _) lw=_;rw[ov hne,ax,ha];rfl⟩
   have hv3:lk (U j).acc lv.n=some (.arr 6 ((s.l++z.l.drop j).map lD)):=by rw[hUj];simp only[lk,if_true]
   have hb3:=hWU.box
   have ha3:=hWU.acc
   dsimp only[gn]at hb3
   have hXl:(s.l++z.l.drop j).length=z.l.length:=by rw[List.length_append,hs.len,List.length_drop];omega
   have hXj:(s.l++z.l.drop j)[j]? =some c:=by rw[List.getElem?_append_right (by rw[hs.len];omega),hs.len,Nat.sub_self,List.getElem?_drop];exact hc
   (refine @ab _ ?_;refine Bg @hb3 @ha3 @hv3 @ej @hlt ?_)
   have hsl:=hs.len
   refine⟨by omega,by omega,fun a ha5 b5=>?_⟩
   obtain rfl:a=c:=bq ha5 hXj
   have hWU5:∀x,D9 ⟨(b5.n,x)::(U j).box,(U j).acc⟩ b lw {z with n:=s.n} o (.acc lv.n z.l.length) W q (dL s.q) s.w:=fun x=>⟨by show lk ((b5.n,_)::_) b=_;rw[ov (ft b5 hb3)];exact hWU.box,hWU.acc⟩
   refine xF (RQ w0 (ay a) s.q R M V (hWU5 _) (by omega) hlay) ?_
   have hv4:lk (up (U j).acc lw (.arr 2 ((s.w++V).map nS))) lv.n=some (.arr 6 ((s.l++z.l.drop j).map lD)):=by rw[aL (fun e=>hne e.symm)];exact hv3
   simp(maxDischargeDepth:=12) (maxSteps:=1000000) -implicitDefEqProofs only[go_sem,Nat.reduceAdd,Nat.reduceSub,Nat.reduceMul,Nat.reduceLeDiff,Nat.reduceEqDiff,Nat.reduceGT,Nat.reduceBEq,reduceCtorEq,↓reduceIte,Int.reduceToNat,Int.reduceLE,Int.reduceLT,Int.reduceNe,Int.reduceEq,dw,gn,hb3,ha3,hv3,hv4]
   intro b6
   refine⟨hlt,by omega,by omega,fun a1 ha6=>?_⟩
   obtain rfl:a1=a:=bq ha6 hXj
   rw[ja (by omega) (by omega)]
   refine aq (tn w0 M.ak 2 _ (by decide) (by decide) (by omega) (by omega)) ?_
   (refine @ab _ ?_;refine Bg @hb3 @ha3 @hv3 @hv4 @ej ?_)
   obtain⟨y1,y2⟩:=YW (bF 2 M.ak)
   refine⟨y1,aT (hfind _) ?_⟩
   have dn:((s.l++z.l.drop j).map lD).set j (lD (af a1.key M))=((s.l++[af a1.key M])++z.l.drop (j+1)).map lD:=by
    rw[←List.map_set,List.set_append,if_neg (by omega),hs.len,Nat.sub_self,List.drop_eq_getElem_cons hlt,List.set_cons_zero,List.append_assoc];rfl
   have hfin:∀N',N'=rr s.n a1.key M.ak→∀x5 x6:Nat×List DV,Aml.Sub (U (j+1)) ⟨x6::x5::up (U j).box b (gn {z with n:=N'} o (.acc lv.n z.l.length) W q (dL R) lw (s.w.length+V.length)),up (up (U j).acc lw (.arr 2 ((s.w++V).map nS))) lv.n (.arr 6 (((s.l++z.l.drop j).map lD).set j (lD (af a1.key M))))⟩:=by
    rintro N' rfl x5 x6
    rw[hUs,hUj,dn,List.length_append]
    simp only[up,if_neg hne,if_true,rK]
    exact .bw (.bw (.refl _))
   (refine @ab _ ?_;refine Bg @hb3 @ha3 @hv3 @hv4 @ej ?_)
   rw[y2]
   refine⟨fun he=>⟨hlt,hfin s.n ?_ _ _⟩,fun he=>aT (hput _) ?_⟩
   ·unfold rr;rw[if_pos (cR.1 he)]
   ·have hput2:=hfin (ld a1.key (bF 2 M.ak) s.n) (by unfold rr;rw[if_neg (dc.1 he)])
    (refine @ab _ ?_;refine Bg @hb3 @ha3 @hv3 @hv4 @ej ?_)
    exact⟨hlt,hput2 _ _⟩
  ·obtain rfl:j=z.l.length:=by omega
   rw[List.take_length]at hs hUj
   rw[List.drop_length,List.append_nil]at hUj
   generalize eP z.l z.n q0=s at*
   have hge2:¬z.l.length<z.l.length:=by omega
   have hb3:lk (U z.l.length).box b=some (gn {z with n:=s.n} o (.acc lv.n z.l.length) W q (dL s.q) lw s.w.length):=by
    rw[hUj];show lk (up S.box b _) b=_;rw[ax,hb];rfl
   have hv3:lk (U z.l.length).acc lv.n=some (.arr 6 (s.l.map lD)):=by rw[hUj];simp only[lk,if_true]
   (refine @ab _ ?_;refine aO @ej @hge2 ?_)
   refine Lt b 10 (l:=lv.n) (s:=6) (xs:=s.l.map lD) hb3 (by rw[List.length_map,hs.len];rfl) hv3 ?_
   (refine @ab _ ?_;refine au ?_)
   refine fQ [] [] mx (by kernel_rfl) ?_
   (refine @ab _ ?_;refine au ?_)
   refine⟨_,_,.refl _,?_,rfl,rfl⟩
   show Aml.Sub (dw S b lw {z with n:=s.n} o (xi s.l) W q (dL s.q) s.w) ⟨up (U z.l.length).box b (gn {z with n:=s.n} o (xi s.l) W q (dL s.q) lw s.w.length),up (U z.l.length).acc lv.n (Ob.tl 6 (s.l.map lD))⟩
   rw[hUj]
   unfold dw
   simp only[up,if_true,rK]
   exact .nZ (.refl _)
end
end Go.Proofs.YtpjenciplibdnaaGreatDoor
namespace Go.Proofs.YtpjenciplibdnaaGreatDoor
open Aml Go
@[go_sem] def eZ (z:Zt):DV:= .agg (dI z.label::dU z.bD::dI z.root::dI z.n8::dI z.high::dI z.n.ak::dB z.n.leaf:: .sl 1 false (z.n.l.map fun c=>dS c.key):: .sl 2 false ((if z.n.leaf then z.n.l else []).map fM):: .sl 5 false ((aI z.n).map dT):: .sl 6 false (z.l.map lD):: .sl 1 false (z.own.map dI)::dI z.p.high:: .sl 1 false (z.p.free.map dI):: .sl 2 false (z.p.wait.map dW)::[])
@[go_sem] def UG:DV:= .sl 1 false [.agg [.v (.func (.func 74) #[] #[])],.agg [.v (.func (.func 75) #[] #[])],.agg [.v (.func (.func 76) #[] #[])],.agg [.v (.func (.func 77) #[] #[])],.agg [.v (.func (.func 78) #[] #[])],.agg [.v (.func (.func 79) #[] #[])]]
theorem NF(w0:W0)(S:St):aa Tryz.prog w0 33 [] S (fun d S'=>d=UG∧S'=S):=by
 refine aY [] mx Tryz.func33 rfl rfl (by kernel_rfl) ?_;(refine @ab _ ?_;refine ao @Tryz.ntmps33 ?_)
 trivial
structure Sg where
 z:Zt
 W:DV
 A:DV
 ws:List (Int×ByteArray)
def rn(w0:W0)(f:FuncId)(o:Zt)(q:Int)(x y:Sg):Prop:=∀S b lw,D9 S b lw x.z o (xi x.z.l) x.W q x.A x.ws→aa Tryz.prog w0 f [BY b] S (fun d S'=>d=dB true∧S'=dw S b lw y.z o (xi y.z.l) y.W q y.A y.ws)
section
theorem WI(w0:W0)(hg:fF w0)(o:Zt)(n:N)(l:List C)(q t:Int)(hd:Bool)(S:St)(p:Pl)(X:Nat→Sg)(htx:0≤o.bD∧o.bD≤1000000)(hrel:∀S,aa Tryz.prog w0 32 [dP o.p,dU t,dB hd] S (fun d S'=>d=dP p∧S'=S))
 (h0:X 0=⟨{o with bD:=o.bD+1,n:=n,l:=l,own:=[],p:=p},.sl 0 true [],.sl 0 true [],[]⟩) (h6:(X 6).W=dL (X 6).z.own) (hmt:vG (X 6).z.label (X 6).z.bD (X 6).z.root (X 6).z.n8 (X 6).z.high)
 (s0:rn w0 74 o q (X 0) (X 1)) (s1:rn w0 75 o q (X 1) (X 2)) (s2:rn w0 76 o q (X 2) (X 3)) (s3:rn w0 77 o q (X 3) (X 4)) (s4:rn w0 78 o q (X 4) (X 5)) (s5:rn w0 79 o q (X 5) (X 6)):
 aa Tryz.prog w0 13 [eZ o,eV n l,dI q,dU t,dB hd] S (fun d S'=>d= .bN [eZ (X 6).z,.sl 2 false ((X 6).ws.map nS),fC (rS (X 6).z.label (X 6).z.bD (X 6).z.root (X 6).z.n8 (X 6).z.high),dB true]∧S'=S):=by
 have etx:IntKind.u64.wrap (o.bD+1)=o.bD+1:=ja (by omega) (by omega)
 refine aY [3,10] mx Tryz.func13 rfl rfl (by kernel_rfl) ?_;(refine @ab _ ?_;refine ao @Tryz.ntmps13 ?_)
 intro b5 b6 b10
 refine aT (hrel _) ?_
 (refine @ab _ ?_;refine ao @etx ?_)
 intro b
 refine eg b.n 32 2 (by omega) (fq _ _ _) rfl fun lw=>?_
 refine fQ [10] [] mx (by kernel_rfl) ?_
 (refine @ab _ ?_;refine ao @etx ?_)
 refine aq (NF w0 _) ?_
 (refine @ab _ ?_;refine au ?_)
 refine aA [10] 6 [5,10,14,43,44,45] (fun k=>[(45,dI k)]) (fun k=>⟨(b.n,gn (X k).z o (xi (X k).z.l) (X k).W q (X k).A lw.n (X k).ws.length)::(b10.n,[dI 0,dU 0,dI 0,dI 0,dI 0,dI 0,dB false,.sl 0 true [],.sl 0 true [],.sl 0 true [],.sl 0 true [],.sl 0 true [],dI 0,.sl 0 true [],.sl 0 true []])::(b6.n,[dI n.ak,dB n.leaf,.sl 1 false (n.l.map fun c=>dS c.key),.sl 2 false ((if n.leaf then n.l else []).map fM),.sl 5 false ((aI n).map dT),.sl 6 false (l.map lD)])::(b5.n,dI o.label::dU o.bD::dI o.root::dI o.n8::dI o.high::dI o.n.ak::dB o.n.leaf:: .sl 1 false (o.n.l.map fun c=>dS c.key):: .sl 2 false ((if o.n.leaf then o.n.l else []).map fM):: .sl 5 false ((aI o.n).map dT)::xi o.l::dL o.own::dI o.p.high:: .sl 1 false (o.p.free.map dI):: .sl 2 false (o.p.wait.map dW)::[])::S.box,(lw.n,.arr 2 ((X k).ws.map nS))::S.acc⟩) (fun _=>True) mx (by kernel_rfl) ?_ ?_
 ·rw[h0]
  simp(maxDischargeDepth:=12) (maxSteps:=1000000) -implicitDefEqProofs only[go_sem,Nat.reduceAdd,Nat.reduceSub,Nat.reduceMul,Nat.reduceLeDiff,Nat.reduceEqDiff,Nat.reduceGT,Nat.reduceBEq,reduceCtorEq,↓reduceIte,Int.reduceToNat,Int.reduceLE,Int.reduceLT,Int.reduceNe,Int.reduceEq,gn]
 ·intro k hk _
  match k,hk with
  |0,_=>
   (refine @ab _ ?_;refine au ?_)
   intro b16
   refine xF (s0 _ b.n lw.n ⟨by(refine @ab _ ?_;exact aK),by(refine @ab _ ?_;exact aK)⟩) ?_
   simp(maxDischargeDepth:=12) (maxSteps:=1000000) -implicitDefEqProofs only[go_sem,Nat.reduceAdd,Nat.reduceSub,Nat.reduceMul,Nat.reduceLeDiff,Nat.reduceEqDiff,Nat.reduceGT,Nat.reduceBEq,reduceCtorEq,↓reduceIte,Int.reduceToNat,Int.reduceLE,Int.reduceLT,Int.reduceNe,Int.reduceEq,dw]
   rfl
  |1,_=>
   (refine @ab _ ?_;refine au ?_)
   intro b16
   refine xF (s1 _ b.n lw.n ⟨by(refine @ab _ ?_;exact aK),by(refine @ab _ ?_;exact aK)⟩) ?_
   simp(maxDischargeDepth:=12) (maxSteps:=1000000) -implicitDefEqProofs only[go_sem,Nat.reduceAdd,Nat.reduceSub,Nat.reduceMul,Nat.reduceLeDiff,Nat.reduceEqDiff,Nat.reduceGT,Nat.reduceBEq,reduceCtorEq,↓reduceIte,Int.reduceToNat,Int.reduceLE,Int.reduceLT,Int.reduceNe,Int.reduceEq,dw]
   rfl
  |2,_=>
   (refine @ab _ ?_;refine au ?_)
   intro b16
   refine xF (s2 _ b.n lw.n ⟨by(refine @ab _ ?_;exact aK),by(refine @ab _ ?_;exact aK)⟩) ?_
   simp(maxDischargeDepth:=12) (maxSteps:=1000000) -implicitDefEqProofs only[go_sem,Nat.reduceAdd,Nat.reduceSub,Nat.reduceMul,Nat.reduceLeDiff,Nat.reduceEqDiff,Nat.reduceGT,Nat.reduceBEq,reduceCtorEq,↓reduceIte,Int.reduceToNat,Int.reduceLE,Int.reduceLT,Int.reduceNe,Int.reduceEq,dw]
   rfl
  |3,_=>
   (refine @ab _ ?_;refine au ?_)
   intro b16
   refine xF (s3 _ b.n lw.n ⟨by(refine @ab _ ?_;exact aK),by(refine @ab _ ?_;exact aK)⟩) ?_
   simp(maxDischargeDepth:=12) (maxSteps:=1000000) -implicitDefEqProofs only[go_sem,Nat.reduceAdd,Nat.reduceSub,Nat.reduceMul,Nat.reduceLeDiff,Nat.reduceEqDiff,Nat.reduceGT,Nat.reduceBEq,reduceCtorEq,↓reduceIte,Int.reduceToNat,Int.reduceLE,Int.reduceLT,Int.reduceNe,Int.reduceEq,dw]
   rfl
  |4,_=>
   (refine @ab _ ?_;refine au ?_)
   intro b16
   refine xF (s4 _ b.n lw.n ⟨by(refine @ab _ ?_;exact aK),by(refine @ab _ ?_;exact aK)⟩) ?_
   simp(maxDischargeDepth:=12) (maxSteps:=1000000) -implicitDefEqProofs only[go_sem,Nat.reduceAdd,Nat.reduceSub,Nat.reduceMul,Nat.reduceLeDiff,Nat.reduceEqDiff,Nat.reduceGT,Nat.reduceBEq,reduceCtorEq,↓reduceIte,Int.reduceToNat,Int.reduceLE,Int.reduceLT,Int.reduceNe,Int.reduceEq,dw]
   rfl
  |5,_=>
   (refine @ab _ ?_;refine au ?_)
   intro b16
   refine xF (s5 _ b.n lw.n ⟨by(refine @ab _ ?_;exact aK),by(refine @ab _ ?_;exact aK)⟩) ?_
   simp(maxDischargeDepth:=12) (maxSteps:=1000000) -implicitDefEqProofs only[go_sem,Nat.reduceAdd,Nat.reduceSub,Nat.reduceMul,Nat.reduceLeDiff,Nat.reduceEqDiff,Nat.reduceGT,Nat.reduceBEq,reduceCtorEq,↓reduceIte,Int.reduceToNat,Int.reduceLE,Int.reduceLT,Int.reduceNe,Int.reduceEq,dw]
   rfl
  |6,_=>
   simp(maxDischargeDepth:=12) (maxSteps:=1000000) -implicitDefEqProofs only[go_sem,Nat.reduceAdd,Nat.reduceSub,Nat.reduceMul,Nat.reduceLeDiff,Nat.reduceEqDiff,Nat.reduceGT,Nat.reduceBEq,reduceCtorEq,↓reduceIte,Int.reduceToNat,Int.reduceLE,Int.reduceLT,Int.reduceNe,Int.reduceEq,gn,h6]
   refine aq (Qi w0 hg _ hmt) ?_
   simp(maxDischargeDepth:=12) (maxSteps:=1000000) -implicitDefEqProofs only[go_sem,Nat.reduceAdd,Nat.reduceSub,Nat.reduceMul,Nat.reduceLeDiff,Nat.reduceEqDiff,Nat.reduceGT,Nat.reduceBEq,reduceCtorEq,↓reduceIte,Int.reduceToNat,Int.reduceLE,Int.reduceLT,Int.reduceNe,Int.reduceEq,gn,h6]
   refine MU ⟨[(b.n,dI (X 6).z.label::dU (X 6).z.bD::dI (X 6).z.root::dI (X 6).z.n8::dI (X 6).z.high::dI (X 6).z.n.ak::dB (X 6).z.n.leaf:: .sl 1 false ((X 6).z.n.l.map fun c=>dS c.key):: .sl 2 false ((if(X 6).z.n.leaf then(X 6).z.n.l else []).map fM):: .sl 5 false ((aI (X 6).z.n).map dT)::xi (X 6).z.l::dL (X 6).z.own::dI (X 6).z.p.high:: .sl 1 false ((X 6).z.p.free.map dI):: .sl 2 false ((X 6).z.p.wait.map dW)::dI o.label::dU o.bD::dI o.root::dI o.n8::dI o.high::dI o.n.ak::dB o.n.leaf:: .sl 1 false (o.n.l.map fun c=>dS c.key):: .sl 2 false ((if o.n.leaf then o.n.l else []).map fM):: .sl 5 false ((aI o.n).map dT)::xi o.l::dL o.own::dI o.p.high:: .sl 1 false (o.p.free.map dI):: .sl 2 false (o.p.wait.map dW)::dI q::(X 6).A:: .acc lw.n (X 6).ws.length::[])],[]⟩ [11] [] [0,1,2,4,5,6,8,9,10,3,7,11,12,13,14] mx (by kernel_rfl) ?_
   simp(maxDischargeDepth:=12) (maxSteps:=1000000) -implicitDefEqProofs only[go_sem,Nat.reduceAdd,Nat.reduceSub,Nat.reduceMul,Nat.reduceLeDiff,Nat.reduceEqDiff,Nat.reduceGT,Nat.reduceBEq,reduceCtorEq,↓reduceIte,Int.reduceToNat,Int.reduceLE,Int.reduceLT,Int.reduceNe,Int.reduceEq,gn,h6]
   repeat (refine⟨mj (by simp(maxDischargeDepth:=12) (maxSteps:=1000000) -implicitDefEqProofs only[go_sem,Nat.reduceAdd,Nat.reduceSub,Nat.reduceMul,Nat.reduceLeDiff,Nat.reduceEqDiff,Nat.reduceGT,Nat.reduceBEq,reduceCtorEq,↓reduceIte,Int.reduceToNat,Int.reduceLE,Int.reduceLT,Int.reduceNe,Int.reduceEq]),?_⟩)
   exact mj (by simp(maxDischargeDepth:=12) (maxSteps:=1000000) -implicitDefEqProofs only[go_sem,Nat.reduceAdd,Nat.reduceSub,Nat.reduceMul,Nat.reduceLeDiff,Nat.reduceEqDiff,Nat.reduceGT,Nat.reduceBEq,reduceCtorEq,↓reduceIte,Int.reduceToNat,Int.reduceLE,Int.reduceLT,Int.reduceNe,Int.reduceEq])
theorem W5(w0:W0)(o:Zt)(n:N)(l:List C)(q t:Int)(hd:Bool)(S:St)(p:Pl)(htx:0≤o.bD∧o.bD≤1000000)(hrel:∀S,aa Tryz.prog w0 32 [dP o.p,dU t,dB hd] S (fun d S'=>d=dP p∧S'=S))
 (hf:∀S,aa Tryz.prog w0 127 [eV o.n o.l,eV n l,dL o.own,dP p,dI q] S (fun d S'=>d=dB false∧S'=S)):
 aa Tryz.prog w0 13 [eZ o,eV n l,dI q,dU t,dB hd] S (fun d S'=>d= .bN [eZ o,.sl 0 true [],.sl 0 true [],dB false]∧S'=S):=by
 have etx:IntKind.u64.wrap (o.bD+1)=o.bD+1:=ja (by omega) (by omega)
 refine aY [3,10] mx Tryz.func13 rfl rfl (by kernel_rfl) ?_;(refine @ab _ ?_;refine ao @Tryz.ntmps13 ?_)
 intro b5 b6 b10
 refine aT (hrel _) ?_
 (refine @ab _ ?_;refine ao @etx ?_)
 intro b
 refine eg b.n 32 2 (by omega) (fq _ _ _) rfl fun lw=>?_
 refine fQ [10] [] mx (by kernel_rfl) ?_
 (refine @ab _ ?_;refine ao @etx ?_)
 refine aq (NF w0 _) ?_
 (refine @ab _ ?_;refine au ?_)
 refine aA [10] 6 [5,10,14,43,44,45] (fun k=>[(45,dI k)]) (fun k=>⟨(b.n,gn ({o with bD:=o.bD+1,n:=n,l:=l,own:=[],p:=p}:Zt) o (xi l) (.sl 0 true []) q (.sl 0 true []) lw.n 0)::(b10.n,[dI 0,dU 0,dI 0,dI 0,dI 0,dI 0,dB false,.sl 0 true [],.sl 0 true [],.sl 0 true [],.sl 0 true [],.sl 0 true [],dI 0,.sl 0 true [],.sl 0 true []])::(b6.n,[dI n.ak,dB n.leaf,.sl 1 false (n.l.map fun c=>dS c.key),.sl 2 false ((if n.leaf then n.l else []).map fM),.sl 5 false ((aI n).map dT),.sl 6 false (l.map lD)])::(b5.n,dI o.label::dU o.bD::dI o.root::dI o.n8::dI o.high::dI o.n.ak::dB o.n.leaf:: .sl 1 false (o.n.l.map fun c=>dS c.key):: .sl 2 false ((if o.n.leaf then o.n.l else []).map fM):: .sl 5 false ((aI o.n).map dT)::xi o.l::dL o.own::dI o.p.high:: .sl 1 false (o.p.free.map dI):: .sl 2 false (o.p.wait.map dW)::[])::S.box,(lw.n,.arr 2 [])::S.acc⟩) (fun k=>k=0) mx (by kernel_rfl) ?_ ?_
 ·simp(maxDischargeDepth:=12) (maxSteps:=1000000) -implicitDefEqProofs only[go_sem,Nat.reduceAdd,Nat.reduceSub,Nat.reduceMul,Nat.reduceLeDiff,Nat.reduceEqDiff,Nat.reduceGT,Nat.reduceBEq,reduceCtorEq,↓reduceIte,Int.reduceToNat,Int.reduceLE,Int.reduceLT,Int.reduceNe,Int.reduceEq,gn]
 ·intro k hk h0
  subst h0
  (refine @ab _ ?_;refine au ?_)
  intro b16
  refine aq (RA w0 (z:={o with bD:=o.bD+1,n:=n,l:=l,own:=[],p:=p}) (b:=b.n) (lw:=lw.n) (ws:=[]) (W:= .sl 0 true []) (A:= .sl 0 true []) ⟨by(refine @ab _ ?_;exact aK),by(refine @ab _ ?_;exact aK)⟩ false hf) ?_
  simp(maxDischargeDepth:=12) (maxSteps:=1000000) -implicitDefEqProofs only[go_sem,Nat.reduceAdd,Nat.reduceSub,Nat.reduceMul,Nat.reduceLeDiff,Nat.reduceEqDiff,Nat.reduceGT,Nat.reduceBEq,reduceCtorEq,↓reduceIte,Int.reduceToNat,Int.reduceLE,Int.reduceLT,Int.reduceNe,Int.reduceEq]
end
theorem xn{k:Nat}{m:N}{l X:List C}{name:ByteArray}(hm:TB k m)(hc:kE (fun a b=>Bq l a b∧a≠name) m)(h:∀c,c∈l→c.key≠name→c∈X):kE (Bq X) m:=by
 obtain⟨_,d,hg,_⟩:=hm
 refine nL (aw hg) ?_ hc
 rintro e he ⟨⟨c,h1,h2,h3,h4⟩,h5⟩
 exact⟨c,h c h1 (by rw[h2];exact h5),h2,h3,h4⟩
theorem VK{k:Nat}{n:N}{l:List C}(h:VI k n l)(hk:k≤116)(hc:kE (Bq l) n)(name:ByteArray):kE (Bq (mI name n l).1.2) (mI name n l).1.1:=by
 have hv:=(Np h hk name).dir
 unfold mI at hv ⊢
 cases hok:gE name with
 |false=>exact hc
 |true=>
  cases hh:dE l name with
  |true=>exact hc
  |false=>
   rw[hok,hh]at hv
   simp only[if_true,if_false,Bool.false_eq_true]at hv ⊢
   obtain⟨hne,hsz⟩:=dp hok
   obtain⟨_,d,hg,_⟩:=h.dir
   refine xn hv (Ea hsz (by decide) hg hc) fun c hc _=>?_
   rw[←List.take_append_drop (bk l name) l]at hc
   rw[List.append_assoc]
   rcases List.mem_append.1 hc with hc|hc
   ·exact List.mem_append_left _ hc
   ·exact List.mem_append_right _ (List.mem_append_right _ hc)
theorem WW{k:Nat}{n:N}{l:List C}(h:VI k n l)(hk:k≤116)(hc:kE (Bq l) n)(name:ByteArray):kE (Bq (we name n l).1.2) (we name n l).1.1:=by
 have hv:=(Sd h hk name).dir
 unfold we at hv ⊢
 cases hh:dE l name with
 |false=>exact hc
 |true=>
  rw[hh]at hv
  simp only[if_true]at hv ⊢
  obtain⟨A,b,B,hl,hb,hi,h1,h2⟩:=xt h.bW hh
  obtain⟨_,d,hg,_⟩:=h.dir
  have e:l.take (bk l name)++l.drop (bk l name+1)=A++B:=by rw[hi,hl];simp
  rw[e]
  refine xn hv (T0 hg hc) fun c hc hne=>?_
  rw[hl]at hc
  rcases List.mem_append.1 hc with hc|hc
  ·exact List.mem_append_left _ hc
  ·rcases List.mem_cons.1 hc with rfl|hc
   ·exact absurd hb hne
   ·exact List.mem_append_right _ hc
theorem Nz{k:Nat}{n:N}{l:List C}(h:VI k n l)(hk:k≤116)(hc:kE (Bq l) n)(name:ByteArray)(f:N→N×Int)(hf:∀t,TB k t→TB (k+1) (f t).1):kE (Bq (ve name f n l).1.2) (ve name f n l).1.1:=by
 have hv:=(Rq h hk name f hf).dir
 unfold ve at hv ⊢
 cases hh:dE l name with
 |false=>exact hc
 |true=>
  rw[hh]at hv
  obtain⟨A,b,B,hl,hb,hi,h1,h2⟩:=xt h.bW hh
  have hgb:l[bk l name]? =some b:=by rw[hi,hl];simp
  simp only[if_true,hgb]at hv ⊢
  by_cases e0:(f (ay b)).2=0
  ·rw[if_pos e0]at hv ⊢
   obtain⟨hne,hsz⟩:=dp (h.cell b (List.mem_of_getElem? hgb)).2.2
   rw[hb]at hne hsz
   obtain⟨_,d,hg,_⟩:=h.dir
   have e:l.set (bk l name) (af b.key (f (ay b)).1)=A++af b.key (f (ay b)).1::B:=by rw[hi,hl];simp
   simp only at hv ⊢
   rw[e]
   refine xn hv (Ea hsz (by decide) hg hc) fun c hc hne=>?_
   rw[hl]at hc
   rcases List.mem_append.1 hc with hc|hc
   ·exact List.mem_append_left _ hc
   ·rcases List.mem_cons.1 hc with rfl|hc
    ·exact absurd hb hne
    ·exact List.mem_append_right _ (List.mem_cons_of_mem _ hc)
  ·rw[if_neg e0]
   exact hc
theorem Rt{j k:Nat}{z:Zt}{n:N}{l:List C}(hz:ZI j z)(hv:ZV k z n l)(hj:j≤k):BI k (n,l) (z.n,z.l) z.p.high:=
 ⟨hv.vi,fJ hz.vi hj,hv.tv,hz.fr,hv.sub,List.nodup_iff_count.1 (List.nodup_append.1 hz.nd).1,fun p hp=>hz.qh p (List.mem_append_left _ hp),hz.keep.oD.2.2.1,hz.keep.oD.2.2.2.1⟩
theorem Be{k:Nat}{z:Zt}{q:N×List C}(hb:BI k q (z.n,z.l) z.p.high)(hc:kE (Bq q.2) q.1):ZV k z q.1 q.2:=⟨hb.v,hb.tv,hc,hb.sub⟩
theorem Q6{k m:Nat}{z:Zt}{n:N}{l:List C}(h:ZV k z n l)(hm:k≤m):ZV m z n l:=⟨fJ h.vi hm,h.tv,h.cl,h.sub⟩
structure Sp where
 kind:Int
 name:ByteArray
 key:ByteArray
 size:Int
@[go_sem] def Yr (s:Sp):DV:= .agg [dI s.kind,dS s.name,dS s.key,dI s.size]
def me(s:Sp)(q:N×List C):N×List C:=
 if s.kind=0 then(mI s.name q.1 q.2).1 else if s.kind=1 then(we s.name q.1 q.2).1
 else if s.kind=2 then(sN s.name s.key (strOfNums (List.replicate s.size.toNat 0)) q.1 q.2).1
 else if s.kind=3 then(Oq s.name s.key q.1 q.2).1 else q
theorem JZ{j k:Nat}{z:Zt}{q:N×List C}(hz:ZI j z)(hj:j≤k)(hk:k≤116)(h:ZV k z q.1 q.2)(s:Sp):ZV (k+1) z (me s q).1 (me s q).2:=by
 have hb:=Rt hz h hj
 unfold me
 by_cases h0:s.kind=0
 ·rw[if_pos h0]
  exact Be (Xi hb hk s.name) (VK h.vi hk h.cl s.name)
 ·rw[if_neg h0]
  by_cases h1:s.kind=1
  ·rw[if_pos h1]
   exact Be (V8 hb hk s.name) (WW h.vi hk h.cl s.name)
  ·rw[if_neg h1]
   by_cases h2:s.kind=2
   ·rw[if_pos h2]
    refine Be (RG hb hk s.name s.key _) ?_
    unfold sN
    split
    ·rename_i hc
     simp only[Bool.and_eq_true,decide_eq_true_eq]at hc
     obtain⟨hne,hsz⟩:=dp hc.1
     exact Nz h.vi hk h.cl s.name _ fun t ht=>tu ht hk hne hsz hc.2
    ·exact h.cl
   ·rw[if_neg h2]
    by_cases h3:s.kind=3
    ·rw[if_pos h3]
     refine Be (VD hb hk s.name s.key) ?_
     unfold Oq
     refine Nz h.vi hk h.cl s.name _ fun t ht=>?_
     split
     ·exact Cb ht hk
     ·exact lL ht (by omega)
    ·rw[if_neg h3]
     exact Q6 h (by omega)
def z0(label:Int):Zt:=⟨label,0,0,0,2,mi,[],[],⟨2,[],[]⟩⟩
theorem Fp{label:Int}(h:0≤label∧label≤63):ZI 0 (z0 label):=by
 have hk:=DX 1000 (by omega)
 refine⟨Ru 0,⟨⟨yW,uB,Ry⟩,fun c hc=>absurd hc List.not_mem_nil⟩,rfl,?_,List.nodup_nil,fun x hx=>(by cases hx),Ff hk fun i=>rfl,rfl,rfl,⟨Int.le_refl _,Int.le_refl _⟩,h⟩
 exact Ek (aw (yj:Good 0 mi)) fun e he=>by cases he
theorem jt{k:Nat}{z:Zt}(h:ZI k z):(bJ z.n z.l++z.own++listed z.p).Perm (bW 2 (z.p.high-2).toNat):=by
 obtain⟨c1,c2⟩:=sQ h.keep.oD
 have h2:=h.keep.oD.2.2.1
 have hP:(bJ z.n z.l++z.own++listed z.p).Perm (gS (z.n,z.l)++z.own++jH z.p):=by
  rw[cH]
  exact((rR h.vi).append_right _).append (bI _)
 have hnot:∀x,x∈gS (z.n,z.l)++z.own→x∉jH z.p:=fun x hx=>by
  have h3:=h.qh x hx
  have:=(h.keep.own x.toNat (by unfold dn;rw[decide_eq_true_eq,Int.toNat_of_nonneg (by omega)];exact hx)).2.2
  rwa [Int.toNat_of_nonneg (by omega)]at this
 have hN:(gS (z.n,z.l)++z.own++jH z.p).Nodup:=List.nodup_append.2 ⟨h.nd,c2,fun a ha b hb e=>hnot a ha (e▸hb)⟩
 refine hP.trans ((List.perm_ext_iff_of_nodup hN (jX (sI _ _))).2 fun x=>?_)
 rw[List.mem_append,lB]
 constructor
 ·rintro(hx|hx)
  ·have:=h.qh x hx;omega
  ·have:=c1 x hx;omega
 ·rintro⟨g1,g2⟩
  rcases h.keep.all x g1 (by omega)with hx|hx
  ·exact .inr hx
  ·unfold dn at hx
   rw[decide_eq_true_eq,Int.toNat_of_nonneg (by omega)]at hx
   exact .inl hx
theorem Gl{k:Nat}{z:Zt}(h:ZI k z):bz (bJ z.n z.l++z.own++listed z.p)=bW 2 (z.p.high-2).toNat:=
 (mB ((sI _ _).imp fun h=>by omega) (jt h).symm).symm
theorem Li{h:Int}{n i:Nat}{x:Int}(e:(bW h n)[i]? =some x):x=h+i:=by
 unfold bW at e
 rw[List.getElem?_map]at e
 cases hr:(List.range n)[i]? with
 |none=>rw[hr]at e;cases e
 |some j=>
  rw[hr]at e
  have hj:j=i:=by
   obtain⟨u,e2⟩:=List.getElem?_eq_some_iff.1 hr
   rw[List.getElem_range]at e2;exact e2.symm
  subst hj
  exact(Option.some.inj e).symm
theorem Om{k:Nat}{z:Zt}(h:ZI k z)(hl:z.n8=z.own.headD 0):(z.root=0∨(2≤z.root∧z.root<z.high))∧(z.n8=0∨(2≤z.n8∧z.n8<z.high))∧(z.root=0∨z.root≠z.n8)∧2≤z.high∧z.high≤1000:=by
 have hr:z.root≠0→z.root∈gS (z.n,z.l):=fun e=>by
  rw[h.root]at e ⊢
  exact List.mem_append_left _ (yr e)
 have ho:z.n8≠0→z.n8∈z.own:=fun e=>by
  rw[hl]at e ⊢
  cases ho:z.own with
  |nil=>rw[ho]at e;exact absurd rfl e
  |cons a r=>exact List.mem_cons_self
 have hh:=h.high
 have hc:=h.keep.oD
 refine⟨?_,?_,?_,by rw[hh];exact hc.2.2.1,by rw[hh];exact hc.2.2.2.1⟩
 ·by_cases e:z.root=0
  ·exact .inl e
  ·have:=h.qh _ (List.mem_append_left _ (hr e))
   exact .inr (by rw[hh];exact this)
 ·by_cases e:z.n8=0
  ·exact .inl e
  ·have:=h.qh _ (List.mem_append_right _ (ho e))
   exact .inr (by rw[hh];exact this)
 ·by_cases e:z.root=0
  ·exact .inl e
  ·refine .inr fun e2=>?_
   exact(List.nodup_append.1 h.nd).2.2 _ (hr e) _ (ho (by rw[←e2];exact e)) e2
end Go.Proofs.YtpjenciplibdnaaGreatDoor
