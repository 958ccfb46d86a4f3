/-
  A commit's laying of a view, bucket by bucket, and of its directory: plain laws; A commit's laying of a view: what it comes to: plain laws; What is listed, as the document has it; what is small; pools as the document has them; the same; Whether a pool may be; Pages that are released, given and taken; The plain laws of what is released; The plain laws of what is taken and given; The plain laws of pages that are had; Views as the program has them, of the reference's; the trees of a view, one by one; How many pages a view takes, which it has, and which another one has lost: the program; What a view has lost, what a commit of it takes, and whether it has room: the program; What a commit of a view takes, and whether it has room: the program; the law's example; A label's versions, and what a commit makes of one: plain laws; A commit's plan: it has room for all that it does, and what it makes may be: plain laws; Pages of a list: which may be, and whether they are apart: what the program computes; A list's pages: what the program computes; A version's meta: what may be, and its page: what the program computes; A row of bytes that is written out, and turned to its own type: the run-time marks it; A meta's page: what the program computes; The document's example on pools is met; A commit's work: what the program's steps make of it; A commit's last step: its list; Numbers taken from a text, by the reference; A meta's page, as the reference puts and gets it; A commit's buckets are laid, one by one. By an AI agent.
-/
import Derived.Test.YtpjenciplibdnaaGreatDoorMO5
import Derived.Test.YtpjenciplibdnaaGreatDoorMO7
import Derived.Test.YtpjenciplibdnaaGreatDoorMO6
import Derived.Test.YtpjenciplibdnaaGreatDoorMO4
import Derived.Lib.SlBytesConst
set_option linter.unusedVariables false
set_option linter.unusedSimpArgs false
set_option maxRecDepth 100000
set_option maxHeartbeats 16000000
namespace Go.Proofs.YtpjenciplibdnaaGreatDoor
open Aml Go
def qf(n:N)(key:ByteArray)(p:Int):N:=if(cw key n).getD aJ=aC 2 p then n else k7 key (aC 2 p) n
structure CS where
 l:List C
 n:N
 q:List Int
 w:List (Int×ByteArray)
def G6(s:CS)(c:C):CS:=⟨s.l++[af c.key (bq (aA c) (s.q,[])).1],qf s.n c.key (bq (aA c) (s.q,[])).1.aq,(bq (aA c) (s.q,[])).2.1,s.w++(bq (aA c) (s.q,[])).2.2⟩
def eP(l:List C)(n:N)(q:List Int):CS:=l.foldl G6 ⟨[],n,q,[]⟩
theorem wB{l:List C}{k:Nat}{c:C}(h:l[k]? =some c)(n:N)(q:List Int):eP (l.take (k+1)) n q=G6 (eP (l.take k) n q) c:=by
 unfold eP
 rw[List.take_add_one,h,Option.toList_some,List.foldl_append];rfl
def zA(l:List C)(k v:ByteArray):Prop:=∃c,c∈l∧c.key=k∧dG (aA c)=0∧v=aC 2 (aA c).aq
theorem oU{l:List C}(h:dm l){a b:C}(ha:a∈l)(hb:b∈l)(e:a.key=b.key):a=b:=by
 obtain⟨i,hi⟩:=List.mem_iff_getElem?.1 ha
 obtain⟨j,hj⟩:=List.mem_iff_getElem?.1 hb
 obtain⟨u1,e1⟩:=List.getElem?_eq_some_iff.1 hi
 obtain⟨u2,e2⟩:=List.getElem?_eq_some_iff.1 hj
 have hp:=List.pairwise_iff_getElem.1 h
 rcases Nat.lt_trichotomy i j with q|q|q
 ·have:=hp i j u1 u2 q
  rw[e1,e2,e,cI]at this;cases this
 ·subst q;rw[←e1,←e2]
 ·have:=hp j i u2 u1 q
  rw[e1,e2,e,cI]at this;cases this
theorem M0{d:Nat}{n:N}(hg:Good d n){l:List C}{f:ByteArray→ByteArray}(hr:dm l)(he:di n=l.map (cY f)){c:C}(hc:c∈l):(cw c.key n).getD aJ=f c.key:=by
 rw[nm c.key hg,he]
 have:(l.map (cY f)).find? (fun x=>eS x.key c.key)=some (cY f c):=by
  cases h:(l.map (cY f)).find? fun x=>eS x.key c.key with
  |none=>
   have:=List.find?_eq_none.1 h (cY f c) (List.mem_map.2 ⟨c,hc,rfl⟩)
   exact absurd (cN.2 rfl) this
  |some y=>
   have h1:=List.mem_of_find?_eq_some h
   have h2:eS y.key c.key=true:=List.find?_some (p:=fun x:C=>eS x.key c.key) h
   have h2:=cN.1 h2
   obtain⟨x,hx,rfl⟩:=List.mem_map.1 h1
   rw[oU hr hx hc h2]
 rw[this];rfl
structure PV(k:Nat)(n:N)(l:List C)(q:List Int):Prop where
 vi:VI k n l
 tv:TV (n,l)
 nd:(gO (n,l)++q).Nodup
 re:∀p,p∈gO (n,l)++q→2≤p∧p≤999
 fr:eJ (n,l)≤q.length
 cl:kq (zA l) n
structure CJ(k:Nat)(n:N)(l:List C)(q:List Int)(j:Nat)(s:CS):Prop where
 len:s.l.length=j
 keys:s.l.map C.key=(l.take j).map C.key
 cell:∀(i:Nat) c x,(l.take j)[i]? =some c→s.l[i]? =some x→x=af c.key (aA x)∧TB k (aA x)∧TL (aA x)∧dG (aA x)=0∧tT (aA x)=tT (aA c)
 tb:TB k s.n
 tl:TL s.n
 fr:dG s.n=dG n
 XJ:cf s.n=cf n
 cl:kq (zA l) s.n
 en:∃f:ByteArray→ByteArray,(∀k,(f k).size=2)∧di s.n=l.map (cY f)∧∀x,x∈s.l→f x.key=aC 2 (aA x).aq
 left:s.q=q.drop (p7 (l.take j))
 wr:s.w.map (·.1)=q.take (p7 (l.take j))
 sz:∀x,x∈s.w→x.2.size=128
 al:(pZ s.l).Perm (pZ (l.take j)++q.take (p7 (l.take j)))
theorem Qs{k:Nat}{n:N}{l:List C}{q:List Int}(h:PV k n l q):CJ k n l q 0 (eP (l.take 0) n q):=by
 obtain⟨f,hf,he⟩:=h.vi.en
 have hz:p7 (l.take 0)=0:=rfl
 refine⟨rfl,rfl,fun i c x h1 h2=>(by simp at h1),h.vi.dir,h.tv.dir,rfl,rfl,h.cl,⟨f,hf,he,fun x hx=>(by cases hx)⟩,by rw[hz];rfl,by rw[hz];rfl,fun x hx=>(by cases hx),by rw[hz];exact .refl _⟩
theorem Uk{l:List C}{j:Nat}{c:C}(h:l[j]? =some c):p7 (l.take (j+1))=p7 (l.take j)+dG (aA c):=by
 rw[List.take_add_one,h,Option.toList_some,Lu]
theorem TU{l:List C}{j:Nat}{c:C}(h:l[j]? =some c):pZ (l.take (j+1))=pZ (l.take j)++cf (aA c):=by
 rw[List.take_add_one,h,Option.toList_some,oP]
 simp[pZ]
theorem Fj{l:List C}{c:C}(h:c∈l):(cf (aA c)).Sublist (pZ l):=by
 obtain⟨A,B,rfl⟩:=List.append_of_mem h
 unfold pZ
 rw[List.flatMap_append,List.flatMap_cons]
 exact(List.sublist_append_left _ _).trans (List.sublist_append_right _ _)
theorem Qn{l:List C}{f:ByteArray→ByteArray}{c:C}{v:ByteArray}(hr:dm l)(hc:c∈l):pI c.key v (l.map (cY f))=l.map (cY (vj f c.key v)):=by
 obtain⟨A,B,rfl⟩:=List.append_of_mem hc
 unfold dm at hr
 rw[List.pairwise_append,List.pairwise_cons]at hr
 have h1:∀a,a∈A→cH a.key c.key=true:=fun a ha=>hr.2.2 a ha c List.mem_cons_self
 have h2:∀b,b∈B→cH c.key b.key=true:=hr.2.1.1
 have:=xQ (name:=c.key) (val:=v) (A:=A.map (cY f)) (B:=B.map (cY f)) (M:=[cY f c]) (map_lt h1) (yv h2) (fun m hm=>by rw[List.mem_singleton]at hm;subst hm;rfl)
 rw[List.map_append,List.map_cons]
 rw[show A.map (cY f)++cY f c::B.map (cY f)=A.map (cY f)++[cY f c]++B.map (cY f)by simp,this,List.map_append,List.map_cons,ld fun a ha=>bH (h1 a ha),ld (A:=B) fun b hb=>(bH (h2 b hb)).symm,xC (c:=c) (x:=c.key) rfl]
theorem NB{k:Nat}{n:N}{l:List C}{f:ByteArray→ByteArray}{P:ByteArray→ByteArray→Prop}{c:C}{v:ByteArray}(htb:TB k n)(htl:TL n)(hcl:kq P n)(hf:∀k,(f k).size=2)(he:di n=l.map (cY f))(hr:dm l)(hc:c∈l)(hk:gl c.key=true)(hv:v.size=2)(hp:¬P c.key (f c.key)):
 TB k (k7 c.key v n)∧TL (k7 c.key v n)∧kq P (k7 c.key v n)∧dG (k7 c.key v n)=dG n∧cf (k7 c.key v n)=cf n∧di (k7 c.key v n)=l.map (cY (vj f c.key v)):=by
 obtain⟨hne,hsz⟩:=dt hk
 obtain⟨⟨d,hg,hs,h2⟩,d1,hg1,hd1,ht1⟩:=htb
 have hdd:=oe (az hg) (az hg1)
 subst hdd
 have hx:cY f c∈di n:=by rw[he];exact List.mem_map.2 ⟨c,hc,rfl⟩
 obtain⟨i1,i2,i3,i4⟩:=I2 hsz (by omega:v.size≤16) hg hs h2 hcl hx rfl hp (by show(f c.key).size=_;rw[hf,hv])
 obtain⟨hr1,hen⟩:=kJ (val:=v) hne hsz (by omega) ⟨d,hg,hs,h2⟩
 obtain⟨e,hge,hse,h2e⟩:=hr1
 have hnd:=gB hsz (by omega:v.size≤400) (az hg)
 rw[←i1]at hnd
 have hde:=oe (az hge) hnd
 subst hde
 refine⟨⟨⟨_,hge,hse,h2e⟩,_,hge,hd1,by rw[i4];exact ht1⟩,xx htl hne hsz (by omega),nB (az hge) (fun _ _ h=>h.1) (Ec hsz (by omega) hg hcl),i2,i3,?_⟩
 rw[hen,he,Qn hr hc]
theorem FE{k:Nat}{n:N}{l:List C}{q:List Int}{j:Nat}{s:CS}{c:C}(h:PV k n l q)(hc:l[j]? =some c)(hs:CJ k n l q j s):oc (aA c) s.q∧(∃M R W,Ld k (aA c) s.q M R W)∧CJ k n l q (j+1) (G6 s c):=by
 have hcm:=List.mem_of_getElem? hc
 obtain⟨hce,htb,hok⟩:=h.vi.cell c hcm
 have htl:=h.tv.cell c hcm
 have hnd:=h.nd
 have hsub:(cf (aA c)).Sublist (gO (n,l)):=(Fj hcm).trans (List.sublist_append_right _ _)
 have hqs:s.q.Sublist q:=by rw[hs.left];exact List.drop_sublist _ _
 have hfr:=Uk hc
 have hle:=Lc l (j+1)
 have hfq:=h.fr
 have hfv:eJ (n,l)=dG n+p7 l:=rfl
 have hql:s.q.length=q.length-p7 (l.take j):=by rw[hs.left,List.length_drop]
 have hbt:BT k (aA c):=⟨htb,htl,(List.nodup_append.1 hnd).1.sublist hsub,fun p hp=>h.re p (List.mem_append_left _ (hsub.subset hp))⟩
 have hm:oc (aA c) s.q:=⟨(List.perm_append_comm.nodup_iff.1 hnd).sublist (hqs.append hsub),fun p hp=>by
  rcases List.mem_append.1 hp with hp|hp
  ·exact h.re p (List.mem_append_right _ (hqs.subset hp))
  ·exact h.re p (List.mem_append_left _ (hsub.subset hp)),by omega⟩
 obtain⟨M,R,W,hd⟩:=Ra hbt hm
 refine⟨hm,⟨M,R,W,hd⟩,?_⟩
 have ek:G6 s c=⟨s.l++[af c.key M],qf s.n c.key M.aq,R,s.w++W⟩:=by unfold G6;rw[hd.eq]
 rw[ek]
 obtain⟨f,hf,hen,hfx⟩:=hs.en
 obtain⟨d,hg,hsz,h2⟩:=hs.tb.1
 have hfind:=M0 hg h.vi.bQ hen hcm
 have hkey:∀x,x∈s.l→x.key≠c.key:=fun x hx e=>by
  have hxk:x.key∈(l.take j).map C.key:=by rw[←hs.keys];exact List.mem_map.2 ⟨x,hx,rfl⟩
  obtain⟨y,hy,e2⟩:=List.mem_map.1 hxk
  have hyc:=oU h.vi.bQ (List.mem_of_mem_take hy) hcm (e2.trans e)
  obtain⟨i,hi⟩:=List.mem_iff_getElem?.1 hy
  have hij:i<j:=by have:=(List.getElem?_eq_some_iff.1 hi).1;rw[List.length_take]at this;omega
  rw[List.getElem?_take,if_pos hij,hyc]at hi
  obtain⟨u1,e1⟩:=List.getElem?_eq_some_iff.1 hi
  obtain⟨u2,e3⟩:=List.getElem?_eq_some_iff.1 hc
  have:=(List.pairwise_iff_getElem.1 h.vi.bQ) i j u1 u2 hij
  rw[e1,e3,cI]at this;cases this
 have hdir:TB k (qf s.n c.key M.aq)∧TL (qf s.n c.key M.aq)∧kq (zA l) (qf s.n c.key M.aq)∧dG (qf s.n c.key M.aq)=dG s.n∧cf (qf s.n c.key M.aq)=cf s.n∧
  ∃f:ByteArray→ByteArray,(∀k,(f k).size=2)∧di (qf s.n c.key M.aq)=l.map (cY f)∧(∀x,x∈s.l→f x.key=aC 2 (aA x).aq)∧f c.key=aC 2 M.aq:=by
  unfold qf
  by_cases e:(cw c.key s.n).getD aJ=aC 2 M.aq
  ·rw[if_pos e]
   exact⟨hs.tb,hs.tl,hs.cl,rfl,rfl,f,hf,hen,hfx,hfind.symm.trans e⟩
  ·rw[if_neg e]
   have hno:¬zA l c.key (f c.key):=by
    rintro⟨c',h1,h2,h3,h4⟩
    have:=oU h.vi.bQ h1 hcm h2
    subst this
    obtain⟨d',hn'⟩:=sY htl
    have e2:=HQ hn' h3 (s.q,[])
    rw[hd.eq]at e2
    have:M=aA c':=congrArg Prod.fst e2
    rw[hfind,this]at e
    exact e h4
   obtain⟨p1,p2,p3,p4,p5,p6⟩:=NB (v:=aC 2 M.aq) hs.tb hs.tl hs.cl hf hen h.vi.bQ hcm hok (av _ _) hno
   exact⟨p1,p2,p3,p4,p5,_,qN hf (av _ _),p6,fun x hx=>by rw[Fw (hkey x hx)];exact hfx x hx,FA⟩
 obtain⟨p1,p2,p3,p4,p5,g,g1,g2,g3,g4⟩:=hdir
 refine⟨by rw[List.length_append,hs.len];rfl,by rw[List.take_add_one,hc,Option.toList_some,List.map_append,List.map_append,hs.keys];rfl,fun i a x h1 h2=>?_,p1,p2,p4.trans hs.fr,p5.trans hs.XJ,p3,⟨g,g1,g2,fun x hx=>?_⟩,?_,?_,fun x hx=>?_,?_⟩
 ·by_cases hi:i<j
  ·rw[List.getElem?_append_left (by rw[hs.len];exact hi)]at h2
   refine hs.cell i a x ?_ h2
   rw[List.getElem?_take,if_pos (by omega)]at h1
   rw[List.getElem?_take,if_pos hi];exact h1
  ·have hi2:i=j:=by
    have:=(List.getElem?_eq_some_iff.1 h1).1
    rw[List.length_take]at this;omega
   subst hi2
   rw[List.getElem?_append_right (by rw[hs.len];exact Nat.le_refl _),hs.len,Nat.sub_self]at h2
   cases h2
   rw[List.getElem?_take,if_pos (by omega),hc]at h1
   cases h1
   exact⟨rfl,hd.bt.tb,hd.bt.tl,hd.fr,hd.en⟩
 ·rcases List.mem_append.1 hx with hx|hx
  ·exact g3 x hx
  ·rw[List.mem_singleton]at hx;subst hx;exact g4
 ·rw[hd.left,hs.left,List.drop_drop,hfr]
 ·rw[List.map_append,hs.wr,hd.pg,hs.left,hfr,List.take_add]
 ·exact(List.mem_append.1 hx).elim (hs.sz x) (hd.sz x)
 ·rw[oP,TU hc,hfr,List.take_add]
  have e1:pZ [af c.key M]=cf M:=by simp[pZ,wi]
  rw[e1]
  have:=hd.al
  rw[hs.left]at this
  exact(hs.al.append this).trans (CV _ _ _ _)
theorem xF{k:Nat}{n:N}{l:List C}{q:List Int}(h:PV k n l q):∀j,j≤l.length→CJ k n l q j (eP (l.take j) n q)
 |0,_=>Qs h
 |j+1,hj=>by
  have hc:l[j]? =some l[j]:=List.getElem?_eq_getElem (by omega)
  rw[wB hc]
  exact(FE h hc (xF h j (by omega))).2.2
theorem Ke{d:Nat}{n:N}(hn:Nd d n)(h:dG n≠0)(q:LS):∃A b,(bq n q).2.2=A++[((bq n q).1.aq,b)]:=by
 have h0:¬(n.aq≠0∨(n.leaf=true∧n.l=[])):=fun e=>h (by
  rw[fv hn]
  rcases e with e|e
  ·rw[if_pos e]
  ·rw[if_pos e];split <;>rfl)
 rw[dJ,if_neg h0]
 exact⟨_,_,rfl⟩
theorem M1{k:Nat}{n:N}{l:List C}(hv:VI k n l)(hcl:kq (zA l) n)(h:dG n=0):p7 l=0:=by
 obtain⟨hr,d,hg,hd,ht⟩:=hv.dir
 obtain⟨f,hf,hen⟩:=hv.en
 have hz:∀c,c∈l→dG (aA c)=0:=fun c hc=>by
  have he:cY f c∈di n:=by rw[hen];exact List.mem_map.2 ⟨c,hc,rfl⟩
  rw[fv (az hg)]at h
  have hp:n.aq≠0:=fun e=>by
   rw[if_neg (fun z=>z e)]at h
   by_cases hq:n.leaf=true∧n.l=[]
   ·rw[cM hq.1,hq.2]at he;cases he
   ·rw[if_neg hq]at h;omega
  obtain⟨c',h1,h2,h3,_⟩:=hcl.one hp _ he
  rw[oU hv.bQ h1 hc h2]at h3
  exact h3
 unfold p7
 clear hv hcl hen
 induction l with
 |nil=>rfl
 |cons c l ih=>
  rw[List.map_cons,List.sum_cons,hz c List.mem_cons_self,ih fun x hx=>hz x (List.mem_cons_of_mem _ hx)]
structure PA(k:Nat)(n:N)(l:List C)(q:List Int)(M:N)(X:List C)(R:List Int)(W:List (Int×ByteArray)):Prop where
 vi:VI k M X
 tv:TV (M,X)
 fr:eJ (M,X)=0
 al:(gO (M,X)).Perm (gO (n,l)++q.take (eJ (n,l)))
 cl:kq (zA X) M
 left:R=q.drop (eJ (n,l))
 wr:W.map (·.1)=q.take (eJ (n,l))
 sz:∀x,x∈W→x.2.size=128
 keys:X.map C.key=l.map C.key
 aaW:∀(i:Nat) c x,l[i]? =some c→X[i]? =some x→tT (aA x)=tT (aA c)
 last:eJ (n,l)≠0→∃A b,W=A++[(M.aq,b)]
theorem JR{k:Nat}{n:N}{l:List C}{q:List Int}(h:PV k n l q):oc (eP l n q).n (eP l n q).q∧BT k (eP l n q).n∧∃M R W,Ld k (eP l n q).n (eP l n q).q M R W∧PA k n l q M (eP l n q).l R ((eP l n q).w++W):=by
 have hs:=xF h l.length (Nat.le_refl _)
 rw[List.take_length]at hs
 generalize eP l n q=s at*
 have hnd:=h.nd
 have hql:s.q.length=q.length-p7 l:=by rw[hs.left,List.take_length,List.length_drop]
 have hfq:=h.fr
 have hfv:eJ (n,l)=dG n+p7 l:=rfl
 have hqs:s.q.Sublist q:=by rw[hs.left];exact List.drop_sublist _ _
 have hsub:(cf s.n).Sublist (gO (n,l)):=by rw[hs.XJ];exact List.sublist_append_left _ _
 have hbt:BT k s.n:=⟨hs.tb,hs.tl,(List.nodup_append.1 hnd).1.sublist hsub,fun p hp=>h.re p (List.mem_append_left _ (hsub.subset hp))⟩
 have hfs:=hs.fr
 have hm:oc s.n s.q:=⟨(List.perm_append_comm.nodup_iff.1 hnd).sublist (hqs.append hsub),fun p hp=>by
  rcases List.mem_append.1 hp with hp|hp
  ·exact h.re p (List.mem_append_right _ (hqs.subset hp))
  ·exact h.re p (List.mem_append_left _ (hsub.subset hp)),by omega⟩
 obtain⟨M,R,W,hd⟩:=Ra hbt hm
 refine⟨hm,hbt,M,R,W,hd,?_⟩
 obtain⟨f,hf,hen,hfx⟩:=hs.en
 have hkeys:s.l.map C.key=l.map C.key:=by have:=hs.keys;rwa [List.take_length]at this
 have hmap:l.map (cY f)=s.l.map (cY f):=by
  have e:∀l:List C,l.map (cY f)=(l.map C.key).map fun k=>C.mk k (f k) [] []:=fun l=>by rw[List.map_map];rfl
  rw[e,e,hkeys]
 obtain⟨d,hg,hsz,h2⟩:=hs.tb.1
 have hnm:=az hg
 have heM:di M=s.l.map (cY f):=by
  have:=vC (s.q,[]) hnm fun x hx=>by
   rw[hen]at hx
   obtain⟨c,_,rfl⟩:=List.mem_map.1 hx
   have:=hf c.key
   show(f c.key).size≤16
   omega
  rw[hd.eq]at this
  rw[this,hen,hmap]
 have hcell:∀x,x∈s.l→∃c,c∈l∧x=af c.key (aA x)∧TB k (aA x)∧TL (aA x)∧dG (aA x)=0:=fun x hx=>by
  obtain⟨i,hi⟩:=List.mem_iff_getElem?.1 hx
  have hil:i<l.length:=by have:=(List.getElem?_eq_some_iff.1 hi).1;have:=hs.len;omega
  have hc:l[i]? =some l[i]:=List.getElem?_eq_getElem hil
  obtain⟨a1,a2,a3,a4,a5⟩:=hs.cell i _ x (by rw[List.take_length];exact hc) hi
  exact⟨_,List.mem_of_getElem? hc,a1,a2,a3,a4⟩
 have hrise:dm s.l:=by
  have h1:(l.map C.key).Pairwise fun a b=>cH a b=true:=List.pairwise_map.2 h.vi.bQ
  rw[←hkeys]at h1
  exact List.pairwise_map.1 h1
 have hfl:p7 s.l=0:=by
  unfold p7
  have:∀X:List C,(∀x,x∈X→dG (aA x)=0)→(X.map fun c=>dG (aA c)).sum=0:=fun X=>by
   induction X with
   |nil=>intro _;rfl
   |cons c X ih=>intro hX;rw[List.map_cons,List.sum_cons,hX c List.mem_cons_self,ih fun x hx=>hX x (List.mem_cons_of_mem _ hx)]
  exact this _ fun x hx=>by obtain⟨_,_,_,_,_,e⟩:=hcell x hx;exact e
 obtain⟨dM,hnM⟩:=sY hd.bt.tl
 refine⟨⟨hd.bt.tb,hrise,fun x hx=>?_,by rw[hs.len];exact h.vi.len,f,hf,heM⟩,⟨hd.bt.tl,fun x hx=>by obtain⟨_,_,_,_,e,_⟩:=hcell x hx;exact e⟩,?_,?_,?_,?_,?_,fun x hx=>?_,hkeys,fun i c x h1 h2=>?_,fun hf0=>?_⟩
 ·obtain⟨c,hc,e1,e2,e3,e4⟩:=hcell x hx
  have e5:x.key=c.key:=by rw[e1];rfl
  exact⟨by rw[e5];exact e1,e2,by rw[e5];exact(h.vi.cell c hc).2.2⟩
 ·show dG M+p7 s.l=0
  rw[hd.fr,hfl]
 ·have h1:=hd.al
  have h2:=hs.al
  rw[List.take_length]at h2
  rw[hs.XJ,hs.fr,hs.left,List.take_length]at h1
  show(cf M++pZ s.l).Perm ((cf n++pZ l)++q.take (dG n+p7 l))
  rw[Nat.add_comm,List.take_add]
  exact(h1.append h2).trans ((CV _ _ _ _).trans (List.Perm.append_left _ List.perm_append_comm))
 ·refine Df hnM fun e he=>?_
  rw[heM]at he
  obtain⟨x,hx,rfl⟩:=List.mem_map.1 he
  obtain⟨_,_,_,_,_,e⟩:=hcell x hx
  exact⟨x,hx,rfl,e,hfx x hx⟩
 ·rw[hd.left,hs.left,List.take_length,List.drop_drop,hfs]
  show _=q.drop (dG n+p7 l)
  rw[Nat.add_comm]
 ·rw[List.map_append,hs.wr,hd.pg,hs.left,List.take_length,hfs]
  show _=q.take (dG n+p7 l)
  rw[Nat.add_comm,List.take_add]
 ·exact(List.mem_append.1 hx).elim (hs.sz x) (hd.sz x)
 ·exact(hs.cell i c x (by rw[List.take_length];exact h1) h2).2.2.2.2
 ·have hn0:dG s.n≠0:=fun e=>hf0 (by
   rw[hfs]at e
   show dG n+p7 l=0
   rw[e,M1 h.vi h.cl e])
  obtain⟨A,b,e⟩:=Ke hnm hn0 (s.q,[])
  rw[hd.eq]at e
  have e:W=A++[(M.aq,b)]:=e
  exact⟨s.w++A,b,by rw[e,List.append_assoc]⟩
theorem QB{l:List Wt}{k:Nat}{a:Wt}(h:l[k]? =some a):a.ak.length≤nW l:=by
 have h1:=Ep h
 have h2:=Q2 l (k+1)
 omega
def Small(p:Pl):Prop:=p.free.length+nW p.wait≤200∧p.wait.length≤40∧p.high<1048576∧ -4096<p.high
theorem Sb{a b:Pl}(h1:a.high=b.high)(h2:a.free=b.free)(h3:a.wait=b.wait):a=b:=by
 cases a;cases b;simp at *;exact⟨h1,h2,h3⟩
def AI(h:Int)(w:Wt):Prop:=w.ak=[]∨¬Row w.ak h
theorem Rx(w0:W0)(w:Wt)(S:St)(b:Nat)(h:Int)(ds:List DV)(hb:lk S.box b=some (dI h::ds))(h0:w.ak.length≤1048576):aa Tryz.prog w0 102 [dW w,.v (.pointer (some ⟨b,0,none⟩))] S (fun d S'=>d=dB (pB (AI h w))∧S'=S):=by
 refine aZ [] mx Tryz.func102 rfl rfl (by kernel_rfl) ?_;simp only[Tryz.ntmps102,List.length_cons,List.length_nil,Nat.reduceAdd,Nat.reduceSub,List.reduceReplicate,List.cons_append,List.nil_append];simp(maxDischargeDepth:=12) (maxSteps:=1000000) -implicitDefEqProofs only[Tryz.ntmps102,go_sem,Nat.reduceAdd,Nat.reduceSub,Nat.reduceMul,Nat.reduceLeDiff,Nat.reduceEqDiff,Nat.reduceGT,Nat.reduceBEq,reduceCtorEq,↓reduceIte,Int.reduceToNat,Int.reduceLE,Int.reduceLT,Int.reduceNe,Int.reduceEq,hb]
 intro b1
 refine⟨fun h=> .inl (List.eq_nil_of_length_eq_zero (by omega)),fun hne=>?_⟩
 refine ao (row w0 w.ak h _ (by omega)) ?_
 simp(maxDischargeDepth:=12) (maxSteps:=1000000) -implicitDefEqProofs only[go_sem,Nat.reduceAdd,Nat.reduceSub,Nat.reduceMul,Nat.reduceLeDiff,Nat.reduceEqDiff,Nat.reduceGT,Nat.reduceBEq,reduceCtorEq,↓reduceIte,Int.reduceToNat,Int.reduceLE,Int.reduceLT,Int.reduceNe,Int.reduceEq]
 exact⟨.inr,fun hw=>hw.resolve_left fun e=>hne (by rw[e];rfl)⟩
theorem Ud(w0:W0)(l:List Wt)(S:St)(b:Nat)(h:Int)(ds:List DV)(hb:lk S.box b=some (dI h::ds))(h0:l.length≤1048576)(h1:nW l≤1048576):
 aa Tryz.prog w0 163 [.sl 2 false (l.map dW),.v (.func (.func 102) #[] #[.pointer (some ⟨b,0,none⟩)])] S (fun d S'=>(∃z:Int,d=dI z∧(0≤z↔∃w,w∈l∧AI h w))∧S'=S):=by
 refine mf [] mx Tryz.func163 rfl rfl (by kernel_rfl) ?_;simp(maxDischargeDepth:=12) (maxSteps:=1000000) -implicitDefEqProofs only[Tryz.ntmps163,go_sem,Nat.reduceAdd,Nat.reduceSub,Nat.reduceMul,Nat.reduceLeDiff,Nat.reduceEqDiff,Nat.reduceGT,Nat.reduceBEq,reduceCtorEq,↓reduceIte,Int.reduceToNat,Int.reduceLE,Int.reduceLT,Int.reduceNe,Int.reduceEq]
 refine aF [] l.length [0,1,7,8] (fun k=>[(8,dI k)]) (fun _=>S) (fun k=>∀(i:Nat) w,i<k→l[i]? =some w→¬AI h w) mx (by kernel_rfl) ?_ ?_
 ·simp(maxDischargeDepth:=12) (maxSteps:=1000000) -implicitDefEqProofs only[go_sem,Nat.reduceAdd,Nat.reduceSub,Nat.reduceMul,Nat.reduceLeDiff,Nat.reduceEqDiff,Nat.reduceGT,Nat.reduceBEq,reduceCtorEq,↓reduceIte,Int.reduceToNat,Int.reduceLE,Int.reduceLT,Int.reduceNe,Int.reduceEq]
  intro i w hi;omega
 ·intro k hk hup
  simp(maxDischargeDepth:=12) (maxSteps:=1000000) -implicitDefEqProofs only[go_sem,Nat.reduceAdd,Nat.reduceSub,Nat.reduceMul,Nat.reduceLeDiff,Nat.reduceEqDiff,Nat.reduceGT,Nat.reduceBEq,reduceCtorEq,↓reduceIte,Int.reduceToNat,Int.reduceLE,Int.reduceLT,Int.reduceNe,Int.reduceEq]
  refine⟨fun hlt=>⟨hlt,fun a ha=>?_⟩,fun hge=>⟨-1,rfl,fun h=>by omega,fun⟨w,hw,hr⟩=>?_⟩⟩
  ·have:=QB ha
   refine ao (Rx w0 a S b h ds hb (by omega)) ?_
   simp(maxDischargeDepth:=12) (maxSteps:=1000000) -implicitDefEqProofs only[go_sem,Nat.reduceAdd,Nat.reduceSub,Nat.reduceMul,Nat.reduceLeDiff,Nat.reduceEqDiff,Nat.reduceGT,Nat.reduceBEq,reduceCtorEq,↓reduceIte,Int.reduceToNat,Int.reduceLE,Int.reduceLT,Int.reduceNe,Int.reduceEq]
   refine⟨fun hw=>⟨k,rfl,fun _=>⟨a,List.mem_of_getElem? ha,hw⟩,fun _=>by omega⟩,fun hw=>⟨hlt,fun i w hi hc=>?_,aX (by omega) (by omega)⟩⟩
   by_cases e:i=k
   ·subst e;cases eE ha hc;exact hw
   ·exact hup i w (by omega) hc
  ·obtain⟨i,hi⟩:=List.getElem?_of_mem hw
   exact absurd hr (hup i w (by have:=(List.getElem?_eq_some_iff.1 hi).1;omega) hi)
theorem G3(w0:W0)(l:List Wt)(S:St)(b:Nat)(h:Int)(ds:List DV)(hb:lk S.box b=some (dI h::ds))(h0:l.length≤1048576)(h1:nW l≤1048576):
 aa Tryz.prog w0 104 [.sl 2 false (l.map dW),.v (.func (.func 102) #[] #[.pointer (some ⟨b,0,none⟩)])] S (fun d S'=>d=dB (pB (∃w,w∈l∧AI h w))∧S'=S):=by
 refine aZ [] mx Tryz.func104 rfl rfl (by kernel_rfl) ?_;simp(maxDischargeDepth:=12) (maxSteps:=1000000) -implicitDefEqProofs only[Tryz.ntmps104,go_sem,Nat.reduceAdd,Nat.reduceSub,Nat.reduceMul,Nat.reduceLeDiff,Nat.reduceEqDiff,Nat.reduceGT,Nat.reduceBEq,reduceCtorEq,↓reduceIte,Int.reduceToNat,Int.reduceLE,Int.reduceLT,Int.reduceNe,Int.reduceEq]
 refine bA (Ud w0 l S b h ds hb h0 h1) ?_
 rintro d S' ⟨⟨z,rfl,hz⟩,rfl⟩
 simp(maxDischargeDepth:=12) (maxSteps:=1000000) -implicitDefEqProofs only[go_sem,Nat.reduceAdd,Nat.reduceSub,Nat.reduceMul,Nat.reduceLeDiff,Nat.reduceEqDiff,Nat.reduceGT,Nat.reduceBEq,reduceCtorEq,↓reduceIte,Int.reduceToNat,Int.reduceLE,Int.reduceLT,Int.reduceNe,Int.reduceEq]
 exact hz
def F7(p:Pl)(q:Int):Prop:=(∀(i:Nat) a c,0<i→p.wait[i]? =some a→p.wait[i-1]? =some c→c.bE<a.bE)∧(∀w,w∈p.wait→¬AI p.high w)∧2≤p.high∧p.high≤q∧Row p.free p.high∧Row (listed p) p.high
theorem check(w0:W0)(p:Pl)(q:Int)(S:St)(h0:p.wait.length≤1048576)(h1:p.free.length+nW p.wait≤1048576):aa Tryz.prog w0 52 [dP p,dI q] S (fun d S'=>d=dB (pB (F7 p q))∧S'=S):=by
 refine aZ [] mx Tryz.func52 rfl rfl (by kernel_rfl) ?_;simp(maxDischargeDepth:=12) (maxSteps:=1000000) -implicitDefEqProofs only[Tryz.ntmps52,go_sem,Nat.reduceAdd,Nat.reduceSub,Nat.reduceMul,Nat.reduceLeDiff,Nat.reduceEqDiff,Nat.reduceGT,Nat.reduceBEq,reduceCtorEq,↓reduceIte,Int.reduceToNat,Int.reduceLE,Int.reduceLT,Int.reduceNe,Int.reduceEq]
 intro b
 refine aF [] p.wait.length [1,2,9,10] (fun k=>[(10,dI k)]) (fun _=>⟨(b.n,[dI p.high,dL p.free,.sl 2 false (p.wait.map dW)])::S.box,S.acc⟩) (fun k=>∀(i:Nat) a c,i<k→0<i→p.wait[i]? =some a→p.wait[i-1]? =some c→c.bE<a.bE) mx (by kernel_rfl) ?_ ?_
 ·simp(maxDischargeDepth:=12) (maxSteps:=1000000) -implicitDefEqProofs only[go_sem,Nat.reduceAdd,Nat.reduceSub,Nat.reduceMul,Nat.reduceLeDiff,Nat.reduceEqDiff,Nat.reduceGT,Nat.reduceBEq,reduceCtorEq,↓reduceIte,Int.reduceToNat,Int.reduceLE,Int.reduceLT,Int.reduceNe,Int.reduceEq]
  intro i a c hi;omega
 ·intro k hk hup
  simp(maxDischargeDepth:=12) (maxSteps:=1000000) -implicitDefEqProofs only[go_sem,Nat.reduceAdd,Nat.reduceSub,Nat.reduceMul,Nat.reduceLeDiff,Nat.reduceEqDiff,Nat.reduceGT,Nat.reduceBEq,reduceCtorEq,↓reduceIte,Int.reduceToNat,Int.reduceLE,Int.reduceLT,Int.reduceNe,Int.reduceEq]
  refine⟨fun hlt=>⟨fun hp=>⟨hlt,fun a ha=>?_⟩,fun hp=>⟨hlt,fun i a c hi h0=>by omega,aX (by omega) (by omega)⟩⟩,fun hge=>?_⟩
  ·rw[aX (by omega) (by omega),aX (by omega) (by omega)]
   have e:((k:Int)-1).toNat=k-1:=by omega
   rw[e]
   refine⟨by omega,by omega,fun c hc=>⟨fun hle hk=>?_,fun hle=>⟨hlt,fun i x y hi h0 hx hy=>?_,by omega⟩⟩⟩
   ·have:=hk.1 k a c (by omega) ha hc;omega
   ·by_cases e:i=k
    ·subst e;cases eE ha hx;cases eE hc hy;omega
    ·exact hup i x y (by omega) h0 hx hy
  ·have hup':∀(i:Nat) a c,0<i→p.wait[i]? =some a→p.wait[i-1]? =some c→c.bE<a.bE:=fun i a c h0 ha hc=>hup i a c (by have:=(List.getElem?_eq_some_iff.1 ha).1;omega) h0 ha hc
   refine aS (G3 w0 p.wait _ b.n p.high _ (nF _ _ _) h0 (by omega)) ?_
   simp(maxDischargeDepth:=12) (maxSteps:=1000000) -implicitDefEqProofs only[go_sem,Nat.reduceAdd,Nat.reduceSub,Nat.reduceMul,Nat.reduceLeDiff,Nat.reduceEqDiff,Nat.reduceGT,Nat.reduceBEq,reduceCtorEq,↓reduceIte,Int.reduceToNat,Int.reduceLE,Int.reduceLT,Int.reduceNe,Int.reduceEq]
   refine⟨fun hw=>⟨fun h2=>⟨fun hq=>?_,fun hq hk=>hq hk.2.2.2.1⟩,fun h2 hk=>h2 hk.2.2.1⟩,fun hw hk=>hw fun⟨w,hm,hr⟩=>hk.2.1 w hm hr⟩
   refine aS (row w0 p.free p.high _ (by omega)) ?_
   simp(maxDischargeDepth:=12) (maxSteps:=1000000) -implicitDefEqProofs only[go_sem,Nat.reduceAdd,Nat.reduceSub,Nat.reduceMul,Nat.reduceLeDiff,Nat.reduceEqDiff,Nat.reduceGT,Nat.reduceBEq,reduceCtorEq,↓reduceIte,Int.reduceToNat,Int.reduceLE,Int.reduceLT,Int.reduceNe,Int.reduceEq]
   refine⟨fun hf=>?_,fun hf hk=>hf hk.2.2.2.2.1⟩
   refine aS (yk w0 p _ h0 h1) ?_
   simp(maxDischargeDepth:=12) (maxSteps:=1000000) -implicitDefEqProofs only[go_sem,Nat.reduceAdd,Nat.reduceSub,Nat.reduceMul,Nat.reduceLeDiff,Nat.reduceEqDiff,Nat.reduceGT,Nat.reduceBEq,reduceCtorEq,↓reduceIte,Int.reduceToNat,Int.reduceLE,Int.reduceLT,Int.reduceNe,Int.reduceEq]
   refine aS (row w0 (listed p) p.high _ (by unfold listed;rw[bc,pF];omega)) ?_
   simp(maxDischargeDepth:=12) (maxSteps:=1000000) -implicitDefEqProofs only[go_sem,Nat.reduceAdd,Nat.reduceSub,Nat.reduceMul,Nat.reduceLeDiff,Nat.reduceEqDiff,Nat.reduceGT,Nat.reduceBEq,reduceCtorEq,↓reduceIte,Int.reduceToNat,Int.reduceLE,Int.reduceLT,Int.reduceNe,Int.reduceEq]
   exact⟨fun h=>⟨hup',fun w hm hr=>hw ⟨w,hm,hr⟩,h2,hq,hf,h⟩,fun h=>h.2.2.2.2.2⟩
def gI(o:Int)(h:Bool)(l:List Wt):List Wt:=l.filter fun w=>h&&decide (o<w.bE)
def iG(o:Int)(h:Bool)(l:List Wt):List Wt:=l.filter fun w=>!(h&&decide (o<w.bE))
def release(p:Pl)(o:Int)(h:Bool):Pl:=⟨p.high,dh (flat (p.free::nP (iG o h p.wait))),gI o h p.wait⟩
theorem uG{l:List Wt}{k:Nat}{a:Wt}(o:Int)(h:Bool)(ha:l[k]? =some a):gI o h (l.take (k+1))=gI o h (l.take k)++if h&&decide (o<a.bE)then [a]else []:=by
 rw[wK ha];unfold gI;rw[List.filter_append];simp[List.filter_cons]
theorem zB{l:List Wt}{k:Nat}{a:Wt}(o:Int)(h:Bool)(ha:l[k]? =some a):iG o h (l.take (k+1))=iG o h (l.take k)++if h&&decide (o<a.bE)then []else [a]:=by
 rw[wK ha];unfold iG;rw[List.filter_append]
 congr 1
 simp only[List.filter_cons,List.filter_nil]
 cases hb:(h&&decide (o<a.bE)) <;>rfl
theorem Ik(o:Int)(h:Bool)(l:List Wt):(gI o h l).length≤l.length:=List.length_filter_le _ _
theorem Fs(o:Int)(h:Bool)(l:List Wt):(iG o h l).length≤l.length:=List.length_filter_le _ _
theorem GO(f:Wt→Bool)(l:List Wt):nW (l.filter f)≤nW l:=by
 induction l with
 |nil=>simp[nW]
 |cons a l ih=>
  rw[List.filter_cons]
  split
  ·simp only[nW,List.map_cons,List.sum_cons]at *;omega
  ·simp only[nW,List.map_cons,List.sum_cons]at *;omega
@[go_sem] theorem B8 (l:List Wt):(nP l).length=l.length:=List.length_map _
theorem sa(l m:List Wt):nP (l++m)=nP l++nP m:=List.map_append
theorem MG{l:List Wt}{k:Nat}{a:Wt}{o:Int}{h:Bool}(ha:l[k]? =some a)(hh:h=true)(ht:a.bE>o):gI o h (l.take (k+1))=gI o h (l.take k)++[a]∧iG o h (l.take (k+1))=iG o h (l.take k):=by
 rw[uG o h ha,zB o h ha,hh];simp[show o<a.bE from ht]
theorem EC{l:List Wt}{k:Nat}{a:Wt}{o:Int}{h:Bool}(ha:l[k]? =some a)(ht:h=false∨¬a.bE>o):gI o h (l.take (k+1))=gI o h (l.take k)∧iG o h (l.take (k+1))=iG o h (l.take k)++[a]:=by
 have hb:(h&&decide (o<a.bE))=false:=by
  rcases ht with rfl|ht
  ·rfl
  ·rw[decide_eq_false (by omega),Bool.and_false]
 rw[uG o h ha,zB o h ha,hb];simp
theorem y9(w0:W0)(p:Pl)(o:Int)(h:Bool)(S:St)(h0:p.wait.length≤1048576)(h1:p.free.length+nW p.wait≤1048576):aa Tryz.prog w0 32 [dP p,dU o,dB h] S (fun d S'=>d=dP (release p o h)∧S'=S):=by
 refine aZ [10] mx Tryz.func32 rfl rfl (by kernel_rfl) ?_;simp(maxDischargeDepth:=12) (maxSteps:=1000000) -implicitDefEqProofs only[Tryz.ntmps32,go_sem,Nat.reduceAdd,Nat.reduceSub,Nat.reduceMul,Nat.reduceLeDiff,Nat.reduceEqDiff,Nat.reduceGT,Nat.reduceBEq,reduceCtorEq,↓reduceIte,Int.reduceToNat,Int.reduceLE,Int.reduceLT,Int.reduceNe,Int.reduceEq]
 intro b b1
 refine nV 8 2 rfl (by omega) fun l2=>JI 7 rfl (by omega) fun l1=>?_
 (refine @ab _ ?_;refine au ?_)
 refine aF [10] p.wait.length [1,2,3,6,7,8,15,16,17] (fun k=>[(7,.acc l1.n ((iG o h (p.wait.take k)).length+1)),(8,.acc l2.n (gI o h (p.wait.take k)).length),(17,dI k)]) (fun k=>⟨(b1.n,[dI 0,.sl 0 true [],.sl 0 true []])::(b.n,[dI p.high,dL p.free,.sl 2 false (p.wait.map dW)])::S.box,(l1.n,.tl 1 ((p.free::nP (iG o h (p.wait.take k))).map dL))::(l2.n,.arr 2 ((gI o h (p.wait.take k)).map dW))::S.acc⟩) (fun k=>True) mx (by kernel_rfl) ?_ ?_
 ·(refine @ab _ ?_;refine au ?_)
  simp[iG,gI,nP,uI,sj]
 ·intro k hk _
  (refine @ab _ ?_;refine au ?_)
  have g1:=Ik o h (p.wait.take k)
  have g2:=Fs o h (p.wait.take k)
  rw[List.length_take]at g1 g2
  refine⟨fun hlt=>⟨hlt,fun a ha b2=>⟨fun hh=>⟨fun ht=>?_,fun ht=>?_⟩,fun hh=>?_⟩⟩,fun hge=>?_⟩
  ·obtain⟨e1,e2⟩:=MG ha hh ht
   rw[e1,e2,List.length_append,List.map_append]
   exact⟨by omega,by unfold maxLen;omega,hlt,⟨.refl _,.refl _,aX (by omega) (by omega)⟩,.bu (.refl _)⟩
  ·obtain⟨e1,e2⟩:=EC ha (.inr ht)
   rw[e1,e2,List.length_append,sa,List.map_append]
   exact⟨by omega,by unfold maxLen;omega,hlt,⟨.refl _,.refl _,aX (by omega) (by omega)⟩,.bu (.refl _)⟩
  ·obtain⟨e1,e2⟩:=EC ha (.inl hh)
   rw[e1,e2,List.length_append,sa,List.map_append]
   exact⟨by omega,by unfold maxLen;omega,hlt,⟨.refl _,.refl _,aX (by omega) (by omega)⟩,.bu (.refl _)⟩
  ·rw[List.take_of_length_le (by omega)]
   refine lE [] [7,8] mx (by kernel_rfl) ?_
   (refine @ab _ ?_;refine au ?_)
   refine aS (kA w0 (p.free::nP (iG o h p.wait)) _ ?_ ?_) ?_
   ·rw[List.length_cons,B8];have:=Fs o h p.wait;omega
   ·rw[pF];have:=GO (fun w=>!(h&&decide (o<w.bE))) p.wait;unfold iG;omega
   (refine @ab _ ?_;refine au ?_)
   exact .refl _
theorem Sz(w0:W0)(l:List Wt)(S:St)(h0:l.length≤1048576):aa Tryz.prog w0 185 [.sl 2 false (l.map dW)] S fun d S'=>∃b:FN S.acc,d= .acc b.n (l.map dW).length∧S'=⟨S.box,(b.n,.arr 2 (l.map dW))::S.acc⟩:=by
 refine Ko 2 (by omega) ?_
 refine mf [] mx Tryz.func185 rfl rfl (by kernel_rfl) ?_;simp(maxDischargeDepth:=12) (maxSteps:=1000000) -implicitDefEqProofs only[Tryz.ntmps185,go_sem,Nat.reduceAdd,Nat.reduceSub,Nat.reduceMul,Nat.reduceLeDiff,Nat.reduceEqDiff,Nat.reduceGT,Nat.reduceBEq,reduceCtorEq,↓reduceIte,Int.reduceToNat,Int.reduceLE,Int.reduceLT,Int.reduceNe,Int.reduceEq]
 intro b hb
 refine⟨fun h1=> .inl ⟨Classical.byContradiction fun hn=>?_,0,rfl⟩,fun h1=>⟨by omega,by unfold maxLen;omega,fun c=> .inr ⟨c,rfl,rfl⟩⟩⟩
 rw[hb hn]at h1;cases h1
def mj(p:Pl)(t:Int)(l:List Int):Pl:=if l=[]then p else match p.wait[p.wait.length-1]? with
 |some w=>if w.bE=t then⟨p.high,p.free,p.wait.set (p.wait.length-1) ⟨t,dh (w.ak++l)⟩⟩else⟨p.high,p.free,p.wait++[⟨t,dh l⟩]⟩
 |none=>⟨p.high,p.free,p.wait++[⟨t,dh l⟩]⟩
theorem Hf{p:Pl}{t:Int}{l:List Int}{w:Wt}(hl:¬l=[])(h:p.wait[p.wait.length-1]? =some w)(ht:w.bE=t):mj p t l=⟨p.high,p.free,p.wait.set (p.wait.length-1) ⟨t,dh (w.ak++l)⟩⟩:=by
 unfold mj;rw[if_neg hl,h];simp only[if_pos ht]
theorem mC{p:Pl}{t:Int}{l:List Int}(hl:¬l=[])(h:∀w,p.wait[p.wait.length-1]? =some w→¬w.bE=t):mj p t l=⟨p.high,p.free,p.wait++[⟨t,dh l⟩]⟩:=by
 unfold mj;rw[if_neg hl]
 cases hw:p.wait[p.wait.length-1]? with
 |none=>rfl
 |some w=>simp only[if_neg (h w hw)]
theorem ln(l:List Int):flat [l]=l:=by simp[flat]
theorem A3(l m:List Int):flat [l,m]=l++m:=by simp[flat]
theorem VU(w0:W0)(p:Pl)(t:Int)(l:List Int)(S:St)(h0:p.wait.length≤1048576)(h1:nW p.wait+l.length≤1048576):aa Tryz.prog w0 132 [dP p,dU t,dL l] S (fun d S'=>d=dP (mj p t l)∧S'=S):=by
 refine aZ [] mx Tryz.func132 rfl rfl (by kernel_rfl) ?_;simp(maxDischargeDepth:=12) (maxSteps:=1000000) -implicitDefEqProofs only[Tryz.ntmps132,go_sem,Nat.reduceAdd,Nat.reduceSub,Nat.reduceMul,Nat.reduceLeDiff,Nat.reduceEqDiff,Nat.reduceGT,Nat.reduceBEq,reduceCtorEq,↓reduceIte,Int.reduceToNat,Int.reduceLE,Int.reduceLT,Int.reduceNe,Int.reduceEq]
 intro b b1
 refine⟨fun he=>?_,fun hne=>?_⟩
 ·rw[show mj p t l=p from if_pos (List.eq_nil_of_length_eq_zero (by omega))];exact .refl _
 have hl:¬l=[]:=fun e=>hne (by rw[e];rfl)
 refine bA (Sz w0 p.wait _ h0) ?_
 rintro d S' ⟨c,rfl,rfl⟩
 (refine @ab _ ?_;refine au ?_)
 have hw:IntKind.i64.wrap (↑p.wait.length-1)= ↑p.wait.length-1:=aX (by omega) (by omega)
 have e:((p.wait.length:Int)-1).toNat=p.wait.length-1:=by omega
 rw[hw,e]
 refine⟨fun hp=>⟨hp,by omega,by omega,fun a ha=>⟨fun ht=>⟨hp,by omega,by omega,fun a3 ha3=>?_⟩,fun ht=>?_⟩⟩,fun hn=>?_⟩
 ·cases eE ha ha3
  have:=QB ha
  refine aS (kA w0 [a.ak,l] _ (by simp) (by rw[A3,List.length_append];omega)) ?_ ⟨.full _ _ _,trivial⟩
  (refine @ab _ ?_;refine ba @hw @e ?_)
  refine⟨hp,by omega,by omega,fun a4 ha4=>?_⟩
  cases eE ha ha4
  rw[Hf hl ha ht,A3,←ht]
  have e3:(List.map dW p.wait).set (p.wait.length-1) (.agg [.v (.int .u64 a.bE),.sl 1 false (List.map dI (dh (a.ak++l)))])=List.map dW (p.wait.set (p.wait.length-1) ⟨a.bE,dh (a.ak++l)⟩):=(List.map_set (f:=dW) (a:=⟨a.bE,dh (a.ak++l)⟩)).symm
  rw[e3]
  exact .refl _
 ·refine aS (kA w0 [l] _ (by simp) (by rw[ln];omega)) ?_ ⟨.full _ _ _,trivial⟩
  (refine @ab _ ?_;refine au ?_)
  rw[mC hl (fun w hw'=>by cases eE ha hw';exact ht),ln,List.map_append]
  exact⟨by omega,by unfold maxLen;omega,.refl _⟩
 ·refine aS (kA w0 [l] _ (by simp) (by rw[ln];omega)) ?_ ⟨.full _ _ _,trivial⟩
  (refine @ab _ ?_;refine au ?_)
  rw[mC hl (fun w hw'=>by have:=(List.getElem?_eq_some_iff.1 hw').1;omega),ln,List.map_append]
  exact⟨by omega,by unfold maxLen;omega,.refl _⟩
def bQ(h:Int)(n:Nat):List Int:=(List.range n).map fun(i:Nat)=>h+(i:Int)
theorem kL(h:Int)(n:Nat):bQ h (n+1)=bQ h n++[h+n]:=by unfold bQ;rw[List.range_succ,List.map_append];rfl
theorem ix(h:Int)(n:Nat):(bQ h n).length=n:=by simp[bQ]
def aY(p:Pl)(m:Int):Nat:=min m.toNat p.free.length
def cX(p:Pl)(m:Int):List Int:=(dh p.free).take (aY p m)++bQ p.high (m.toNat-aY p m)
def take(p:Pl)(m:Int):Pl:=⟨p.high+(m.toNat-aY p m:Nat),(dh p.free).drop (aY p m),p.wait⟩
def may(p:Pl)(q m:Int):Prop:=0≤m∧m≤du p q
theorem VV(w0:W0)(p:Pl)(q m:Int)(S:St)(h0:p.free.length≤1048576)(h1: -1099511627776≤p.high)(h2:p.high≤1048576)(h3: -1099511627776≤q)(h4:q≤1048576):
 aa Tryz.prog w0 179 [dP p,dI q,dI m] S (fun d S'=>(may p q m→d= .bD [dP (take p m),dL (cX p m),dB true]∧S'=S)∧(¬may p q m→d= .bD [dP p,.sl 1 false [],dB false]∧S'=S)):=by
 by_cases hm:may p q m
 ·refine aa.mono (K:=fun d S'=>d= .bD [dP (take p m),dL (cX p m),dB true]∧S'=S) ?_ fun d S' h=>⟨fun _=>h,fun k=>absurd hm k⟩
  refine aZ [] mx Tryz.func179 rfl rfl (by kernel_rfl) ?_;simp(maxDischargeDepth:=12) (maxSteps:=1000000) -implicitDefEqProofs only[Tryz.ntmps179,go_sem,Nat.reduceAdd,Nat.reduceSub,Nat.reduceMul,Nat.reduceLeDiff,Nat.reduceEqDiff,Nat.reduceGT,Nat.reduceBEq,reduceCtorEq,↓reduceIte,Int.reduceToNat,Int.reduceLE,Int.reduceLT,Int.reduceNe,Int.reduceEq]
  intro b b1
  have hr:du p q≤2199023255552:=by unfold du;split <;>omega
  refine⟨fun h=>absurd hm.1 (by omega),fun h=>?_⟩
  refine ao (room w0 p q _ h0 (by omega) (by omega) (by omega) (by omega)) ?_
  (refine @ab _ ?_;refine au ?_)
  refine⟨fun h'=>absurd hm.2 (by omega),fun h'=>?_⟩
  refine ao (kA w0 [p.free] _ (by simp) (by rw[ln];omega)) ?_ ⟨.full _ _ _,trivial⟩
  (refine @ab _ ?_;refine an @ln ?_)
  have ho:aY p m≤p.free.length:=Nat.min_le_right _ _
  have ho2:aY p m≤m.toNat:=Nat.min_le_left _ _
  have hmin:(if((dh p.free).length:Int)<m then((dh p.free).length:Int)else m)=(aY p m:Int):=by
   rw[bc];unfold aY
   split <;>omega
  rw[hmin]
  simp only[Int.toNat_natCast,bc]
  have hx:((dh p.free).take (aY p m)).length=aY p m:=by rw[List.length_take,bc];omega
  refine⟨by omega,by omega,by omega,by omega,?_⟩
  refine JI 11 rfl (by omega) fun l=>?_
  (refine @ab _ ?_;refine an @hx ?_)
  refine aF [] (m.toNat-aY p m) [2,3,6,11] (fun k=>[(11,.acc l.n (aY p m+k))]) (fun k=>⟨(b1.n,[dI 0,.sl 0 true [],.sl 0 true []])::(b.n,[dI (p.high+k),dL ((dh p.free).drop (aY p m)),.sl 2 false (p.wait.map dW)])::S.box,(l.n,.tl 1 (((dh p.free).take (aY p m)++bQ p.high k).map dI))::S.acc⟩) (fun _=>True) mx (by kernel_rfl) ?_ ?_
  ·(refine @ab _ ?_;refine au ?_)
   simp[bQ,sj,uI]
  ·intro k hk _
   have hm0:=hm.1
   have hm1:=hm.2
   have hlen:((dh p.free).take (aY p m)++bQ p.high k).length=aY p m+k:=by rw[List.length_append,hx,ix]
   (refine @ab _ ?_;refine ba @ix @hx ?_)
   refine⟨fun hlt=>⟨by omega,by unfold maxLen;omega,by omega,?_,?_⟩,fun hge=>?_⟩
   ·exact .refl _
   ·rw[aX (by omega) (by omega),kL,←List.append_assoc,List.map_append]
    have e:p.high+(k:Int)+1=p.high+((k+1:Nat):Int):=by omega
    rw[e]
    exact .refl _
   ·have e:k=m.toNat-aY p m:=by omega
    subst e
    exact .refl _
 ·refine aa.mono (K:=fun d S'=>d= .bD [dP p,.sl 1 false [],dB false]∧S'=S) ?_ fun d S' h=>⟨fun k=>absurd k hm,fun _=>h⟩
  refine aZ [] mx Tryz.func179 rfl rfl (by kernel_rfl) ?_;simp(maxDischargeDepth:=12) (maxSteps:=1000000) -implicitDefEqProofs only[Tryz.ntmps179,go_sem,Nat.reduceAdd,Nat.reduceSub,Nat.reduceMul,Nat.reduceLeDiff,Nat.reduceEqDiff,Nat.reduceGT,Nat.reduceBEq,reduceCtorEq,↓reduceIte,Int.reduceToNat,Int.reduceLE,Int.reduceLT,Int.reduceNe,Int.reduceEq]
  intro b b1
  intro h
  refine ao (room w0 p q _ h0 (by omega) (by omega) (by omega) (by omega)) ?_
  (refine @ab _ ?_;refine au ?_)
  unfold may at hm
  exact fun h'=>absurd ⟨by omega,by omega⟩ hm
def rQ(l:List Wt):List Int:=(nP l).flatten
theorem qJ(f:List Int)(l:List Wt):flat (f::nP l)=f++rQ l:=rfl
theorem mo(a:Wt)(l:List Wt):rQ (a::l)=a.ak++rQ l:=rfl
theorem Ns(l:List Wt):(rQ l).length=nW l:=by have:=pF [] l;rw[qJ]at this;simpa using this
theorem cD(p:Pl):listed p=dh (p.free++rQ p.wait):=rfl
theorem Ej(o:Int)(h:Bool)(a:Wt)(l:List Wt):gI o h (a::l)=if h&&decide (o<a.bE)then a::gI o h l else gI o h l:=by simp[gI,List.filter_cons]
theorem yX(o:Int)(h:Bool)(a:Wt)(l:List Wt):iG o h (a::l)=if h&&decide (o<a.bE)then iG o h l else a::iG o h l:=by
 unfold iG;rw[List.filter_cons]
 cases hb:(h&&decide (o<a.bE)) <;>rfl
theorem Ge(o:Int)(h:Bool)(l:List Wt):(rQ (iG o h l)++rQ (gI o h l)).Perm (rQ l):=by
 induction l with
 |nil=>exact .refl _
 |cons a l ih=>
  rw[Ej,yX,mo]
  cases hb:(h&&decide (o<a.bE))with
  |true=>
   simp only[if_true]
   rw[mo]
   have h1:(rQ (iG o h l)++(a.ak++rQ (gI o h l))).Perm (a.ak++(rQ (iG o h l)++rQ (gI o h l))):=by
    rw[←List.append_assoc,←List.append_assoc];exact List.perm_append_comm.append_right _
   exact h1.trans (ih.append_left _)
  |false=>
   simp only[Bool.false_eq_true,if_false]
   rw[mo,List.append_assoc]
   exact ih.append_left _
theorem lU(p:Pl):(listed p).length=p.free.length+nW p.wait:=by rw[cD,bc,List.length_append,Ns]
theorem ng(p:Pl)(o:Int)(h:Bool):listed (release p o h)=listed p:=by
 rw[cD,cD]
 refine vV ?_
 unfold release
 simp only[qJ]
 exact((bN _).append_right _).trans (by rw[List.append_assoc];exact(Ge o h _).append_left _)
theorem tG{α:Type}{R:α→α→Prop}(ht:∀a b c,R a b→R b c→R a c){l:List α}(h:∀(i:Nat) a c,0<i→l[i]? =some a→l[i-1]? =some c→R c a):l.Pairwise R:=by
 induction l with
 |nil=>exact .nil
 |cons x l ih=>
  have ih':=ih fun i a c h0 ha hc=>h (i+1) a c (by omega) (by simpa using ha) (by
   have e:i+1-1=(i-1)+1:=by omega
   rw[e];simpa using hc)
  refine List.pairwise_cons.2 ⟨fun y hy=>?_,ih'⟩
  cases l with
  |nil=>cases hy
  |cons z l=>
   have hxz:R x z:=h 1 z x (by omega) rfl rfl
   rcases List.mem_cons.1 hy with rfl|hy
   ·exact hxz
   ·exact ht _ _ _ hxz ((List.pairwise_cons.1 ih').1 y hy)
theorem tz{α:Type}{R:α→α→Prop}{l:List α}(h:l.Pairwise R):∀(i:Nat) a c,0<i→l[i]? =some a→l[i-1]? =some c→R c a:=by
 intro i a c h0 ha hc
 obtain⟨h1,rfl⟩:=List.getElem?_eq_some_iff.1 ha
 obtain⟨h2,rfl⟩:=List.getElem?_eq_some_iff.1 hc
 exact List.pairwise_iff_getElem.1 h _ _ h2 h1 (by omega)
theorem lq(l:List Int)(high:Int):Row l high↔(∀a,a∈l→2≤a∧a<high)∧l.Pairwise (·<·):=by
 constructor
 ·intro h
  refine⟨fun a ha=>?_,tG (R:=fun(x y:Int)=>x<y) (fun _ _ _ h k=>Int.lt_trans h k) fun i a c h0 ha hc=>(mL h ha).2.2 c h0 hc⟩
  obtain⟨i,hi⟩:=List.getElem?_of_mem ha
  exact⟨(mL h hi).1,(mL h hi).2.1⟩
 ·rintro⟨h1,h2⟩ i a hi ha
  have:=h1 a (List.mem_of_getElem? ha)
  exact⟨this.1,this.2,fun b h0 hb=>tz h2 i a b h0 ha hb⟩
theorem Ad{l:List Int}(h1:l.Pairwise (·≤·))(h2:l.Nodup):l.Pairwise (·<·):=by
 induction l with
 |nil=>exact .nil
 |cons a l ih=>
  obtain⟨p1,p2⟩:=List.pairwise_cons.1 h1
  obtain⟨q1,q2⟩:=List.nodup_cons.1 h2
  refine List.pairwise_cons.2 ⟨fun b hb=>?_,ih p2 q2⟩
  have:=p1 b hb
  have:a≠b:=fun e=>q1 (e▸hb)
  omega
theorem j4{l:List Int}(h:l.Pairwise (·<·)):l.Nodup:=h.imp fun h e=>by omega
theorem j1(l:List Int)(high:Int):Row (dh l) high↔(∀a,a∈l→2≤a∧a<high)∧l.Nodup:=by
 rw[lq]
 constructor
 ·rintro⟨h1,h2⟩
  exact⟨fun a ha=>h1 a ((bN l).mem_iff.2 ha),(bN l).nodup_iff.1 (j4 h2)⟩
 ·rintro⟨h1,h2⟩
  exact⟨fun a ha=>h1 a ((bN l).mem_iff.1 ha),Ad (qk l) ((bN l).nodup_iff.2 h2)⟩
theorem TF(o:Int)(h:Bool)(l:List Wt):(rQ (iG o h l)).Sublist (rQ l):=by
 induction l with
 |nil=>exact .refl _
 |cons a l ih=>
  rw[yX,mo]
  split
  ·exact ih.trans (List.sublist_append_right _ _)
  ·rw[mo];exact(List.Sublist.refl _).append ih
theorem zw(p:Pl)(o:Int)(h:Bool)(q:Int)(hc:F7 p q):F7 (release p o h) q:=by
 obtain⟨c1,c2,c3,c4,c5,c6⟩:=hc
 have c6':=c6
 rw[cD,j1]at c6
 refine⟨?_,fun w hw=>c2 w (List.mem_filter.1 hw).1,c3,c4,?_,?_⟩
 ·refine tz (R:=fun(c a:Wt)=>c.bE<a.bE) ?_
  exact(tG (R:=fun(c a:Wt)=>c.bE<a.bE) (fun _ _ _ h k=>Int.lt_trans h k) c1).filter _
 ·show Row (dh (flat _)) p.high
  rw[j1,qJ]
  have hs:(p.free++rQ (iG o h p.wait)).Sublist (p.free++rQ p.wait):=(List.Sublist.refl _).append (TF o h _)
  exact⟨fun a ha=>c6.1 a (hs.subset ha),c6.2.sublist hs⟩
 ·rw[ng];exact c6'
theorem zJ(h:Int)(m:Nat):∀n,bQ h (m+n)=bQ h m++bQ (h+m) n
 |0=>by simp[bQ]
 |n+1=>by
  rw[←Nat.add_assoc,kL,zJ h m n,kL,List.append_assoc]
  congr 3
  rw[Int.natCast_add];omega
theorem ll{h x:Int}{n:Nat}:x∈bQ h n↔h≤x∧x<h+n:=by
 induction n with
 |zero=>simp[bQ] <;>omega
 |succ n ih=>rw[kL,List.mem_append,ih];simp;omega
theorem sn(h:Int)(n:Nat):(bQ h n).Pairwise (·<·):=by
 induction n with
 |zero=>exact .nil
 |succ n ih=>
  rw[kL,List.pairwise_append]
  refine⟨ih,List.pairwise_cons.2 ⟨fun _ h=>by simp at h,.nil⟩,fun a ha b hb=>?_⟩
  simp only[List.mem_singleton]at hb
  have:=(ll.1 ha).2;omega
theorem Ay(l:List Int)(k:Nat):dh ((dh l).drop k)=(dh l).drop k:=yP ((qk l).sublist (List.drop_sublist k _))
theorem mh(p:Pl)(m:Int):(take p m).free.length=p.free.length-aY p m:=by
 show((dh p.free).drop (aY p m)).length=_
 rw[List.length_drop,bc]
theorem nj(p:Pl)(m:Int):(cX p m).length=m.toNat:=by
 unfold cX
 rw[List.length_append,List.length_take,bc,ix]
 have h1:aY p m≤p.free.length:=Nat.min_le_right _ _
 have h2:aY p m≤m.toNat:=Nat.min_le_left _ _
 omega
theorem MB(p:Pl){a b:Int}(ha:0≤a)(hb:0≤b):cX p (a+b)=cX p a++cX (take p a) b∧take (take p a) b=take p (a+b):=by
 have e1:aY (take p a) b=min b.toNat (p.free.length-aY p a):=by unfold aY;rw[mh];rfl
 have e2:aY p (a+b)=aY p a+aY (take p a) b:=by rw[e1];unfold aY;omega
 have h1:aY p a≤p.free.length:=Nat.min_le_right _ _
 have h2:aY p a≤a.toNat:=Nat.min_le_left _ _
 have h3:aY (take p a) b≤b.toNat:=Nat.min_le_left _ _
 have e3:(a+b).toNat-aY p (a+b)=(a.toNat-aY p a)+(b.toNat-aY (take p a) b):=by omega
 have e4:dh (take p a).free=(dh p.free).drop (aY p a):=Ay _ _
 constructor
 ·unfold cX
  rw[e2,e4,show(a+b).toNat-(aY p a+aY (take p a) b)=(a.toNat-aY p a)+(b.toNat-aY (take p a) b)by rw[←e2];exact e3,zJ,List.take_add]
  show _=_++(_++bQ (p.high+((a.toNat-aY p a:Nat):Int)) _)
  by_cases hr:a.toNat-aY p a=0
  ·rw[hr];simp[bQ]
  ·have hn:aY (take p a) b=0:=by
    rw[e1];unfold aY at *;omega
   rw[hn];simp
 ·unfold take
  rw[e4.symm.trans e4]at*
  have e5:dh (List.drop (aY p a) (dh p.free))=List.drop (aY p a) (dh p.free):=Ay _ _
  have e6:aY ⟨p.high+((a.toNat-aY p a:Nat):Int),List.drop (aY p a) (dh p.free),p.wait⟩ b=aY (take p a) b:=rfl
  simp only[e6,e5,List.drop_drop,e2]
  refine Sb ?_ rfl rfl
  simp only
  omega
theorem vN{p:Pl}{q a:Int}(hq:p.high≤q)(h:may p q a):du (take p a) q=du p q-a∧(take p a).high≤q:=by
 obtain⟨h0,h1⟩:=h
 have e1:aY p a=min a.toNat p.free.length:=rfl
 have e2:=mh p a
 have e3:(take p a).high=p.high+((a.toNat-aY p a:Nat):Int):=rfl
 unfold du at*
 rw[e2,e3]
 split at h1 <;>split <;>omega
theorem wm(p:Pl)(m:Int):(cX p m++(take p m).free).Perm (p.free++bQ p.high (m.toNat-aY p m)):=by
 show(((dh p.free).take (aY p m)++bQ _ _)++(dh p.free).drop (aY p m)).Perm _
 have h1:(((dh p.free).take (aY p m)++bQ p.high (m.toNat-aY p m))++(dh p.free).drop (aY p m)).Perm (((dh p.free).take (aY p m)++(dh p.free).drop (aY p m))++bQ p.high (m.toNat-aY p m)):=by
  rw[List.append_assoc,List.append_assoc];exact List.perm_append_comm.append_left _
 refine h1.trans ?_
 rw[List.take_append_drop]
 exact(bN _).append_right _
theorem wo{p:Pl}{q:Int}(hc:F7 p q)(m:Int):(∀x,x∈cX p m++((take p m).free++rQ p.wait)→2≤x∧x<(take p m).high)∧(cX p m++((take p m).free++rQ p.wait)).Nodup:=by
 obtain⟨-, -,c3, -, -,c6⟩:=hc
 rw[cD,j1]at c6
 obtain⟨d1,d2⟩:=c6
 have hp:(cX p m++((take p m).free++rQ p.wait)).Perm ((p.free++rQ p.wait)++bQ p.high (m.toNat-aY p m)):=by
  rw[←List.append_assoc]
  refine((wm p m).append_right _).trans ?_
  rw[List.append_assoc,List.append_assoc]
  exact List.perm_append_comm.append_left _
 have e3:(take p m).high=p.high+((m.toNat-aY p m:Nat):Int):=rfl
 constructor
 ·intro x hx
  rw[hp.mem_iff,List.mem_append,ll]at hx
  rcases hx with hx|hx
  ·have:=d1 x hx;omega
  ·omega
 ·rw[hp.nodup_iff,List.nodup_append]
  refine⟨d2,j4 (sn _ _),fun a ha b hb e=>?_⟩
  subst e
  have:=d1 a ha
  have:=(ll.1 hb).1
  omega
theorem A8{p:Pl}{q:Int}(hc:F7 p q):dh p.free=p.free∧(∀x,x∈p.free→2≤x∧x<p.high)∧p.free.Pairwise (·<·):=by
 have:=(lq _ _).1 hc.2.2.2.2.1
 exact⟨yP (this.2.imp fun h=>by omega),this.1,this.2⟩
def jL(p:Pl):List Int:=p.free++rQ p.wait
def RQ(n:Nat)(h:Nat→Bool):List Int:=((List.range n).filter h).map fun(i:Nat)=>(i:Int)
structure og(top:Nat)(p:Pl)(h:Nat→Bool)(bE:Int):Prop where
 qV:F7 p top
 own:∀i,h i=true→2≤i∧(i:Int)<p.high∧(i:Int)∉jL p
 all:∀x:Int,2≤x→x<p.high→x∈jL p∨h x.toNat=true
 old:∀w,w∈p.wait→w.bE<bE
theorem sx{p:Pl}{q:Int}(h:F7 p q):(∀x,x∈jL p→2≤x∧x<p.high)∧(jL p).Nodup:=by
 have:=h.2.2.2.2.2;rw[cD,j1]at this;exact this
theorem FI{n:Nat}{h:Nat→Bool}{x:Int}:x∈RQ n h↔0≤x∧x<n∧h x.toNat=true:=by
 unfold RQ
 simp only[List.mem_map,List.mem_filter,List.mem_range]
 constructor
 ·rintro⟨i,⟨h1,h2⟩,rfl⟩
  exact⟨by omega,by omega,by simpa using h2⟩
 ·rintro⟨h1,h2,h3⟩
  exact⟨x.toNat,⟨by omega,h3⟩,by omega⟩
theorem Gq(n:Nat)(h:Nat→Bool):(RQ n h).Nodup:=by
 unfold RQ
 have h1:((List.range n).filter h).Nodup:=(List.nodup_range).sublist List.filter_sublist
 unfold List.Nodup at*
 rw[List.pairwise_map]
 exact h1.imp fun hne e=>hne (Int.ofNat.inj e)
theorem tJ{top:Nat}{p:Pl}{h:Nat→Bool}{bE:Int}(k:og top p h bE):((listed p).length:Int)+(RQ top h).length=p.high-2:=by
 obtain⟨c1,c2⟩:=sx k.qV
 have hq:=k.qV.2.2.2.1
 have h2:=k.qV.2.2.1
 have hn:(jL p++RQ top h).Nodup:=by
  rw[List.nodup_append]
  refine⟨c2,Gq _ _,fun a ha b hb e=>?_⟩
  subst e
  obtain⟨g1,g2,g3⟩:=FI.1 hb
  have:=(k.own a.toNat g3).2.2
  rw[Int.toNat_of_nonneg g1]at this
  exact this ha
 have hp:(jL p++RQ top h).Perm (bQ 2 (p.high-2).toNat):=by
  refine(List.perm_ext_iff_of_nodup hn (j4 (sn _ _))).2 fun x=>?_
  rw[List.mem_append,ll,FI]
  constructor
  ·rintro(hx|⟨g1,g2,g3⟩)
   ·have:=c1 x hx;omega
   ·have:=k.own _ g3;omega
  ·rintro⟨g1,g2⟩
   rcases k.all x g1 (by omega)with hx|hx
   ·exact .inl hx
   ·exact .inr ⟨by omega,by omega,hx⟩
 have:=hp.length_eq
 rw[List.length_append,ix]at this
 have e:(listed p).length=(jL p).length:=by rw[cD,bc];rfl
 rw[e];omega
theorem pJ{top:Nat}{p:Pl}{h:Nat→Bool}{bE:Int}(k:og top p h bE)(o:Int)(b:Bool):og top (release p o b) h bE:=by
 have hp:(jL (release p o b)).Perm (jL p):=by
  have h1:=ng p o b
  rw[cD,cD]at h1
  exact(bN _).symm.trans (h1▸bN _)
 refine⟨zw p o b _ k.qV,fun i hi=>?_,fun x h1 h2=>?_,fun w hw=>k.old w (List.mem_filter.1 hw).1⟩
 ·have:=k.own i hi
  exact⟨this.1,this.2.1,fun hx=>this.2.2 (hp.mem_iff.1 hx)⟩
 ·exact(k.all x h1 h2).imp (fun hx=>hp.mem_iff.2 hx) id
def marks(h:Nat→Bool)(l:List Int):Nat→Bool:=fun i=>h i||decide ((i:Int)∈l)
theorem Jb{p:Pl}{q m:Int}(hc:F7 p q)(hm:may p q m):F7 (take p m) q:=by
 obtain⟨d1,d2⟩:=wo hc m
 obtain⟨f1,f2,f3⟩:=A8 hc
 have hh:=(vN hc.2.2.2.1 hm).2
 have hhi:(take p m).high=p.high+((m.toNat-aY p m:Nat):Int):=rfl
 have h2:=hc.2.2.1
 refine⟨hc.1,fun w hw hr=>hc.2.1 w hw ?_,by omega,hh,?_,?_⟩
 ·refine hr.imp id fun hr hrow=>hr ?_
  rw[lq]at*
  exact⟨fun a ha=>by have:=hrow.1 a ha;omega,hrow.2⟩
 ·rw[lq]
  refine⟨fun a ha=>d1 a (List.mem_append_right _ (List.mem_append_left _ ha)),?_⟩
  show((dh p.free).drop (aY p m)).Pairwise (·<·)
  rw[f1];exact f3.sublist (List.drop_sublist _ _)
 ·rw[cD,j1]
  exact⟨fun x hx=>d1 x (List.mem_append_right _ hx),(List.nodup_append.1 d2).2.1⟩
theorem pK(p:Pl)(m x:Int):(x∈cX p m∨x∈jL (take p m))↔(x∈jL p∨(p.high≤x∧x<(take p m).high)):=by
 have h1:=(wm p m).mem_iff (a:=x)
 rw[List.mem_append,List.mem_append,ll]at h1
 have hhi:(take p m).high=p.high+((m.toNat-aY p m:Nat):Int):=rfl
 unfold jL
 rw[List.mem_append,List.mem_append,hhi]
 have e:(take p m).wait=p.wait:=rfl
 rw[e]
 constructor
 ·rintro(h|h|h)
  ·rcases h1.1 (.inl h)with h|h
   ·exact .inl (.inl h)
   ·exact .inr h
  ·rcases h1.1 (.inr h)with h|h
   ·exact .inl (.inl h)
   ·exact .inr h
  ·exact .inl (.inr h)
 ·rintro((h|h)|h)
  ·rcases h1.2 (.inl h)with h|h
   ·exact .inl h
   ·exact .inr (.inl h)
  ·exact .inr (.inr h)
  ·rcases h1.2 (.inr h)with h|h
   ·exact .inl h
   ·exact .inr (.inl h)
theorem kU{top:Nat}{p:Pl}{h:Nat→Bool}{bE m:Int}(k:og top p h bE)(hm:may p top m):(∀x,x∈cX p m→2≤x∧x<top∧h x.toNat=false)∧(cX p m).Nodup∧og top (take p m) (marks h (cX p m)) bE:=by
 obtain⟨d1,d2⟩:=wo k.qV m
 obtain⟨c1,c2⟩:=sx k.qV
 have hh:=(vN k.qV.2.2.2.1 hm).2
 have hhi:(take p m).high=p.high+((m.toNat-aY p m:Nat):Int):=rfl
 refine⟨fun x hx=>?_,(List.nodup_append.1 d2).1,Jb k.qV hm,fun i hi=>?_,fun x h1 h2=>?_,k.old⟩
 ·have g:=d1 x (List.mem_append_left _ hx)
  refine⟨g.1,by omega,?_⟩
  cases hv:h x.toNat with
  |false=>rfl
  |true=>
   obtain⟨o1,o2,o3⟩:=k.own _ hv
   rw[Int.toNat_of_nonneg (by omega)]at o2 o3
   rcases(pK p m x).1 (.inl hx)with h|h
   ·exact absurd h o3
   ·omega
 ·unfold marks at hi
  rw[Bool.or_eq_true,decide_eq_true_eq]at hi
  rcases hi with hi|hi
  ·obtain⟨o1,o2,o3⟩:=k.own _ hi
   refine⟨o1,by omega,fun hx=>?_⟩
   rcases(pK p m i).1 (.inr hx)with h|h
   ·exact o3 h
   ·omega
  ·have g:=d1 i (List.mem_append_left _ hi)
   exact⟨by omega,g.2,fun hx=>(List.nodup_append.1 d2).2.2 _ hi _ hx rfl⟩
 ·unfold marks
  rw[Bool.or_eq_true,decide_eq_true_eq,Int.toNat_of_nonneg (by omega)]
  by_cases hx:x<p.high
  ·rcases k.all x h1 hx with h|h
   ·rcases(pK p m x).2 (.inl h)with h|h
    ·exact .inr (.inr h)
    ·exact .inl h
   ·exact .inr (.inl h)
  ·rcases(pK p m x).2 (.inr ⟨by omega,h2⟩)with h|h
   ·exact .inr (.inr h)
   ·exact .inl h
theorem HJ{top:Nat}{p:Pl}{h:Nat→Bool}{bE:Int}(k:og top p h bE){l:List Int}(h1:∀x,x∈l→0≤x∧h x.toNat=true)(h2:l.Nodup):og top (mj p bE l) (fun i=>h i&&!decide ((i:Int)∈l)) (bE+1):=by
 obtain⟨c1,c2⟩:=sx k.qV
 have hb:∀x,x∈l→2≤x∧x<p.high∧x∉jL p:=fun x hx=>by
  obtain⟨g1,g2⟩:=h1 x hx
  have:=k.own _ g2
  rw[Int.toNat_of_nonneg g1]at this
  exact⟨by omega,this.2.1,this.2.2⟩
 by_cases hl:l=[]
 ·subst hl
  rw[show mj p bE []=p from if_pos rfl]
  refine⟨k.qV,fun i hi=>k.own i (by simpa using hi),fun x a b=>(k.all x a b).imp id fun h=>by simpa using h,fun w hw=>by have:=k.old w hw;omega⟩
 ·have hg:mj p bE l=⟨p.high,p.free,p.wait++[⟨bE,dh l⟩]⟩:=mC hl fun w hw e=>by
   have:=k.old w (List.mem_of_getElem? hw);omega
  rw[hg]
  have hA:∀x,x∈jL ⟨p.high,p.free,p.wait++[⟨bE,dh l⟩]⟩↔x∈jL p∨x∈l:=by
   intro x
   unfold jL rQ
   simp only[sa,List.flatten_append,List.mem_append]
   have:(nP [(⟨bE,dh l⟩:Wt)]).flatten=dh l:=by simp[nP]
   rw[this,(bN l).mem_iff]
   constructor
   ·rintro(h|h|h)
    ·exact .inl (.inl h)
    ·exact .inl (.inr h)
    ·exact .inr h
   ·rintro((h|h)|h)
    ·exact .inl h
    ·exact .inr (.inl h)
    ·exact .inr (.inr h)
  have hP:(jL ⟨p.high,p.free,p.wait++[⟨bE,dh l⟩]⟩).Perm (jL p++l):=by
   unfold jL rQ
   simp only[sa,List.flatten_append]
   have:(nP [(⟨bE,dh l⟩:Wt)]).flatten=dh l:=by simp[nP]
   rw[this,←List.append_assoc]
   exact(bN l).append_left _
  have hN:(jL p++l).Nodup:=by
   rw[List.nodup_append]
   exact⟨c2,h2,fun a ha b hb' e=>(hb b hb').2.2 (e▸ha)⟩
  refine⟨⟨?_,fun w hw=>?_,k.qV.2.2.1,k.qV.2.2.2.1,k.qV.2.2.2.2.1,?_⟩,fun i hi=>?_,fun x a b=>?_,fun w hw=>?_⟩
  ·refine tz (R:=fun(c a:Wt)=>c.bE<a.bE) ?_
   rw[List.pairwise_append]
   refine⟨tG (R:=fun(c a:Wt)=>c.bE<a.bE) (fun _ _ _ h k=>Int.lt_trans h k) k.qV.1,List.pairwise_cons.2 ⟨fun _ h=>by simp at h,.nil⟩,fun a ha b hb=>?_⟩
   simp only[List.mem_singleton]at hb
   subst hb
   exact k.old a ha
  ·rcases List.mem_append.1 hw with hw|hw
   ·exact k.qV.2.1 w hw
   ·simp only[List.mem_singleton]at hw
    subst hw
    rintro(h|h)
    ·exact hl (List.eq_nil_of_length_eq_zero (by rw[←bc];exact congrArg List.length h))
    ·exact h ((j1 _ _).2 ⟨fun x hx=>⟨(hb x hx).1,(hb x hx).2.1⟩,h2⟩)
  ·rw[cD,j1]
   exact⟨fun x hx=>by
    rcases(hA x).1 hx with h|h
    ·exact c1 x h
    ·exact⟨(hb x h).1,(hb x h).2.1⟩,hP.nodup_iff.2 hN⟩
  ·rw[Bool.and_eq_true,Bool.not_eq_true',decide_eq_false_iff_not]at hi
   have:=k.own i hi.1
   refine⟨this.1,this.2.1,fun hx=>?_⟩
   rcases(hA _).1 hx with h|h
   ·exact this.2.2 h
   ·exact hi.2 h
  ·rw[Bool.and_eq_true,Bool.not_eq_true',decide_eq_false_iff_not,Int.toNat_of_nonneg (by omega)]
   by_cases hx:x∈l
   ·exact .inl ((hA x).2 (.inr hx))
   ·exact(k.all x a b).imp (fun h=>(hA x).2 (.inl h)) fun h=>⟨h,hx⟩
  ·rcases List.mem_append.1 hw with hw|hw
   ·have:=k.old w hw;omega
   ·simp only[List.mem_singleton]at hw
    subst hw;simp only;omega
theorem DK(top:Nat)(h:2≤top):og top ⟨2,[],[]⟩ (fun _=>false) 1:=by
 have hr:Row (listed ⟨2,[],[]⟩) 2:=by
  rw[cD,j1]
  exact⟨fun x hx=>by simp[rQ,nP]at hx,by simp[rQ,nP]⟩
 refine⟨⟨fun i a c h0 ha=>?_,fun w hw=>?_,Int.le_refl _,?_,fun i a hi=>?_,hr⟩,fun i hi=>?_,fun x a b=>?_,fun w hw=>?_⟩
 ·simp at ha
 ·simp at hw
 ·show(2:Int)≤top;omega
 ·simp at hi
 ·cases hi
 ·exact absurd b (by show¬x<2;omega)
 ·simp at hw
def Hx(n:N)(l:List C):List DV:=[dI n.aq,dB n.leaf,.sl 1 false (n.l.map fun c=>dS c.key),.sl 2 false ((if n.leaf then n.l else []).map fS),.sl 5 false ((aN n).map dT),.sl 6 false (l.map lP)]
theorem MO(w0:W0)(n:N)(l:List C)(S:St):aa Tryz.prog w0 97 [eV n l] S (fun d S'=>∃b:FN S.box,d= .v (.func (.func 149) #[] #[.pointer (some ⟨b.n,0,none⟩)])∧S'=⟨(b.n,Hx n l)::S.box,S.acc⟩):=by
 refine mf [] mx Tryz.func97 rfl rfl (by kernel_rfl) ?_;(refine @ab _ ?_;refine an @Tryz.ntmps97 ?_)
 exact fun b=>⟨b,rfl,rfl⟩
def gS(n:N)(l:List C):List N:=n::l.map aA
structure Wk2 where
 T:St
 k:Nat
theorem QS(w0:W0)(y b2:Nat)(n:N)(l:List C)(X:List N→St)(hl:l.length≤1048576)
 (h2:∀pre,lk (X pre).box b2=some (Hx n l))
 (hy:YK Tryz.prog w0 y X (fun x=>[eT x]) (gS n l)):∀T,Has (X []) T→aa Tryz.prog w0 149 [.v (.func (.yield y) #[] #[]),.v (.pointer (some ⟨b2,0,none⟩))] T (fun _ T'=>Has (X (gS n l)) T'):=by
 intro T hT
 have t2:lk T.box b2=some (Hx n l):=hT.box _ _ (h2 [])
 unfold Hx at t2 h2
 refine mf [] mx Tryz.func149 rfl rfl (by kernel_rfl) ?_;simp only[Tryz.ntmps149,List.length_cons,List.length_nil,Nat.reduceAdd,Nat.reduceSub,List.reduceReplicate,List.cons_append,List.nil_append];(refine @ab _ ?_;refine ba @Tryz.ntmps149 @t2 ?_)
 have hp0:([]++[n]) <+: gS n l:=⟨l.map aA,rfl⟩
 refine Ki (hy [] n _ hp0 hT) ?_
 rintro d T2 ⟨rfl,hT2,hK⟩
 have u2:=hT2.box _ _ (h2 _)
 (refine @ab _ ?_;refine an @u2 ?_)
 refine jR [] [0,11,12,13] (fun s:Wk2=>[(13,dI s.k)]) (fun s=>s.T) (fun s=>s.k≤l.length∧Has (X (n::(l.take s.k).map aA)) s.T) (fun s=>l.length-s.k) ⟨T2,0⟩ mx (by kernel_rfl) ?_ ?_
 ·(refine @ab _ ?_;refine au ?_)
  exact⟨Nat.zero_le _,hT2⟩
 ·rintro⟨T,k⟩ ⟨h1,hTk⟩
  simp only at h1 hTk
  (refine @ab _ ?_;refine au ?_)
  refine⟨fun hlt=>⟨hlt,fun c hc b5=>?_⟩,fun hge=>?_⟩
  ·have hpk:((n::(l.take k).map aA)++[aA c])=n::(l.take (k+1)).map aA:=by rw[List.take_add_one,hc];simp
   have hpre:((n::(l.take k).map aA)++[aA c]) <+: gS n l:=by
    rw[hpk]
    exact List.cons_prefix_cons.2 ⟨rfl,(List.take_prefix _ _).map _⟩
   refine Ki (hy _ (aA c) _ hpre (hTk.bu b5 _ rfl)) ?_
   rintro d T3 ⟨rfl,hT3,hK3⟩
   rw[hpk]at hT3
   (refine @ab _ ?_;refine au ?_)
   exact⟨⟨T3,k+1⟩,⟨by simp only;omega,hT3⟩,by simp only;omega,cm k (by omega),.refl _⟩
  ·rw[List.take_of_length_le (by omega)]at hTk
   exact hTk
theorem yV(w0:W0)(b:Nat)(l:List Int)(p:Int)(S:St)(hb:lk S.box b=some [dL l])(hl:Up l)(h0:l.length≤1073741824):aa Tryz.prog w0 183 [dI p,.v (.pointer (some ⟨b,0,none⟩))] S (fun d S'=>d=dB (decide (p∈l))∧S'=S):=by
 refine aZ [] mx Tryz.func183 rfl rfl (by kernel_rfl) ?_;simp only[Tryz.ntmps183,List.length_cons,List.length_nil,Nat.reduceAdd,Nat.reduceSub,List.reduceReplicate,List.cons_append,List.nil_append];(refine @ab _ ?_;refine ba @Tryz.ntmps183 @hb ?_)
 refine ao (OF w0 l p S hl h0) ?_
 (refine @ab _ ?_;exact aV)
theorem R0(w0:W0)(b m:Nat)(l zs:List Int)(S:St)(hb:lk S.box b=some [dL l])(hm:lk S.acc m=some (.arr 1 (zs.map dI)))(hl:Up l)(h0:l.length≤1073741824)(h1:zs.length≤1073741824):
 aa Tryz.prog w0 229 [.acc m zs.length,.v (.func (.func 183) #[] #[.pointer (some ⟨b,0,none⟩)])] S (fun d S'=>d=dI (CG l zs)∧S'=S):=by
 refine aZ [] mx Tryz.func229 rfl rfl (by kernel_rfl) ?_;(refine @ab _ ?_;refine eW @Tryz.ntmps229 @hb @hm ?_)
 refine aF [] zs.length [0,1,7,8] (fun k=>[(8,dI k)]) (fun _=>S) (fun k=>k≤zs.findIdx (l4 l)) mx (by kernel_rfl) ?_ ?_
 ·(refine @ab _ ?_;refine au ?_)
  exact Nat.zero_le _
 ·intro k hk hinv
  (refine @ab _ ?_;refine ba @hb @hm ?_)
  refine⟨fun hlt=>⟨hlt,hlt,fun a ha=>ao (yV w0 b l a S hb hl h0) ?_⟩,fun hge=>?_⟩
  ·have hak:zs[k]=a:=(List.getElem?_eq_some_iff.1 ha).2
   (refine @ab _ ?_;refine au ?_)
   refine⟨fun hin=>?_,fun hni=>⟨hlt,?_,by rw[aX (by omega) (by omega)];omega⟩⟩
   ·have:¬k<zs.findIdx (l4 l):=fun h=>by
     have:=List.not_of_lt_findIdx h
     rw[hak]at this
     simp[l4,hin]at this
    unfold CG
    rw[if_pos (by omega)];omega
   ·rcases Nat.lt_or_ge k (zs.findIdx (l4 l))with h|h
    ·exact h
    ·have he:zs.findIdx (l4 l)=k:=by omega
     have:=List.findIdx_getElem (xs:=zs) (p:=l4 l) (w:=by omega)
     simp only[he,hak]at this
     simp[l4,hni]at this
  ·unfold CG
   rw[if_neg (by omega)]
theorem OL(w0:W0)(b:Nat)(l zs:List Int)(B:List (Nat×List DV))(A:List (Nat×Ob))(m:FN A)(hb:lk B b=some [dL l])(hl:Up l)(h0:l.length≤1073741824)(h1:zs.length≤1073741824):
 aa Tryz.prog w0 182 [.acc m.n zs.length,.v (.func (.func 183) #[] #[.pointer (some ⟨b,0,none⟩)])] ⟨B,(m.n,.arr 1 (zs.map dI))::A⟩ (fun d S'=>∃m':FN A,d= .acc m'.n (gg l zs).length∧S'=⟨B,(m'.n,.arr 1 ((gg l zs).map dI))::A⟩):=by
 refine mf [11] mx Tryz.func182 rfl rfl (by kernel_rfl) ?_;simp(maxDischargeDepth:=12) (maxSteps:=1000000) -implicitDefEqProofs only[Tryz.ntmps182,go_sem,Nat.reduceAdd,Nat.reduceSub,Nat.reduceMul,Nat.reduceLeDiff,Nat.reduceEqDiff,Nat.reduceGT,Nat.reduceBEq,reduceCtorEq,↓reduceIte,Int.reduceToNat,Int.reduceLE,Int.reduceLT,Int.reduceNe,Int.reduceEq,hb]
 refine .inl (ao (R0 w0 b m.n l zs _ (by simp(maxDischargeDepth:=12) (maxSteps:=1000000) -implicitDefEqProofs only[go_sem,Nat.reduceAdd,Nat.reduceSub,Nat.reduceMul,Nat.reduceLeDiff,Nat.reduceEqDiff,Nat.reduceGT,Nat.reduceBEq,reduceCtorEq,↓reduceIte,Int.reduceToNat,Int.reduceLE,Int.reduceLT,Int.reduceNe,Int.reduceEq,hb]) (by simp(maxDischargeDepth:=12) (maxSteps:=1000000) -implicitDefEqProofs only[go_sem,Nat.reduceAdd,Nat.reduceSub,Nat.reduceMul,Nat.reduceLeDiff,Nat.reduceEqDiff,Nat.reduceGT,Nat.reduceBEq,reduceCtorEq,↓reduceIte,Int.reduceToNat,Int.reduceLE,Int.reduceLT,Int.reduceNe,Int.reduceEq]) hl h0 h1) ?_)
 simp(maxDischargeDepth:=12) (maxSteps:=1000000) -implicitDefEqProofs only[go_sem,Nat.reduceAdd,Nat.reduceSub,Nat.reduceMul,Nat.reduceLeDiff,Nat.reduceEqDiff,Nat.reduceGT,Nat.reduceBEq,reduceCtorEq,↓reduceIte,Int.reduceToNat,Int.reduceLE,Int.reduceLT,Int.reduceNe,Int.reduceEq,hb]
 refine⟨fun hm1=>?_,fun hm1=>?_⟩
 ·have hge:zs.length≤zs.findIdx (l4 l):=by
   unfold CG at hm1
   split at hm1 <;>omega
  have hf:gg l zs=zs:=by
   refine List.filter_eq_self.2 fun a ha=>?_
   obtain⟨x,hx⟩:=List.mem_iff_getElem?.1 ha
   have hlt:=(List.getElem?_eq_some_iff.1 hx).1
   have:=List.not_of_lt_findIdx (Nat.lt_of_lt_of_le hlt hge)
   rw[(List.getElem?_eq_some_iff.1 hx).2]at this
   simpa using this
  exact⟨m,by rw[hf],by rw[hf]⟩
 ·have hlt:zs.findIdx (l4 l)<zs.length:=by
   unfold CG at hm1
   split at hm1 <;>first|assumption|exact absurd rfl hm1
  generalize hi0:zs.findIdx (l4 l)=i0 at hlt
  have hidx:CG l zs=(i0:Int):=by unfold CG;rw[hi0,if_pos hlt]
  have htk:gg l (zs.take (i0+1))=zs.take i0:=by
   have hx:zs[i0]? =some zs[i0]:=List.getElem?_eq_getElem hlt
   have hh:=List.findIdx_getElem (xs:=zs) (p:=l4 l) (w:=by omega)
   simp only[hi0]at hh
   rw[List.take_add_one,hx,Option.toList_some]
   unfold gg
   rw[List.filter_append,List.filter_eq_self.2 fun a ha=>?_]
   ·simp[hh]
   ·obtain⟨x,hx⟩:=List.mem_iff_getElem?.1 ha
    rw[List.getElem?_take]at hx
    split at hx
    ·rename_i hxi
     have:=List.not_of_lt_findIdx (p:=l4 l) (xs:=zs) (i:=x) (by omega)
     rw[(List.getElem?_eq_some_iff.1 hx).2]at this
     simpa using this
    ·cases hx
  rw[hidx]
  refine jR [11] [0,1,5,6] (fun s:Nat×Nat×List Int=>[(5,dI s.1),(6,dI s.2.1)]) (fun s=>⟨B,(m.n,.arr 1 (s.2.2.map dI))::A⟩) (fun s=>s.1<s.2.1∧s.2.1≤zs.length∧s.2.2.length=zs.length∧s.2.2.take s.1=gg l (zs.take s.2.1)∧∀x,s.2.1≤x→s.2.2[x]? =zs[x]?) (fun s=>zs.length-s.2.1) (i0,i0+1,zs) mx (by kernel_rfl) ?_ ?_
  ·simp(maxDischargeDepth:=12) (maxSteps:=1000000) -implicitDefEqProofs only[go_sem,Nat.reduceAdd,Nat.reduceSub,Nat.reduceMul,Nat.reduceLeDiff,Nat.reduceEqDiff,Nat.reduceGT,Nat.reduceBEq,reduceCtorEq,↓reduceIte,Int.reduceToNat,Int.reduceLE,Int.reduceLT,Int.reduceNe,Int.reduceEq]
   exact⟨⟨by omega,htk.symm⟩,by rw[aX (by omega) (by omega)];omega⟩
  ·rintro⟨i,j,xs⟩ ⟨k1,k2,k3,k4,k5⟩
   simp only at k1 k2 k3 k4 k5
   rw[←k3]
   simp(maxDischargeDepth:=12) (maxSteps:=1000000) -implicitDefEqProofs only[go_sem,Nat.reduceAdd,Nat.reduceSub,Nat.reduceMul,Nat.reduceLeDiff,Nat.reduceEqDiff,Nat.reduceGT,Nat.reduceBEq,reduceCtorEq,↓reduceIte,Int.reduceToNat,Int.reduceLE,Int.reduceLT,Int.reduceNe,Int.reduceEq]
   refine⟨fun hj=>⟨hj,hj,fun a ha=>ao (yV w0 b l a _ (by simp(maxDischargeDepth:=12) (maxSteps:=1000000) -implicitDefEqProofs only[go_sem,Nat.reduceAdd,Nat.reduceSub,Nat.reduceMul,Nat.reduceLeDiff,Nat.reduceEqDiff,Nat.reduceGT,Nat.reduceBEq,reduceCtorEq,↓reduceIte,Int.reduceToNat,Int.reduceLE,Int.reduceLT,Int.reduceNe,Int.reduceEq,hb]) hl h0) ?_⟩,fun hj=>?_⟩
   ·have hzj:zs[j]? =some a:=by rw[←k5 j (Nat.le_refl _)];exact ha
    have hfj:gg l (zs.take (j+1))=gg l (zs.take j)++(if a∈l then []else [a]):=by
     rw[List.take_add_one,hzj,Option.toList_some]
     unfold gg
     rw[List.filter_append]
     congr 1
     by_cases h:a∈l <;>simp[l4,h]
    have dE:(xs.map dI).set i (.v (.int .i64 a))=(xs.set i a).map dI:=(List.map_set (f:=dI)).symm
    simp(maxDischargeDepth:=12) (maxSteps:=1000000) -implicitDefEqProofs only[go_sem,Nat.reduceAdd,Nat.reduceSub,Nat.reduceMul,Nat.reduceLeDiff,Nat.reduceEqDiff,Nat.reduceGT,Nat.reduceBEq,reduceCtorEq,↓reduceIte,Int.reduceToNat,Int.reduceLE,Int.reduceLT,Int.reduceNe,Int.reduceEq,hb,dE]
    have hj':IntKind.i64.wrap ((j:Int)+1)=((j+1:Nat):Int):=by rw[aX (by omega) (by omega)];omega
    have hi':IntKind.i64.wrap ((i:Int)+1)=((i+1:Nat):Int):=by rw[aX (by omega) (by omega)];omega
    refine⟨fun hni=>⟨by omega,by omega,fun _ _=>⟨(i+1,j+1,xs.set i a),⟨by simp only;omega,by simp only;omega,by simp,?_,fun x hx=>?_⟩,by simp only;omega,⟨hi',hj'⟩,.refl _⟩⟩,fun hin=>⟨(i,j+1,xs),⟨by simp only;omega,by simp only;omega,rfl,?_,fun x hx=>k5 x (by simp only at hx;omega)⟩,by simp only;omega,⟨rfl,hj'⟩,.refl _⟩⟩
    ·simp only
     rw[hfj,if_neg hni,←k4,List.take_add_one,List.getElem?_set_self (by omega),List.take_set_of_le (Nat.le_refl _)];rfl
    ·simp only at hx ⊢
     rw[List.getElem?_set_ne (by omega)]
     exact k5 x (by omega)
    ·simp only
     rw[hfj,if_pos (Decidable.not_not.1 hin),List.append_nil,k4]
   ·have hjn:j=xs.length:=by omega
    have hfin:xs.take i=gg l zs:=by rw[k4,hjn,k3,List.take_length]
    have hfl:(gg l zs).length=i:=by rw[←hfin,List.length_take];omega
    refine Ug (l:=m.n) (k:=i) (xs:=xs.map dI) ty.k37 ty.z3 (by simp[rc]) rfl (by simp(maxDischargeDepth:=12) (maxSteps:=1000000) -implicitDefEqProofs only[go_sem,Nat.reduceAdd,Nat.reduceSub,Nat.reduceMul,Nat.reduceLeDiff,Nat.reduceEqDiff,Nat.reduceGT,Nat.reduceBEq,reduceCtorEq,↓reduceIte,Int.reduceToNat,Int.reduceLE,Int.reduceLT,Int.reduceNe,Int.reduceEq]) (by rw[List.length_map];omega) rfl (by simp[rc]) (by simp[rc]) (by simp[rc]) fun v u=>?_
    simp(maxDischargeDepth:=12) (maxSteps:=1000000) -implicitDefEqProofs only[go_sem,Nat.reduceAdd,Nat.reduceSub,Nat.reduceMul,Nat.reduceLeDiff,Nat.reduceEqDiff,Nat.reduceGT,Nat.reduceBEq,reduceCtorEq,↓reduceIte,Int.reduceToNat,Int.reduceLE,Int.reduceLT,Int.reduceNe,Int.reduceEq,hb,List.length_map]
    have hT:((xs.take i).map dI++List.replicate (xs.length-i) (DV.v (.int .i64 0))).take i=(gg l zs).map dI:=by
     rw[List.take_append_of_le_length (by rw[List.length_map,List.length_take];omega),List.take_of_length_le (by rw[List.length_map,List.length_take];omega),hfin]
    refine .inl ⟨.inr (by omega),⟨_,_,_,rfl⟩,by rw[List.length_replicate];omega,fun m'=>⟨⟨m'.n,m'.h.2.2⟩,by rw[hfl];rfl,?_⟩⟩
    rw[hT]
    first|done|rfl
theorem vO{X T:St}(h:Has X T){b:Nat}(hb:lk T.box b=none)(ds:List DV){A:List (Nat×Ob)}(hA:A=T.acc):Has X ⟨(b,ds)::T.box,A⟩:=⟨fun c x hc=>by
 have:=h.box c x hc
 simp only[lk]
 rw[if_neg (fun e=>by rw[e,this]at hb;cases hb)];exact this,by subst hA;exact h.acc⟩
theorem zG{X T T':St}(h:Kp X T T'){b:Nat}(hb:lk T'.box b=none)(ds:List DV){A:List (Nat×Ob)}(hA:A=T'.acc):Kp X T ⟨(b,ds)::T'.box,A⟩:=⟨fun c x hc hx=>by
 have:=h.box c x hc hx
 simp only[lk]
 rw[if_neg (fun e=>by rw[e,this]at hb;cases hb)];exact this,by subst hA;exact h.acc⟩
theorem sI{L:List (Nat×List DV)}{b c:Nat}(v:List DV)(h:lk L c=none):lk (up L b v) c=none:=by
 rw[Rc];split <;>simp[h]
def oh(l:List N):Nat:=(l.map dG).sum
theorem G4(l:List N)(x:N):oh (l++[x])=oh l+dG x:=by simp[oh]
theorem Kx{l m:List N}(h:l <+: m):oh l≤oh m:=by
 obtain⟨t,rfl⟩:=h
 simp[oh]
theorem AH(n:N)(l:List C):oh (gS n l)=eJ (n,l):=by
 unfold oh gS eJ p7
 simp[List.map_map,Function.comp_def]
theorem pf{k:Nat}{n:N}{l:List C}(h:VI k n l)(hk:k≤116):∀x,x∈gS n l→CL x∧dG x≤70000∧(iV x).length≤70000:=fun x hx=>by
 have hx:TB k x:=by
  unfold gS at hx
  rcases List.mem_cons.1 hx with rfl|hx
  ·exact h.dir
  ·obtain⟨c,hc,rfl⟩:=List.mem_map.1 hx
   exact(h.cell c hc).2.1
 obtain⟨hr,d,hg,hd,ht⟩:=hx
 have h1:=Lj (az hg)
 have h2:=CA qC (az hg)
 exact⟨⟨d,az hg,by omega⟩,by omega,by unfold iV;rw[bc];omega⟩
theorem FD:∀{l:List N},(∀x,x∈l→dG x≤70000)→oh l≤70000*l.length:=fun{l}=>by
 induction l with
 |nil=>intro _;exact Nat.zero_le _
 |cons c l ih=>
  intro h
  have h1:=ih fun c hc=>h c (List.mem_cons_of_mem _ hc)
  have h2:=h c List.mem_cons_self
  unfold oh at h1 ⊢
  rw[List.map_cons,List.sum_cons,List.length_cons];omega
theorem vB:∀{l:List N},(∀x,x∈l→(iV x).length≤70000)→(flat (l.map iV)).length≤70000*l.length:=fun{l}=>by
 induction l with
 |nil=>intro _;exact Nat.zero_le _
 |cons c l ih=>
  intro h
  have h1:=ih fun c hc=>h c (List.mem_cons_of_mem _ hc)
  have h2:=h c List.mem_cons_self
  unfold flat at h1 ⊢
  rw[List.map_cons,List.flatten_cons,List.length_append,List.length_cons];omega
theorem sF(n:N)(l:List C):(gS n l).length=l.length+1:=by unfold gS;rw[List.length_cons,List.length_map]
theorem uK(w0:W0)(k:Nat)(n:N)(l:List C)(S:St)(h:VI k n l)(hk:k≤116):aa Tryz.prog w0 129 [eV n l] S (fun d S'=>d=dI (eJ (n,l))∧S'=S):=by
 have hln:=h.len
 have htf:=pf h hk
 have hsl:=FD (l:=gS n l) fun x hx=>(htf x hx).2.1
 rw[sF]at hsl
 have htre:=MO w0 n l
 have hit:=fun w1 y b2 X=>QS w1 y b2 n l X (by omega)
 rw[←AH]
 refine aZ [] mx Tryz.func129 rfl rfl (by kernel_rfl) ?_;(refine @ab _ ?_;refine an @Tryz.ntmps129 ?_)
 intro b b1
 refine bA (htre _) ?_
 rintro d S' ⟨b3,rfl,rfl⟩
 generalize gS n l=V at*
 generalize Hx n l=R at*
 (refine @ab _ ?_;refine au ?_)
 refine qp [] (fun pre=>⟨(b3.n,R)::(b1.n,[dI (oh pre)])::(b.n,[dI n.aq,dB n.leaf,.sl 1 false (n.l.map fun c=>dS c.key),.sl 2 false ((if n.leaf then n.l else []).map fS),.sl 5 false ((aN n).map dT),.sl 6 false (l.map lP)])::S.box,S.acc⟩) (fun x=>[eT x]) V mx (by kernel_rfl) rfl rfl rfl (fun _=>rfl) (fun _=>rfl) (fun _=>rfl) ?_ ?_ ?_
 ·intro y w1 hy T hT
  exact hit w1 y b3.n _ (fun _=>by(refine @ab _ ?_;exact aV)) hy T hT
 ·intro pre x T hp hT
  have t1:lk T.box b1.n=some [dI (oh pre)]:=hT.box _ _ (by(refine @ab _ ?_;exact aV))
  have hxV:x∈V:=by obtain⟨t,ht⟩:=hp;rw[←ht];simp
  have hfr:=G4 pre x
  have hfp:=Kx hp
  obtain⟨hfx,hf1,_⟩:=htf x hxV
  have hH:∀v,v=(oh (pre++[x]):Int)→Has _ ⟨up T.box b1.n [dI v],T.acc⟩:=fun v hv=>by rw[hv];exact xJ hT _
  have hu:∀v:Int,up ((b3.n,R)::(b1.n,[dI (oh pre)])::(b.n,[dI n.aq,dB n.leaf,.sl 1 false (n.l.map fun c=>dS c.key),.sl 2 false ((if n.leaf then n.l else []).map fS),.sl 5 false ((aN n).map dT),.sl 6 false (l.map lP)])::S.box) b1.n [dI v]=(b3.n,R)::(b1.n,[dI v])::(b.n,[dI n.aq,dB n.leaf,.sl 1 false (n.l.map fun c=>dS c.key),.sl 2 false ((if n.leaf then n.l else []).map fS),.sl 5 false ((aN n).map dT),.sl 6 false (l.map lP)])::S.box:=fun v=>by(refine @ab _ ?_;exact aV)
  have hK:∀v,Kp ⟨(b3.n,R)::(b1.n,[dI (oh pre)])::(b.n,[dI n.aq,dB n.leaf,.sl 1 false (n.l.map fun c=>dS c.key),.sl 2 false ((if n.leaf then n.l else []).map fS),.sl 5 false ((aN n).map dT),.sl 6 false (l.map lP)])::S.box,S.acc⟩ T ⟨up T.box b1.n v,T.acc⟩:=fun v=>Kp.up (by(refine @ab _ ?_;exact aV))
  simp only[hu]at hH
  simp only[ji]
  (refine @ab _ ?_;refine an @t1 ?_)
  intro b5
  have hb5:¬b5.n=b1.n:=fun e=>by have:=jt b5;rw[e,t1]at this;cases this
  refine aS (MF w0 x _ hfx) ?_
  (refine @ab _ ?_;refine ba @t1 @hb5 ?_)
  exact⟨vO (hH _ (by rw[aX (by omega) (by omega)];omega)) (sI _ (jt b5)) _ rfl,zG (hK _) (sI _ (jt b5)) _ rfl⟩
 ·(refine @ab _ ?_;exact aV)
def cu(n:N)(l:List C):List Int:=dh (flat ((gS n l).map iV))
theorem HH(w0:W0)(rows:List (List Int))(S:St)(h0:rows.length≤1099511627776)(h1:(flat rows).length≤1099511627776):
 aa Tryz.prog w0 99 [.sl 1 false (rows.map dL)] S (fun d S'=>∃m:FN S.acc,d= .acc m.n (flat rows).length∧S'=⟨S.box,(m.n,.arr 1 ((dh (flat rows)).map dI))::S.acc⟩):=by
 refine vF [] mx Tryz.func99 rfl rfl (by kernel_rfl) ?_;(refine @ab _ ?_;refine an @Tryz.ntmps99 ?_)
 refine bA (concat w0 rows S h0 h1) ?_
 rintro d S' ⟨l,rfl,rfl⟩
 (refine @ab _ ?_;refine au ?_)
 refine .inl (bA (mS w0 (l:=l.n) (zs:=flat rows) (S:=⟨S.box,(l.n,.arr 1 ((flat rows).map dI))::S.acc⟩) (by simp[lk]) (by omega)) ?_)
 rintro d S' ⟨rfl,rfl⟩
 (refine @ab _ ?_;refine au ?_)
 exact⟨_,_,.refl _,.refl _,l,rfl,rfl⟩
theorem oN(w0:W0)(k:Nat)(n:N)(l:List C)(S:St)(h:VI k n l)(hk:k≤116):aa Tryz.prog w0 49 [eV n l] S (fun d S'=>∃m:FN S.acc,d= .acc m.n (flat ((gS n l).map iV)).length∧S'=⟨S.box,(m.n,.arr 1 ((cu n l).map dI))::S.acc⟩):=by
 have hln:=h.len
 have htf:=pf h hk
 have hfl:=vB (l:=gS n l) fun x hx=>(htf x hx).2.2
 have hVl:=sF n l
 rw[hVl]at hfl
 have htre:=MO w0 n l
 have hit:=fun w1 y b2 X=>QS w1 y b2 n l X (by omega)
 have htg:=fun S=>HH w0 ((gS n l).map iV) S (by rw[List.length_map,hVl];omega) (by omega)
 unfold cu
 refine vF [] mx Tryz.func49 rfl rfl (by kernel_rfl) ?_;(refine @ab _ ?_;refine an @Tryz.ntmps49 ?_)
 intro b b1
 refine bA (htre _) ?_
 rintro d S' ⟨b3,rfl,rfl⟩
 generalize gS n l=V at*
 generalize Hx n l=R at*
 (refine @ab _ ?_;refine au ?_)
 refine ib b1.n 0 1 (by omega) (ds:=[.sl 0 true []]) (by(refine @ab _ ?_;exact aV)) rfl fun lb=>?_
 (refine @ab _ ?_;refine au ?_)
 refine qp [] (fun pre=>⟨(b3.n,R)::(b1.n,[.acc lb.n pre.length])::(b.n,[dI n.aq,dB n.leaf,.sl 1 false (n.l.map fun c=>dS c.key),.sl 2 false ((if n.leaf then n.l else []).map fS),.sl 5 false ((aN n).map dT),.sl 6 false (l.map lP)])::S.box,(lb.n,.arr 1 ((pre.map iV).map dL))::S.acc⟩) (fun x=>[eT x]) V mx (by kernel_rfl) rfl rfl rfl (fun _=>rfl) (fun _=>rfl) (fun _=>rfl) ?_ ?_ ?_
 ·intro y w1 hy T hT
  exact hit w1 y b3.n _ (fun _=>by(refine @ab _ ?_;exact aV)) hy T hT
 ·intro pre x T hp hT
  have t1:lk T.box b1.n=some [.acc lb.n pre.length]:=hT.box _ _ (by(refine @ab _ ?_;exact aV))
  have u1:lk T.acc lb.n=some (.arr 1 ((pre.map iV).map dL)):=hT.acc _ _ (by(refine @ab _ ?_;exact aV))
  have hxV:x∈V:=by obtain⟨t,ht⟩:=hp;rw[←ht];simp
  have hpl:=hp.length_le
  rw[List.length_append]at hpl
  obtain⟨hfx,_,hf1⟩:=htf x hxV
  have hH:∀q:List N,q=pre++[x]→Has _ ⟨up T.box b1.n [.acc lb.n q.length],up T.acc lb.n (.arr 1 ((q.map iV).map dL))⟩:=fun v hv=>by rw[hv];exact Bn hT _ _
  have hu:∀(q:List N),(⟨up ((b3.n,R)::(b1.n,[.acc lb.n pre.length])::(b.n,[dI n.aq,dB n.leaf,.sl 1 false (n.l.map fun c=>dS c.key),.sl 2 false ((if n.leaf then n.l else []).map fS),.sl 5 false ((aN n).map dT),.sl 6 false (l.map lP)])::S.box) b1.n [.acc lb.n q.length],up ((lb.n,.arr 1 ((pre.map iV).map dL))::S.acc) lb.n (.arr 1 ((q.map iV).map dL))⟩:St)=⟨(b3.n,R)::(b1.n,[.acc lb.n q.length])::(b.n,[dI n.aq,dB n.leaf,.sl 1 false (n.l.map fun c=>dS c.key),.sl 2 false ((if n.leaf then n.l else []).map fS),.sl 5 false ((aN n).map dT),.sl 6 false (l.map lP)])::S.box,(lb.n,.arr 1 ((q.map iV).map dL))::S.acc⟩:=fun v=>by(refine @ab _ ?_;exact aV)
  have hK:∀v o,Kp ⟨(b3.n,R)::(b1.n,[.acc lb.n pre.length])::(b.n,[dI n.aq,dB n.leaf,.sl 1 false (n.l.map fun c=>dS c.key),.sl 2 false ((if n.leaf then n.l else []).map fS),.sl 5 false ((aN n).map dT),.sl 6 false (l.map lP)])::S.box,(lb.n,.arr 1 ((pre.map iV).map dL))::S.acc⟩ T ⟨up T.box b1.n v,up T.acc lb.n o⟩:=fun v o=>Kr (by(refine @ab _ ?_;exact aV)) (by(refine @ab _ ?_;exact aV))
  simp only[hu]at hH
  simp only[ji]
  (refine @ab _ ?_;refine ba @t1 @u1 ?_)
  intro b5
  have hb5:¬b5.n=b1.n:=fun e=>by have:=jt b5;rw[e,t1]at this;cases this
  have hm8:maxLen=9223372036854775807:=rfl
  refine aS (Kv w0 x _ hfx) ?_
  (refine @ab _ ?_;refine eW @t1 @u1 @hb5 ?_)
  have hQ:=hH (pre++[x]) rfl
  rw[List.length_append,List.length_cons,List.length_nil,List.map_append,List.map_append,List.map_cons,List.map_nil,List.map_cons,List.map_nil]at hQ
  refine⟨by omega,by omega,?_,zG (hK _ _) (sI _ (jt b5)) _ rfl⟩
  rw[List.map_append,List.map_append,List.map_cons,List.map_nil,List.map_cons,List.map_nil]
  exact vO hQ (sI _ (jt b5)) _ rfl
 ·(refine @ab _ ?_;refine au ?_)
  refine .inr (bA (htg _) ?_ ⟨.full _ _ _,trivial⟩)
  rintro d S' ⟨m,rfl,rfl⟩
  (refine @ab _ ?_;refine au ?_)
  exact⟨_,_,.refl _,.bu (.bu (.bu (.Rq (.pr (.refl _))))),⟨m.n,m.h.2.2⟩,rfl,rfl⟩
theorem tW{k:Nat}{n:N}{l:List C}(h:VI k n l)(hk:k≤116):(cu n l).length=(flat ((gS n l).map iV)).length∧(cu n l).length≤70000*117:=by
 have hln:=h.len
 have hfl:=vB (l:=gS n l) fun x hx=>(pf h hk x hx).2.2
 rw[sF]at hfl
 have:=bc (flat ((gS n l).map iV))
 unfold cu
 exact⟨this,by omega⟩
theorem NC(n:N)(l:List C):Up (cu n l):=S5 _
theorem vD(w0:W0)(k:Nat)(n:N)(l:List C)(m:N)(q:List C)(S:St)(ha:VI k n l)(hb:VI k m q)(hk:k≤116):aa Tryz.prog w0 131 [eV n l,eV m q] S (fun d S'=>d=dL (gg (cu m q) (cu n l))∧S'=S):=by
 have hpa:=fun S=>oN w0 k n l S ha hk
 have hpb:=fun S=>oN w0 k m q S hb hk
 obtain⟨la,la2⟩:=tW ha hk
 obtain⟨lb,lb2⟩:=tW hb hk
 rw[←la]at hpa
 rw[←lb]at hpb
 have hub:=NC m q
 generalize cu n l=A at*
 generalize cu m q=B at*
 refine aZ [2] mx Tryz.func131 rfl rfl (by kernel_rfl) ?_;(refine @ab _ ?_;refine an @Tryz.ntmps131 ?_)
 intro b1 b2
 refine bA (hpb _) ?_
 rintro d S' ⟨m,rfl,rfl⟩
 (refine @ab _ ?_;refine au ?_)
 intro b3
 refine Me b3.n 0 (l:=m.n) (s:=1) (xs:=B.map dI) (ds:=[.acc m.n B.length]) (by(refine @ab _ ?_;exact aV)) (by simp) (by(refine @ab _ ?_;exact aV)) ?_
 (refine @ab _ ?_;refine au ?_)
 refine lE [] [] mx (by kernel_rfl) ?_
 (refine @ab _ ?_;refine au ?_)
 refine bA (hpa _) ?_
 rintro d S' ⟨m2,rfl,rfl⟩
 (refine @ab _ ?_;refine au ?_)
 refine .inl (bA (OL w0 b3.n B A _ _ m2 (by(refine @ab _ ?_;exact aV)) hub (by omega) (by omega)) ?_)
 rintro d S' ⟨m3,rfl,rfl⟩
 (refine @ab _ ?_;exact aV)
def rZ(f w k:Nat):Bool:=decide ((f-k+w+58)/59≤k)
def oY(f w:Nat):Nat:=(List.range (f+w+1)).findIdx (rZ f w)
theorem Ou(f w:Nat):rZ f w (f+w)=true:=by unfold rZ;simp;omega
theorem yc(f w:Nat):oY f w<f+w+1:=by
 have:=List.findIdx_lt_length_of_exists (xs:=List.range (f+w+1)) (p:=rZ f w) ⟨f+w,List.mem_range.2 (by omega),Ou f w⟩
 rwa [List.length_range]at this
theorem LI(f w:Nat):rZ f w (oY f w)=true:=by
 have h:=yc f w
 have:=List.findIdx_getElem (xs:=List.range (f+w+1)) (p:=rZ f w) (w:=by rw[List.length_range];exact h)
 rwa [List.getElem_range]at this
theorem Ks{f w k:Nat}(h:k<oY f w):rZ f w k=false:=by
 have h2:=yc f w
 have:=List.not_of_lt_findIdx (xs:=List.range (f+w+1)) (p:=rZ f w) h
 rw[List.getElem_range]at this
 simpa using this
theorem TA{f w k:Nat}(h:rZ f w k=true):oY f w≤k:=by
 rcases Nat.lt_or_ge k (oY f w)with h1|h1
 ·rw[Ks h1]at h;cases h
 ·exact h1
theorem vP(w0:W0)(n:Nat)(S:St)(h:n≤1099511627776):aa Tryz.prog w0 186 [dI n] S (fun d S'=>d=dI ((n+58)/59:Nat)∧S'=S):=by
 refine aZ [] mx Tryz.func186 rfl rfl (by kernel_rfl) ?_;(refine @ab _ ?_;refine an @Tryz.ntmps186 ?_)
 refine⟨fun h1=>by omega,fun h1=>?_⟩
 have e1:IntKind.i64.wrap ((n:Int)-1)=((n-1:Nat):Int):=by rw[aX (by omega) (by omega)];omega
 have e2:((n-1:Nat):Int).tdiv 59=((n-1)/59:Nat):=rfl
 have e3:IntKind.i64.wrap (((n-1)/59:Nat):Int)=(((n-1)/59:Nat):Int):=aX (by omega) (by omega)
 rw[e1,e2,e3,aX (by omega) (by omega)]
 omega
theorem Bx(w0:W0)(a b:Int)(S:St)(h1: -1099511627776≤a)(h2:a≤274877906944)(h3: -1099511627776≤b)(h4:b≤274877906944):aa Tryz.prog w0 133 [dI a,dI b] S (fun d S'=>d=dI (oY a.toNat b.toNat)∧S'=S):=by
 have e1:(if a<0 then 0 else a)=(a.toNat:Int):=by split <;>omega
 have e2:(if b<0 then 0 else b)=(b.toNat:Int):=by split <;>omega
 have hN:=fun n h S=>vP w0 n S h
 have hl:=yc a.toNat b.toNat
 have his:=LI a.toNat b.toNat
 have hno:=fun k=>Ks (f:=a.toNat) (w:=b.toNat) (k:=k)
 have hle:=fun k=>TA (f:=a.toNat) (w:=b.toNat) (k:=k)
 have ha:a.toNat≤274877906944:=by omega
 have hb:b.toNat≤274877906944:=by omega
 refine aZ [] mx Tryz.func133 rfl rfl (by kernel_rfl) ?_;(refine @ab _ ?_;refine eW @Tryz.ntmps133 @e1 @e2 ?_)
 generalize oY a.toNat b.toNat=o at*
 generalize a.toNat=f at*
 generalize b.toNat=w at*
 refine jR [] [0,1,5] (fun k:Nat=>[(0,dI f),(1,dI w),(5,dI k)]) (fun _=>S) (fun k=>k≤o) (fun k=>f+w+1-k) 0 mx (by kernel_rfl) ?_ ?_
 ·(refine @ab _ ?_;refine au ?_)
  exact Nat.zero_le _
 ·intro k hk
  have e3:IntKind.i64.wrap ((f:Int)-k)=(f:Int)-k:=aX (by omega) (by omega)
  have e4:(if(f:Int)-k<0 then 0 else(f:Int)-k)=((f-k:Nat):Int):=by split <;>omega
  have e5:IntKind.i64.wrap (((f-k:Nat):Int)+w)=((f-k+w:Nat):Int):=by rw[aX (by omega) (by omega)];omega
  (refine @ab _ ?_;refine eW @e3 @e4 @e5 ?_)
  refine ao (hN (f-k+w) (by omega) _) ?_
  (refine @ab _ ?_;refine au ?_)
  refine⟨fun hy=>?_,fun hn=>?_⟩
  ·have:=hle k (by unfold rZ;rw[decide_eq_true_eq];omega)
   omega
  ·refine⟨k+1,?_,by omega,cm k (by omega)⟩
   rcases Nat.lt_or_ge k o with h5|h5
   ·exact h5
   ·have:k=o:=by omega
    subst this
    unfold rZ at his
    rw[decide_eq_true_eq]at his
    omega
def mX(q:N×List C)(p:Pl)(b:Nat):Nat:=eJ q+oY (p.free.length-eJ q) (nW p.wait+b)
theorem RJ{k:Nat}{n:N}{l:List C}(h:VI k n l)(hk:k≤116):eJ (n,l)≤70000*117:=by
 have hln:=h.len
 have hsl:=FD (l:=gS n l) fun x hx=>(pf h hk x hx).2.1
 rw[sF,AH]at hsl
 omega
theorem Hc(w0:W0)(k:Nat)(n:N)(l:List C)(p:Pl)(c:Nat)(S:St)(h:VI k n l)(hk:k≤116)(hf:p.free.length≤500000)(hw:p.wait.length≤500000)(hn:nW p.wait+c≤100000000):aa Tryz.prog w0 177 [eV n l,dP p,dI c] S (fun d S'=>d=dI (mX (n,l) p c)∧S'=S):=by
 have hfr:=fun S=>uK w0 k n l S h hk
 have hwt:=fun S=>waiting w0 p S (by omega) (by omega)
 have hfl:=RJ h hk
 have hol:=yc (p.free.length-eJ (n,l)) (nW p.wait+c)
 have how:=fun S=>Bx w0 ((p.free.length:Int)-eJ (n,l)) ((nW p.wait+c:Nat):Int) S (by omega) (by omega) (by omega) (by omega)
 have e1:((p.free.length:Int)-eJ (n,l)).toNat=p.free.length-eJ (n,l):=by omega
 rw[e1,Int.toNat_natCast]at how
 have hdef:mX (n,l) p c=eJ (n,l)+oY (p.free.length-eJ (n,l)) (nW p.wait+c):=rfl
 rw[hdef]
 generalize eJ (n,l)=F at*
 have e2:IntKind.i64.wrap ((p.free.length:Int)-F)=(p.free.length:Int)-F:=aX (by omega) (by omega)
 have e3:IntKind.i64.wrap ((nW p.wait:Int)+c)=((nW p.wait+c:Nat):Int):=by rw[aX (by omega) (by omega)];omega
 refine aZ [] mx Tryz.func177 rfl rfl (by kernel_rfl) ?_;(refine @ab _ ?_;refine an @Tryz.ntmps177 ?_)
 intro b1 b2
 refine ao (hfr _) ?_
 (refine @ab _ ?_;refine au ?_)
 refine aS (hwt _) ?_
 (refine @ab _ ?_;refine ba @e2 @e3 ?_)
 refine aS (how _) ?_
 (refine @ab _ ?_;refine au ?_)
 rw[aX (by omega) (by omega)];omega
theorem wj(w0:W0)(k:Nat)(m:N)(q:List C)(n:N)(l:List C)(o:List Int)(p:Pl)(t:Int)(S:St)(h0:VI k m q)(h:VI k n l)(hk:k≤116)(hf:p.free.length≤500000)(hw:p.wait.length≤500000)(hn:nW p.wait+((gg (cu n l) (cu m q)).length+o.length)≤100000000)
 (h1: -1099511627776≤p.high) (h2:p.high≤1099511627776) (h3: -1099511627776≤t) (h4:t≤1099511627776):aa Tryz.prog w0 127 [eV m q,eV n l,dL o,dP p,dI t] S (fun d S'=>d=dB (decide ((mX (n,l) p ((gg (cu n l) (cu m q)).length+o.length):Int)≤du p t))∧S'=S):=by
 have hlo:=fun S=>vD w0 k m q n l S h0 h hk
 have hne:=fun S=>Hc w0 k n l p ((gg (cu n l) (cu m q)).length+o.length) S h hk hf hw hn
 have hro:=fun S=>room w0 p t S (by omega) h1 h2 h3 h4
 generalize gg (cu n l) (cu m q)=L at*
 generalize mX (n,l) p (L.length+o.length)=Z at*
 have e3:IntKind.i64.wrap ((L.length:Int)+o.length)=((L.length+o.length:Nat):Int):=by rw[aX (by omega) (by omega)];omega
 refine aZ [] mx Tryz.func127 rfl rfl (by kernel_rfl) ?_;(refine @ab _ ?_;refine an @Tryz.ntmps127 ?_)
 intro b1 b2 b3
 refine aS (hlo _) ?_
 (refine @ab _ ?_;refine an @e3 ?_)
 refine aS (hne _) ?_
 (refine @ab _ ?_;refine au ?_)
 refine aS (hro _) ?_
 (refine @ab _ ?_;exact aV)
theorem CF(w0:W0)(k:Nat)(n:N)(l:List C)(S:St)(h:VI k n l)(hk:k≤116):aa Tryz.prog w0 49 [eV n l] S (fun d S'=>d=dL (cu n l)∧S'=S):=by
 have hl:=(tW h hk).1
 refine EN ((oN w0 k n l S h hk).mono (K':=fun d S'=>oC S' d fun d S''=>Wk d (dL (cu n l))∧Aml.Sub S S'') ?_)
 rw[←hl]
 generalize cu n l=P
 rintro d S' ⟨m,rfl,rfl⟩
 (refine @ab _ ?_;exact aV)
structure Zt where
 label:Int
 bE:Int
 root:Int
 nT:Int
 high:Int
 n:N
 l:List C
 own:List Int
 p:Pl
def dE(L:List Int):Nat→Bool:=fun i=>decide ((i:Int)∈L)
structure ZI(k:Nat)(z:Zt):Prop where
 vi:VI k z.n z.l
 tv:TV (z.n,z.l)
 fr:eJ (z.n,z.l)=0
 cl:kq (zA z.l) z.n
 nd:(gO (z.n,z.l)++z.own).Nodup
 re:∀x,x∈gO (z.n,z.l)++z.own→2≤x∧x<z.p.high
 keep:og 1000 z.p (dE (gO (z.n,z.l)++z.own)) (z.bE+1)
 high:z.high=z.p.high
 root:z.root=z.n.aq
 bE:0≤z.bE∧z.bE≤k
 label:0≤z.label∧z.label≤63
structure ZV(k:Nat)(z:Zt)(n:N)(l:List C):Prop where
 vi:VI k n l
 tv:TV (n,l)
 cl:kq (zA l) n
 sub:∀p,(gO (n,l)).count p≤(gO (z.n,z.l)).count p
theorem ZI.zv{k:Nat}{z:Zt}(h:ZI k z):ZV k z z.n z.l:=⟨h.vi,h.tv,h.cl,fun _=>Nat.le_refl _⟩
theorem ZV.mem{k:Nat}{z:Zt}{n:N}{l:List C}(h:ZV k z n l){p:Int}(hp:p∈gO (n,l)):p∈gO (z.n,z.l):=
 List.count_pos_iff.1 (Nat.lt_of_lt_of_le (List.count_pos_iff.2 hp) (h.sub p))
theorem ZV.nd{k j:Nat}{z:Zt}{n:N}{l:List C}(h:ZV k z n l)(hz:ZI j z):(gO (n,l)).Nodup:=
 List.nodup_iff_count.2 fun p=>Nat.le_trans (h.sub p) (List.nodup_iff_count.1 (List.nodup_append.1 hz.nd).1 p)
theorem wJ{k:Nat}{n:N}{l:List C}(h:VI k n l):(cu n l).Perm (gO (n,l)):=by
 have h1:∀V:List N,(∀x,x∈V→∃d,Nd d x)→(flat (V.map iV)).Perm (V.flatMap cf):=fun V=>by
  induction V with
  |nil=>intro _;exact .refl _
  |cons a V ih=>
   intro hV
   obtain⟨d,hd⟩:=hV a List.mem_cons_self
   have:=ih fun x hx=>hV x (List.mem_cons_of_mem _ hx)
   unfold flat at this ⊢
   rw[List.map_cons,List.flatten_cons,List.flatMap_cons,Ka hd]
   exact(bN _).append this
 have h2:=h1 (gS n l) fun x hx=>by
  have hx:TB k x:=by
   unfold gS at hx
   rcases List.mem_cons.1 hx with rfl|hx
   ·exact h.dir
   ·obtain⟨c,hc,rfl⟩:=List.mem_map.1 hx
    exact(h.cell c hc).2.1
  obtain⟨_,d,hg,_⟩:=hx
  exact⟨d,az hg⟩
 have h3:(gS n l).flatMap cf=gO (n,l):=by
  unfold gS gO pZ
  rw[List.flatMap_cons,List.flatMap_map]
 rw[h3]at h2
 exact(bN _).trans h2
theorem su{A B:List Int}{p:Int}:p∈gg A B↔p∈B∧p∉A:=by
 unfold gg l4
 rw[List.mem_filter]
 simp
theorem Ij{A A' B:List Int}(h:∀p,p∈B→(p∈A↔p∈A')):gg A B=gg A' B:=by
 unfold gg l4
 refine List.filter_congr fun p hp=>?_
 rw[decide_eq_decide.2 (h p hp)]
theorem Uh{A B:List Int}(h:B.Nodup):(gg A B).Nodup:=List.Pairwise.sublist List.filter_sublist h
theorem Pr{k:Nat}{z:Zt}(h:ZI k z):(cu z.n z.l).Nodup:=(wJ h.vi).nodup_iff.2 (List.nodup_append.1 h.nd).1
def cg(z:Zt)(n:N)(l:List C):List Int:=gg (cu n l) (cu z.n z.l)++z.own
def mO(z:Zt)(n:N)(l:List C)(q:Int)(p:Pl):Prop:=(mX (n,l) p (cg z n l).length:Int)≤du p q
theorem sK{p:Pl}{q m:Int}(h:may p q m)(hq:q≤1000):may p 1000 m:=by
 unfold may du at*
 refine⟨h.1,Int.le_trans h.2 ?_⟩
 split <;>split <;>omega
theorem v7{p:Pl}{q m:Int}(h:may p q m):(take p m).high≤max p.high q∧p.high≤(take p m).high:=by
 unfold may du at h
 have hh:(take p m).high=p.high+((m.toNat-aY p m:Nat):Int):=rfl
 have ho:aY p m=min m.toNat p.free.length:=rfl
 rw[hh,ho]
 split at h <;>omega
theorem DS{p:Pl}{q m:Int}(h:may p q m):du (take p m) q=du p q-m:=by
 have h2:=h
 unfold may du at h
 unfold du
 have hh:(take p m).high=p.high+((m.toNat-aY p m:Nat):Int):=rfl
 have ho:aY p m=min m.toNat p.free.length:=rfl
 have hf:=mh p m
 rw[hf,hh,ho]
 split at h <;>split <;>omega
theorem Rh{k j:Nat}{z:Zt}{n:N}{l:List C}{p:Pl}(hz:ZI j z)(hv:ZV k z n l)(hk:og 1000 p (dE (gO (z.n,z.l)++z.own)) (z.bE+1))(hm:may p 1000 (eJ (n,l))):PV k n l (cX p (eJ (n,l))):=by
 obtain⟨t1,t2,t3⟩:=kU hk hm
 have hno:∀x,x∈cX p (eJ (n,l))→x∉gO (z.n,z.l)++z.own:=fun x hx hx2=>by
  obtain⟨a,b,c⟩:=t1 x hx
  unfold dE at c
  rw[decide_eq_false_iff_not,Int.toNat_of_nonneg (by omega)]at c
  exact c hx2
 refine⟨hv.vi,hv.tv,List.nodup_append.2 ⟨hv.nd hz,t2,fun a ha b hb e=>hno b hb (List.mem_append_left _ (e▸hv.mem ha))⟩,fun x hx=>?_,by rw[nj];omega,hv.cl⟩
 rcases List.mem_append.1 hx with hx|hx
 ·have:=hz.re x (List.mem_append_left _ (hv.mem hx))
  have:=hz.keep.qV.2.2.2.1
  omega
 ·have:=t1 x hx;omega
theorem EV{top:Nat}{p:Pl}{h h':Nat→Bool}{t:Int}(k:og top p h t)(e:∀i,h i=h' i):og top p h' t:=by
 rw[←funext e];exact k
theorem wL{p:Pl}{t:Int}{l:List Int}(h:∀w,w∈p.wait→w.bE<t):(mj p t l).free=p.free∧(mj p t l).high=p.high∧nW (mj p t l).wait=nW p.wait+l.length:=by
 by_cases hl:l=[]
 ·subst hl
  rw[show mj p t []=p from if_pos rfl]
  exact⟨rfl,rfl,rfl⟩
 ·rw[mC hl fun w hw e=>by have:=h w (List.mem_of_getElem? hw);omega]
  refine⟨rfl,rfl,?_⟩
  show nW (p.wait++[⟨t,dh l⟩])=_
  unfold nW
  rw[List.map_append,List.sum_append]
  simp[bc]
def nv(z:Zt)(n:N)(l:List C)(p:Pl):Pl:=mj (take p (eJ (n,l))) (z.bE+1) (cg z n l)
def vu(z:Zt)(n:N)(l:List C)(p:Pl):Nat:=oY (nv z n l p).free.length (nW (nv z n l p).wait)
def fy(z:Zt)(n:N)(l:List C)(p:Pl):List Int:=cX (nv z n l p) (vu z n l p)
def o6(z:Zt)(n:N)(l:List C)(p:Pl):Pl:=take (nv z n l p) (vu z n l p)
def lT(z:Zt)(n:N)(l:List C)(p:Pl)(M:N)(X:List C):Zt:=⟨z.label,z.bE+1,M.aq,(fy z n l p).headD 0,(o6 z n l p).high,M,X,fy z n l p,o6 z n l p⟩
structure PO(k:Nat)(z:Zt)(n:N)(l:List C)(q:Int)(p:Pl)(M:N)(X:List C):Prop where
 m1:may p q (eJ (n,l))
 back:cg z M X=cg z n l
 m2:may (nv z n l p) q (vu z n l p)
 zi:ZI (k+1) (lT z n l p M X)
 row:Row (listed (o6 z n l p)) 1000
 many:(listed (o6 z n l p)).length≤59*(fy z n l p).length
 nd:(fy z n l p).Nodup
 re:∀x,x∈fy z n l p→2≤x∧x≤999∧x∉listed (o6 z n l p)
 at_:∀x,x∈cX p (eJ (n,l))++fy z n l p→2≤x∧x<(o6 z n l p).high∧x∉gO (z.n,z.l)++z.own
 atn:(cX p (eJ (n,l))++fy z n l p).Nodup
 high:z.p.high≤(o6 z n l p).high∧(o6 z n l p).high≤max z.p.high q
theorem Po{k:Nat}{z:Zt}{n:N}{l:List C}{q:Int}{p:Pl}{M:N}{X:List C}{R:List Int}{W:List (Int×ByteArray)}(hz:ZI k z)(hv:ZV k z n l)(hk:og 1000 p (dE (gO (z.n,z.l)++z.own)) (z.bE+1))(hph:p.high=z.p.high)(hq:q≤1000)(hf:mO z n l q p)(ha:PA k n l (cX p (eJ (n,l))) M X R W):PO k z n l q p M X:=by
 have hfit:mX (n,l) p (cg z n l).length=eJ (n,l)+oY (p.free.length-eJ (n,l)) (nW p.wait+(cg z n l).length):=rfl
 have m1:may p q (eJ (n,l)):=by
  unfold mO at hf
  rw[hfit]at hf
  exact⟨by omega,by omega⟩
 have m1t:=sK m1 hq
 obtain⟨t1,t2,t3⟩:=kU hk m1t
 have hpv:=Rh hz hv hk m1t
 have htl:(cX p (eJ (n,l))).length=eJ (n,l):=by rw[nj];omega
 have hno:∀x,x∈cX p (eJ (n,l))→x∉gO (z.n,z.l)++z.own:=fun x hx hx2=>by
  obtain⟨a,b,c⟩:=t1 x hx
  unfold dE at c
  rw[decide_eq_false_iff_not,Int.toNat_of_nonneg (by omega)]at c
  exact c hx2
 have hal:∀x,x∈gO (M,X)↔x∈gO (n,l)∨x∈cX p (eJ (n,l)):=fun x=>by
  rw[ha.al.mem_iff,List.mem_append,List.take_of_length_le (by omega)]
 have hzp:∀x,x∈cu z.n z.l↔x∈gO (z.n,z.l):=fun x=>(wJ hz.vi).mem_iff
 have hnp:∀x,x∈cu n l↔x∈gO (n,l):=fun x=>(wJ hv.vi).mem_iff
 have hMp:∀x,x∈cu M X↔x∈gO (M,X):=fun x=>(wJ ha.vi).mem_iff
 have hback:cg z M X=cg z n l:=by
  unfold cg
  rw[Ij fun x hx=>?_]
  rw[hMp,hnp,hal]
  exact⟨fun e=>e.resolve_right fun e=>hno x e (List.mem_append_left _ ((hzp x).1 hx)),.inl⟩
 have hB:∀x,x∈cg z n l→x∈gO (z.n,z.l)++z.own:=fun x hx=>by
  unfold cg at hx
  rcases List.mem_append.1 hx with hx|hx
  ·exact List.mem_append_left _ ((hzp x).1 (su.1 hx).1)
  ·exact List.mem_append_right _ hx
 have hdis:=(List.nodup_append.1 hz.nd).2.2
 have hBn:(cg z n l).Nodup:=by
  unfold cg
  refine List.nodup_append.2 ⟨Uh (Pr hz),(List.nodup_append.1 hz.nd).2.1,fun a ha b hb e=>hdis a ((hzp a).1 (su.1 ha).1) b hb e⟩
 have hold:=t3.old
 obtain⟨g1,g2,g3⟩:=wL (l:=cg z n l) hold
 have k3:=HJ t3 (l:=cg z n l) (fun x hx=>by
  have:=hz.re x (hB x hx)
  refine⟨by omega,?_⟩
  unfold marks dE
  rw[Bool.or_eq_true,decide_eq_true_eq,Int.toNat_of_nonneg (by omega)]
  exact .inl (hB x hx)) hBn
 have e3:mj (take p (eJ (n,l))) (z.bE+1) (cg z n l)=nv z n l p:=rfl
 rw[e3]at g1 g2 g3 k3
 have hroom:=DS m1
 have hm2:may (nv z n l p) q (vu z n l p):=by
  refine⟨by omega,?_⟩
  have e1:du (nv z n l p) q=du (take p (eJ (n,l))) q:=by unfold du;rw[g1,g2]
  have e2:vu z n l p=oY (p.free.length-eJ (n,l)) (nW p.wait+(cg z n l).length):=by
   unfold vu
   rw[g3,g1,mh]
   have:(take p (eJ (n,l))).wait=p.wait:=rfl
   rw[this]
   congr 1
   have:aY p (eJ (n,l))=min (eJ (n,l)) p.free.length:=by unfold aY;rw[Int.toNat_natCast]
   omega
  unfold mO at hf
  rw[hfit]at hf
  rw[e1,hroom,e2]
  omega
 have m2t:=sK hm2 hq
 obtain⟨u1,u2,u3⟩:=kU k3 m2t
 have ho1:cX (nv z n l p) (vu z n l p)=fy z n l p:=rfl
 have ho2:take (nv z n l p) (vu z n l p)=o6 z n l p:=rfl
 rw[ho1]at u1 u2 u3
 rw[ho2]at u3
 have hset3:∀i:Nat,(marks (dE (gO (z.n,z.l)++z.own)) (cX p (eJ (n,l))) i&&!decide ((i:Int)∈cg z n l))=decide ((i:Int)∈gO (M,X)):=fun i=>by
  have:((i:Int)∈gO (z.n,z.l)++z.own∨(i:Int)∈cX p (eJ (n,l)))∧¬(i:Int)∈cg z n l↔(i:Int)∈gO (M,X):=by
   rw[hal]
   constructor
   ·rintro⟨h1|h1,h2⟩
    ·unfold cg at h2
     rw[List.mem_append,su]at h2
     rcases List.mem_append.1 h1 with h1|h1
     ·exact .inl ((hnp _).1 (Classical.byContradiction fun e=>h2 (.inl ⟨(hzp _).2 h1,e⟩)))
     ·exact absurd (.inr h1) h2
    ·exact .inr h1
   ·rintro(h1|h1)
    ·refine⟨.inl (List.mem_append_left _ (hv.mem h1)),fun h2=>?_⟩
     unfold cg at h2
     rw[List.mem_append,su]at h2
     rcases h2 with h2|h2
     ·exact h2.2 ((hnp _).2 h1)
     ·exact hdis _ (hv.mem h1) _ h2 rfl
    ·exact⟨.inr h1,fun h2=>hno _ h1 (hB _ h2)⟩
  unfold marks dE
  by_cases e:(i:Int)∈gO (M,X)
  ·obtain⟨e1,e2⟩:=this.2 e
   rw[decide_eq_true e,decide_eq_false e2,Bool.not_false,Bool.and_true,Bool.or_eq_true,decide_eq_true_eq,decide_eq_true_eq]
   exact e1
  ·rw[decide_eq_false e]
   cases h:((decide ((i:Int)∈gO (z.n,z.l)++z.own)||decide ((i:Int)∈cX p (eJ (n,l))))&&!decide ((i:Int)∈cg z n l))with
   |false=>rfl
   |true=>
    rw[Bool.and_eq_true,Bool.or_eq_true,decide_eq_true_eq,decide_eq_true_eq,Bool.not_eq_true',decide_eq_false_iff_not]at h
    exact absurd (this.1 h) e
 have htw:cX p (eJ (n,l)+vu z n l p)=cX p (eJ (n,l))++fy z n l p:=by
  rw[(MB p (by omega) (by omega)).1]
  congr 1
  unfold fy cX aY
  rw[g1,g2]
 have hmm:may p 1000 (eJ (n,l)+vu z n l p):=by
  refine sK (q:=q) ⟨by omega,?_⟩ hq
  have h1:=hm2.2
  have e1:du (nv z n l p) q=du (take p (eJ (n,l))) q:=by unfold du;rw[g1,g2]
  rw[e1,hroom]at h1
  omega
 obtain⟨v1,v2,v3⟩:=kU hk hmm
 rw[htw]at v1 v2
 have hlo:∀x,x∈gO (M,X)→2≤x:=fun x hx=>by
  rcases(hal x).1 hx with hx|hx
  ·exact(hz.re x (List.mem_append_left _ (hv.mem hx))).1
  ·exact(t1 x hx).1
 have hown:∀x,x∈fy z n l p→x∉gO (M,X):=fun x hx hx2=>by
  obtain⟨a,b,c⟩:=u1 x hx
  rw[hset3,decide_eq_false_iff_not,Int.toNat_of_nonneg (by omega)]at c
  exact c hx2
 have hMn:(gO (M,X)).Nodup:=by
  refine ha.al.nodup_iff.2 ?_
  rw[List.take_of_length_le (by omega)]
  exact hpv.nd
 have hnd:(gO (M,X)++fy z n l p).Nodup:=List.nodup_append.2 ⟨hMn,u2,fun a h1 b h2 e=>hown b h2 (e▸h1)⟩
 have k4:og 1000 (o6 z n l p) (dE (gO (M,X)++fy z n l p)) (z.bE+1+1):=EV u3 fun i=>by
  show((marks (dE (gO (z.n,z.l)++z.own)) (cX p (eJ (n,l))) i&&!decide ((i:Int)∈cg z n l))||decide ((i:Int)∈fy z n l p))=_
  rw[hset3]
  unfold dE
  by_cases e1:(i:Int)∈gO (M,X)
  ·rw[decide_eq_true e1,decide_eq_true (List.mem_append_left _ e1)];rfl
  ·rw[decide_eq_false e1,Bool.false_or]
   exact decide_eq_decide.2 ⟨List.mem_append_right _,fun e=>(List.mem_append.1 e).resolve_left e1⟩
 have hrng:∀x,x∈gO (M,X)++fy z n l p→2≤x∧x<(o6 z n l p).high:=fun x hx=>by
  have h2:2≤x:=(List.mem_append.1 hx).elim (hlo x) fun h=>(u1 x h).1
  have:=k4.own x.toNat (by unfold dE;rw[decide_eq_true_eq,Int.toNat_of_nonneg (by omega)];exact hx)
  rw[Int.toNat_of_nonneg (by omega)]at this
  exact⟨h2,this.2.1⟩
 have hhi1:=v7 m1
 have hhi2:=v7 hm2
 rw[ho2]at hhi2
 obtain⟨c1,c2,c3,c4,c5,c6⟩:=k4.qV
 have hall:=fun x hx=>(k4.own x hx).2.2
 refine⟨m1,hback,hm2,⟨fD ha.vi (by omega),ha.tv,ha.fr,ha.cl,hnd,hrng,k4,rfl,rfl,⟨by have:=hz.bE.1;show 0≤z.bE+1;omega,by have:=hz.bE.2;show z.bE+1≤((k+1:Nat):Int);omega⟩,hz.label⟩,?_,?_,u2,fun x hx=>?_,fun x hx=>?_,?_,by omega,by omega⟩
 ·exact(lq _ _).2 ⟨fun a ha=>by have:=((lq _ _).1 c6).1 a ha;have c4:(o6 z n l p).high≤1000:=c4;omega,((lq _ _).1 c6).2⟩
 ·have h1:=LI (nv z n l p).free.length (nW (nv z n l p).wait)
  unfold rZ at h1
  rw[decide_eq_true_eq]at h1
  have e4:oY (nv z n l p).free.length (nW (nv z n l p).wait)=vu z n l p:=rfl
  rw[e4]at h1
  have e5:(fy z n l p).length=vu z n l p:=by unfold fy;rw[nj];omega
  have e6:(o6 z n l p).free.length=(nv z n l p).free.length-vu z n l p:=by
   unfold o6
   rw[mh]
   have:aY (nv z n l p) (vu z n l p)=min (vu z n l p) (nv z n l p).free.length:=by unfold aY;rw[Int.toNat_natCast]
   omega
  rw[lU,e5,e6]
  have e7:(o6 z n l p).wait=(nv z n l p).wait:=rfl
  rw[e7]
  omega
 ·obtain⟨a,b,c⟩:=u1 x hx
  refine⟨a,by omega,fun h=>?_⟩
  have:=(k4.own x.toNat (by unfold dE;rw[decide_eq_true_eq,Int.toNat_of_nonneg (by omega)];exact List.mem_append_right _ hx)).2.2
  rw[Int.toNat_of_nonneg (by omega)]at this
  rw[cD]at h
  exact this ((bN _).mem_iff.1 h)
 ·have h1:2≤x∧x<(o6 z n l p).high:=by
   rcases List.mem_append.1 hx with hx|hx
   ·exact hrng x (List.mem_append_left _ ((hal x).2 (.inr hx)))
   ·exact hrng x (List.mem_append_right _ hx)
  refine⟨h1.1,h1.2,fun h2=>?_⟩
  obtain⟨a,b,c⟩:=v1 x hx
  unfold dE at c
  rw[decide_eq_false_iff_not,Int.toNat_of_nonneg (by omega)]at c
  exact c h2
 ·exact v2
theorem Lt(w0:W0)(n:Int)(S:St):aa Tryz.prog w0 231 [dI n] S (fun d S'=>d=dB (decide (2≤n∧n≤999))∧S'=S):=by
 refine aZ [] mx Tryz.func231 rfl rfl (by kernel_rfl) ?_;(refine @ab _ ?_;refine an @Tryz.ntmps231 ?_)
 exact⟨fun h=>⟨fun e=>⟨h,e⟩,fun e=>e.2⟩,fun h e=>h e.1⟩
theorem P9(w0:W0)(l:List Int)(S:St)(h0:l.length≤1048576)(hr:Row l 1000):aa Tryz.prog w0 187 [dL l] S (fun d S'=>d=dB true∧S'=S):=by
 refine aZ [] mx Tryz.func187 rfl rfl (by kernel_rfl) ?_;(refine @ab _ ?_;refine an @Tryz.ntmps187 ?_)
 refine aF [] l.length [0,5,6,7] (fun k=>[(7,dI k)]) (fun _=>S) (fun _=>True) mx (by kernel_rfl) ?_ ?_
 ·(refine @ab _ ?_;exact aV)
 ·intro k hk _
  (refine @ab _ ?_;refine au ?_)
  refine fun hlt=>⟨hlt,fun a ha=>?_⟩
  obtain⟨r1,r2,r3⟩:=mL hr ha
  have hpg:=fun S=>Lt w0 a S
  rw[decide_eq_true (⟨r1,by omega⟩:2≤a∧a≤999)]at hpg
  refine ao (hpg _) ?_
  (refine @ab _ ?_;refine au ?_)
  refine⟨fun h0=>?_,fun h0=>⟨hlt,cm k (by omega)⟩⟩
  have ew:IntKind.i64.wrap ((k:Int)-1)=((k-1:Nat):Int):=by rw[aX (by omega) (by omega)];omega
  rw[ew,Int.toNat_natCast]
  refine⟨by omega,by omega,fun b hb=>⟨fun e=>?_,fun _=>⟨hlt,cm k (by omega)⟩⟩⟩
  have:=r3 b (by omega) hb
  omega
def Pf(es:List (Value×DV×Nat))(v:Int)(c:Nat):Prop:=iE es (.int .i64 v)=if c=0 then none else some (dI c)
theorem E4{es:List (Value×DV×Nat)}{clk:Nat}{f:Int→Nat}(h:∀v,Pf es v (f v))(a v:Int):Pf (jO es clk (.int .i64 a) (dI (f a+1:Nat))) v (if v=a then f a+1 else f v):=by
 unfold Pf
 by_cases e:v=a
 ·rw[if_pos e,if_neg (by omega),e,kf]
 ·rw[if_neg e,rv _ _ (fun z=>e (by injection z)) _]
  exact h v
theorem zZ{l:List Int}{k:Nat}{a:Int}(ha:l[k]? =some a)(v:Int):(l.take (k+1)).count v=if v=a then(l.take k).count a+1 else(l.take k).count v:=by
 rw[List.take_add_one,ha,Option.toList_some,List.count_append,List.count_singleton]
 by_cases e:v=a
 ·subst e;simp
 ·rw[if_neg e,if_neg (by simpa using fun z:a=v=>e z.symm)];rfl
theorem Rn:IntKind.i64.wrap (0+1)=1:=by decide
theorem N6(w0:W0)(at_ l:List Int)(S:St)(ha:at_.length≤1048576)(hl:l.length≤1048576)(hn:at_.Nodup)(hr:∀x,x∈at_→2≤x∧x≤999∧x∉l):aa Tryz.prog w0 188 [dL at_,dL l] S (fun d S'=>d=dB true∧S'=S):=by
 refine aZ [] mx Tryz.func188 rfl rfl (by kernel_rfl) ?_;(refine @ab _ ?_;refine an @Tryz.ntmps188 ?_)
 intro m
 refine jR [] [0,5,11,12,13] (fun s:Nat×List (Value×DV×Nat)×Nat=>[(13,dI s.1)]) (fun s=>⟨S.box,(m.n,.xo (.mp (.int .i64) s.2.1 s.2.2))::S.acc⟩) (fun s=>s.1≤l.length∧∀v,Pf s.2.1 v ((l.take s.1).count v)) (fun s=>l.length-s.1) (0,[],0) mx (by kernel_rfl) ?_ ?_
 ·(refine @ab _ ?_;refine au ?_)
  exact⟨Nat.zero_le _,fun v=>rfl⟩
 ·rintro⟨k,es,clk⟩ ⟨h1,h2⟩
  simp only at h1 h2
  (refine @ab _ ?_;refine au ?_)
  refine⟨fun hlt=>⟨hlt,fun a ha2=>?_⟩,fun hge=>?_⟩
  ·have hcl:(l.take k).count a≤k:=Nat.le_trans List.count_le_length (by rw[List.length_take];omega)
   have e1:IntKind.i64.wrap (((l.take k).count a:Int)+1)=(((l.take k).count a+1:Nat):Int):=by rw[aX (by omega) (by omega)];omega
   have hstep:∀v,Pf (jO es clk (.int .i64 a) (dI ((l.take k).count a+1:Nat))) v ((l.take (k+1)).count v):=fun v=>by rw[zZ ha2];exact E4 h2 a v
   have hc:=h2 a
   unfold Pf at hc
   by_cases c0:(l.take k).count a=0
   ·rw[if_pos c0]at hc
    rw[c0]at e1 hstep
    (refine @ab _ ?_;refine ba @hc @e1 ?_)
    rw[Rn]
    exact⟨(k+1,jO es clk (.int .i64 a) (dI (0+1:Nat)),qt es clk (.int .i64 a)),⟨hlt,hstep⟩,by show l.length-(k+1)<l.length-k;omega,cm k (by omega),.refl _⟩
   ·rw[if_neg c0]at hc
    (refine @ab _ ?_;refine ba @hc @e1 ?_)
    exact⟨(k+1,jO es clk (.int .i64 a) (dI ((l.take k).count a+1:Nat)),qt es clk (.int .i64 a)),⟨hlt,hstep⟩,by show l.length-(k+1)<l.length-k;omega,cm k (by omega),.refl _⟩
  ·have hle:l.take k=l:=List.take_of_length_le (by omega)
   rw[hle]at h2
   refine jR [] [5,22,23,24] (fun s:Nat×List (Value×DV×Nat)×Nat=>[(24,dI s.1)]) (fun s=>⟨S.box,(m.n,.xo (.mp (.int .i64) s.2.1 s.2.2))::S.acc⟩) (fun s=>s.1≤at_.length∧∀v,Pf s.2.1 v (l.count v+(at_.take s.1).count v)) (fun s=>at_.length-s.1) (0,es,clk) mx (by kernel_rfl) ?_ ?_
   ·(refine @ab _ ?_;refine au ?_)
    exact⟨Nat.zero_le _,fun v=>h2 v⟩
   ·rintro⟨k,es,clk⟩ ⟨h1,h2⟩
    simp only at h1 h2
    (refine @ab _ ?_;refine au ?_)
    refine fun hlt=>⟨hlt,fun a ha2=>?_⟩
    obtain⟨r1,r2,r3⟩:=hr a (List.mem_of_getElem? ha2)
    have c1:l.count a=0:=List.count_eq_zero.2 r3
    have c2:(at_.take k).count a=0:=List.count_eq_zero.2 fun hm=>by
     obtain⟨i,hi⟩:=List.mem_iff_getElem?.1 hm
     have hik:i<k:=by have:=(List.getElem?_eq_some_iff.1 hi).1;rw[List.length_take]at this;omega
     rw[List.getElem?_take,if_pos hik]at hi
     obtain⟨u1,e1⟩:=List.getElem?_eq_some_iff.1 hi
     obtain⟨u2,e2⟩:=List.getElem?_eq_some_iff.1 ha2
     exact(List.pairwise_iff_getElem.1 hn) i k u1 u2 hik (e1.trans e2.symm)
    have hc:=h2 a
    unfold Pf at hc
    rw[c1,c2,if_pos rfl]at hc
    have dE:iE (jO es clk (.int .i64 a) (.v (.int .i64 1))) (.int .i64 a)=some (.v (.int .i64 1)):=kf _ _ _ _
    have hstep:∀v,Pf (jO es clk (.int .i64 a) (dI (0+1:Nat))) v (l.count v+(at_.take (k+1)).count v):=fun v=>by
     have:=E4 (clk:=clk) h2 a v
     rw[c1,c2]at this
     rw[zZ ha2,c2]
     by_cases e:v=a
     ·rw[if_pos e]at this ⊢
      rw[e,c1];rw[e]at this;exact this
     ·rw[if_neg e]at this ⊢
      exact this
    have hpg:=fun S=>Lt w0 a S
    rw[decide_eq_true (⟨r1,r2⟩:2≤a∧a≤999)]at hpg
    (refine @ab _ ?_;refine an @hc ?_)
    rw[Rn]
    refine ao (hpg _) ?_
    (refine @ab _ ?_;refine an @dE ?_)
    exact⟨fun e=>absurd e (by decide),fun _=>⟨(k+1,jO es clk (.int .i64 a) (dI (0+1:Nat)),qt es clk (.int .i64 a)),⟨hlt,hstep⟩,by show at_.length-(k+1)<at_.length-k;omega,cm k (by omega),.refl _⟩⟩
def uO(at_:List Int)(i:Nat):Int:=(at_[i+1]?).getD 0
def gN(L:List Int):ByteArray:=L.foldl (fun s n=>s++aC 2 n) aJ
def iX(l at_:List Int)(i:Nat):ByteArray:=gN (uO at_ i::(l.drop (59*i)).take 59)
def gM(l at_:List Int):List ByteArray:=(List.range at_.length).map fun i=>cS 4 [iX l at_ i]
theorem ue(L:List Int)(n:Int):gN (L++[n])=gN L++aC 2 n:=by unfold gN;rw[List.foldl_append];rfl
theorem jo(L:List Int):(gN L).size=2*L.length:=by
 suffices h:∀(L:List Int) (s:ByteArray),(L.foldl (fun s n=>s++aC 2 n) s).size=s.size+2*L.length by
  have:=h L aJ
  rw[bk]at this
  unfold gN;omega
 intro L
 induction L with
 |nil=>intro s;simp
 |cons a L ih=>intro s;rw[List.foldl_cons,ih,ByteArray.size_append,av,List.length_cons];omega
theorem rk(l at_:List Int):(gM l at_).length=at_.length:=by unfold gM;rw[List.length_map,List.length_range]
theorem xy(l at_:List Int)(i:Nat):(iX l at_ i).size≤120:=by
 unfold iX
 rw[jo,List.length_cons,List.length_take]
 omega
def r8(l at_:List Int)(i:Nat):List Int:=uO at_ i::(l.drop (59*i)).take 59
theorem Qm(l at_:List Int)(i:Nat):(r8 l at_ i).length≤60:=by
 unfold r8;rw[List.length_cons,List.length_take];omega
theorem Sj(l at_:List Int)(i:Nat)(hr:Row l 1000)(hra:∀x,x∈at_→2≤x∧x≤999∧x∉l):∀a,a∈r8 l at_ i→0≤a∧a<1000:=by
 intro a h
 unfold r8 uO at h
 rcases List.mem_cons.1 h with h|h
 ·rcases e:at_[i+1]? with _|x
  ·rw[e]at h;simp only[Option.getD_none]at h;omega
  ·rw[e]at h;simp only[Option.getD_some]at h
   have:=hra x (List.mem_of_getElem? e)
   omega
 ·obtain⟨j,hj⟩:=List.mem_iff_getElem?.1 (List.mem_of_mem_drop (List.mem_of_mem_take h))
  have:=mL hr hj
  omega
theorem Wm(l:List Int)(k:Nat):(l.take (min (min (59*k) l.length+59) l.length)).drop (min (59*k) l.length)=(l.drop (59*k)).take 59:=by
 apply List.ext_getElem?
 intro i
 rw[List.getElem?_drop,List.getElem?_take,List.getElem?_take,List.getElem?_drop]
 rcases Nat.lt_or_ge l.length (59*k)with h|h
 ·rw[List.getElem?_eq_none (l:=l) (i:=59*k+i) (by omega),List.getElem?_eq_none (l:=l) (i:=min (59*k) l.length+i) (by omega)]
  split <;>split <;>rfl
 ·rw[Nat.min_eq_left h]
  rcases Nat.lt_or_ge (59*k+i) l.length with h1|h1
  ·by_cases h2:i<59
   ·rw[if_pos (by omega),if_pos h2]
   ·rw[if_neg (by omega),if_neg h2]
  ·rw[List.getElem?_eq_none (l:=l) (i:=59*k+i) (by omega)]
   split <;>split <;>rfl
theorem AD(l at_:List Int)(k:Nat)(h:k<at_.length):(gM l at_)[k]? =some (cS 4 [iX l at_ k]):=by
 unfold gM
 rw[List.getElem?_map,List.getElem?_range h];rfl
theorem N2(w0:W0)(hg:fw w0)(l at_:List Int)(S:St)(hl:l.length≤100000)(ha:at_.length≤100000)(hr:Row l 1000)(hm:l.length≤59*at_.length)(hn:at_.Nodup)(hra:∀x,x∈at_→2≤x∧x≤999∧x∉l):
 aa Tryz.prog w0 135 [dL l,dL at_] S (fun d S'=>d= .bD [.sl 1 false ((gM l at_).map fC),dI 0]∧S'=S):=by
 have hll:=rk l at_
 have hpk:=fun k S=>Eu w0 hg 4 [iX l at_ k] S (by decide) (by decide) (by decide) (by have:=xy l at_ k;simp only[bO,List.map_cons,List.map_nil,List.sum_cons,List.sum_nil];omega)
 refine aZ [] mx Tryz.func135 rfl rfl (by kernel_rfl) ?_;(refine @ab _ ?_;refine an @Tryz.ntmps135 ?_)
 refine ao (P9 w0 l _ (by omega) hr) ?_
 (refine @ab _ ?_;refine au ?_)
 refine ao (vP w0 l.length _ (by omega)) ?_
 (refine @ab _ ?_;refine au ?_)
 refine⟨fun h=>absurd h (by omega),fun _=>ao (N6 w0 at_ l _ (by omega) (by omega) hn hra) ?_⟩
 (refine @ab _ ?_;refine au ?_)
 refine nV 6 1 rfl (by omega) fun lo=>?_
 (refine @ab _ ?_;refine au ?_)
 refine aF [] at_.length [0,1,6,33,34] (fun k=>[(6,.acc lo.n k),(34,dI k)]) (fun k=>⟨S.box,(lo.n,.arr 1 (((gM l at_).take k).map fC))::S.acc⟩) (fun _=>True) mx (by kernel_rfl) ?_ ?_
 ·(refine @ab _ ?_;exact aV)
 ·intro k hk _
  have e1:IntKind.i64.wrap ((k:Int)+1)=((k+1:Nat):Int):=by rw[aX (by omega) (by omega)];omega
  have e2:IntKind.i64.wrap ((k:Int)*59)=((59*k:Nat):Int):=by rw[aX (by omega) (by omega)];omega
  have e3:(if l.length<59*k then(l.length:Int)else((59*k:Nat):Int))=((min (59*k) l.length:Nat):Int):=by split <;>omega
  have e4:IntKind.i64.wrap (((min (59*k) l.length:Nat):Int)+59)=((min (59*k) l.length+59:Nat):Int):=by rw[aX (by omega) (by omega)];omega
  have e5:(if l.length<min (59*k) l.length+59 then(l.length:Int)else((min (59*k) l.length+59:Nat):Int))=((min (min (59*k) l.length+59) l.length:Nat):Int):=by split <;>omega
  have hm8:maxLen=9223372036854775807:=rfl
  have hx:(k+1<at_.length∧at_[k+1]? =some (uO at_ k))∨(¬k+1<at_.length∧uO at_ k=0):=by
   unfold uO
   rcases Nat.lt_or_ge (k+1) at_.length with h|h
   ·exact .inl ⟨h,by rw[List.getElem?_eq_getElem h];rfl⟩
   ·exact .inr ⟨by omega,by rw[List.getElem?_eq_none h];rfl⟩
  have e6:=Wm l k
  have e8:min (min (min (59*k) l.length+59) l.length) l.length-min (59*k) l.length+1=(r8 l at_ k).length:=by
   unfold r8;rw[List.length_cons,←e6,List.length_drop,List.length_take]
  have hcl:=Qm l at_ k
  have hcb:=Sj l at_ k hr hra
  rcases hx with⟨h1,h2⟩|⟨h1,h2⟩
  ·have e7:DV.v (.int .i64 (uO at_ k))::List.map dI ((l.drop (59*k)).take 59)=List.map dI (r8 l at_ k):=rfl
   (refine @ab _ ?_;refine OR @e1 @e2 @e3 @e4 @e5 @h1 @h2 @Int.toNat_natCast ?_)
   refine⟨fun hlt=>⟨by omega,by omega,by omega,by omega,fun lb=>?_⟩,fun hge=>⟨by omega,by rw[List.take_of_length_le (by omega)];exact .refl _⟩⟩
   rw[e6,e7,e8]
   refine nV 10 1 rfl (by omega) fun lc=>?_
   refine lE [] [62] mx (by kernel_rfl) ?_
   (refine @ab _ ?_;refine au ?_)
   refine aF [] (r8 l at_ k).length [0,1,6,10,33,34,62,63,64] (fun j=>[(10,.acc lc.n (2*j)),(64,dI j)]) (fun j=>⟨S.box,(lc.n,.arr 1 (bY (gN ((r8 l at_ k).take j))))::(lb.n,.tl 1 ((r8 l at_ k).map dI))::(lo.n,.arr 1 (((gM l at_).take k).map fC))::S.acc⟩) (fun _=>True) mx (by kernel_rfl) ?_ ?_
   ·have e0:bY (gN ((r8 l at_ k).take 0))=[]:=rfl
    (refine @ab _ ?_;refine ba @e0 @Nat.mul_zero ?_)
    exact .refl _
   ·intro j hj _
    have ej:IntKind.i64.wrap ((j:Int)+1)=((j+1:Nat):Int):=by rw[aX (by omega) (by omega)];omega
    (refine @ab _ ?_;refine ba @ej @Int.toNat_natCast ?_)
    refine⟨fun hlt2=>⟨hlt2,fun a ha2=>?_⟩,fun hge2=>⟨by rw[bg,jo,List.length_take];omega,?_⟩⟩
    ·have hb:=hcb a (List.mem_of_getElem? ha2)
     rw[gJ (by omega) (by omega)]
     refine ao (tx w0 a 2 _ (by decide) (by decide) (by omega) (by omega)) ?_
     have hz:(gN ((r8 l at_ k).take j)).size=2*j:=by rw[jo,List.length_take];omega
     have hs:gN ((r8 l at_ k).take (j+1))=gN ((r8 l at_ k).take j)++aC 2 a:=by rw[List.take_add_one,ha2];exact ue _ _
     (refine @ab _ ?_;refine DW @bg @hz @av @ej ?_)
     rw[hs,cP]
     exact⟨by omega,by omega,hlt2,by rw[show 2*j+2=2*(j+1)by omega];exact .refl _,.refl _⟩
    ·have hz:gN ((r8 l at_ k).take j)=iX l at_ k:=by rw[List.take_of_length_le (by omega)];rfl
     rw[hz]
     refine ao (hpk k _) ?_ (.cons (.refl _) (.cons (Wk.full _ _ _) .nil))
     (refine @ab _ ?_;refine au ?_)
     have hs:(gM l at_).take (k+1)=(gM l at_).take k++[cS 4 [iX l at_ k]]:=by
      have:=AD l at_ k hlt
      rw[List.take_add_one,this];rfl
     rw[hs,List.map_append,List.map_cons,List.map_nil]
     exact⟨by omega,by omega,by omega,hlt,⟨by rw[show min k (gM l at_).length+1=k+1 by omega];exact .refl _,e1⟩,.pr (.pr (.refl _))⟩
  ·have e7:DV.v (.int .i64 0)::List.map dI ((l.drop (59*k)).take 59)=List.map dI (r8 l at_ k):=by unfold r8;rw[h2];rfl
   (refine @ab _ ?_;refine OR @e1 @e2 @e3 @e4 @e5 @h1 @h2 @Int.toNat_natCast ?_)
   refine⟨fun hlt=>⟨by omega,by omega,by omega,by omega,fun lb=>?_⟩,fun hge=>⟨by omega,by rw[List.take_of_length_le (by omega)];exact .refl _⟩⟩
   rw[e6,e7,e8]
   refine nV 10 1 rfl (by omega) fun lc=>?_
   refine lE [] [62] mx (by kernel_rfl) ?_
   (refine @ab _ ?_;refine au ?_)
   refine aF [] (r8 l at_ k).length [0,1,6,10,33,34,62,63,64] (fun j=>[(10,.acc lc.n (2*j)),(64,dI j)]) (fun j=>⟨S.box,(lc.n,.arr 1 (bY (gN ((r8 l at_ k).take j))))::(lb.n,.tl 1 ((r8 l at_ k).map dI))::(lo.n,.arr 1 (((gM l at_).take k).map fC))::S.acc⟩) (fun _=>True) mx (by kernel_rfl) ?_ ?_
   ·have e0:bY (gN ((r8 l at_ k).take 0))=[]:=rfl
    (refine @ab _ ?_;refine ba @e0 @Nat.mul_zero ?_)
    exact .refl _
   ·intro j hj _
    have ej:IntKind.i64.wrap ((j:Int)+1)=((j+1:Nat):Int):=by rw[aX (by omega) (by omega)];omega
    (refine @ab _ ?_;refine ba @ej @Int.toNat_natCast ?_)
    refine⟨fun hlt2=>⟨hlt2,fun a ha2=>?_⟩,fun hge2=>⟨by rw[bg,jo,List.length_take];omega,?_⟩⟩
    ·have hb:=hcb a (List.mem_of_getElem? ha2)
     rw[gJ (by omega) (by omega)]
     refine ao (tx w0 a 2 _ (by decide) (by decide) (by omega) (by omega)) ?_
     have hz:(gN ((r8 l at_ k).take j)).size=2*j:=by rw[jo,List.length_take];omega
     have hs:gN ((r8 l at_ k).take (j+1))=gN ((r8 l at_ k).take j)++aC 2 a:=by rw[List.take_add_one,ha2];exact ue _ _
     (refine @ab _ ?_;refine DW @bg @hz @av @ej ?_)
     rw[hs,cP]
     exact⟨by omega,by omega,hlt2,by rw[show 2*j+2=2*(j+1)by omega];exact .refl _,.refl _⟩
    ·have hz:gN ((r8 l at_ k).take j)=iX l at_ k:=by rw[List.take_of_length_le (by omega)];rfl
     rw[hz]
     refine ao (hpk k _) ?_ (.cons (.refl _) (.cons (Wk.full _ _ _) .nil))
     (refine @ab _ ?_;refine au ?_)
     have hs:(gM l at_).take (k+1)=(gM l at_).take k++[cS 4 [iX l at_ k]]:=by
      have:=AD l at_ k hlt
      rw[List.take_add_one,this];rfl
     rw[hs,List.map_append,List.map_cons,List.map_nil]
     exact⟨by omega,by omega,by omega,hlt,⟨by rw[show min k (gM l at_).length+1=k+1 by omega];exact .refl _,e1⟩,.pr (.pr (.refl _))⟩
end Go.Proofs.YtpjenciplibdnaaGreatDoor
namespace Go.Proofs.YtpjenciplibdnaaGreatDoor
open Aml Go
@[go_sem] def Um (a t r l h:Int):List DV:=[dI a,dU t,dI r,dI l,dI h]
@[go_sem] def Hj (a t r l h:Int):DV:= .agg (Um a t r l h)
structure pv(a t r l h:Int):Prop where
 ha:0≤a∧a≤63
 ht:0<t∧t≤18446744073709551615
 hh:2≤h∧h≤1000
 hr:r=0∨(2≤r∧r<h)
 hl:l=0∨(2≤l∧l<h)
 TT:r=0∨r≠l
section
variable {a t r l h:Int}
theorem Q5(w0:W0)(n:Int)(S:St)(hn:n=0∨(2≤n∧n<h)):aa Tryz.prog w0 190 [Hj a t r l h,dI n] S (fun d S'=>d=dB true∧S'=S):=by
 refine aZ [] mx Tryz.func190 rfl rfl (by kernel_rfl) ?_;(refine @ab _ ?_;refine an @Tryz.ntmps190 ?_)
 exact fun b h0=>⟨fun _=>by omega,fun h1=>by omega⟩
theorem V6(w0:W0)(S:St)(hm:pv a t r l h):aa Tryz.prog w0 191 [Hj a t r l h] S (fun d S'=>d=dB true∧S'=S):=by
 have h1:=hm.ha
 refine aZ [] mx Tryz.func191 rfl rfl (by kernel_rfl) ?_;(refine @ab _ ?_;refine an @Tryz.ntmps191 ?_)
 exact fun b=>⟨fun _=>by omega,fun h1=>by omega⟩
theorem WJ(w0:W0)(S:St)(hm:pv a t r l h):aa Tryz.prog w0 192 [Hj a t r l h] S (fun d S'=>d=dB true∧S'=S):=by
 have h1:=hm.ht
 refine aZ [] mx Tryz.func192 rfl rfl (by kernel_rfl) ?_;(refine @ab _ ?_;refine an @Tryz.ntmps192 ?_)
 exact fun b=>by omega
theorem VY(w0:W0)(S:St)(hm:pv a t r l h):aa Tryz.prog w0 193 [Hj a t r l h] S (fun d S'=>d=dB true∧S'=S):=by
 have h1:=hm.hh
 refine aZ [] mx Tryz.func193 rfl rfl (by kernel_rfl) ?_;(refine @ab _ ?_;refine an @Tryz.ntmps193 ?_)
 exact fun b=>⟨fun _=>by omega,fun h1=>by omega⟩
theorem Vd(w0:W0)(b:Nat)(S:St)(hb:lk S.box b=some [.v (.func (.func 190) #[] #[])])(hm:pv a t r l h):aa Tryz.prog w0 194 [Hj a t r l h,.v (.pointer (some ⟨b,0,none⟩))] S (fun d S'=>d=dB true∧S'=S):=by
 refine aZ [] mx Tryz.func194 rfl rfl (by kernel_rfl) ?_;simp only[Tryz.ntmps194,List.length_cons,List.length_nil,Nat.reduceAdd,Nat.reduceSub,List.reduceReplicate,List.cons_append,List.nil_append];(refine @ab _ ?_;refine ba @Tryz.ntmps194 @hb ?_)
 intro b1
 refine ao (Q5 w0 r _ hm.hr) ?_
 (refine @ab _ ?_;refine an @hb ?_)
 refine ao (Q5 w0 l _ hm.hl) ?_
 (refine @ab _ ?_;refine au ?_)
 trivial
theorem V7(w0:W0)(S:St)(hm:pv a t r l h):aa Tryz.prog w0 195 [Hj a t r l h] S (fun d S'=>d=dB true∧S'=S):=by
 have h1:=hm.TT
 refine aZ [] mx Tryz.func195 rfl rfl (by kernel_rfl) ?_;(refine @ab _ ?_;refine an @Tryz.ntmps195 ?_)
 exact fun b h0=>by omega
theorem tE(w0:W0)(f:FuncId)(cs:List Value)(b:Nat)(S:St)(hb:lk S.box b=some (Um a t r l h))(hok:okF Tryz.prog f=true)(hcs:cs.all (fun u=>u.oneCell')=true)
 (hf:∀T,Has S T→aa Tryz.prog w0 f (Hj a t r l h::cs.map .v) T (fun d S'=>d=dB true∧S'=T)):
 aa Tryz.prog w0 138 [.agg [.v (.func (.func f) #[] cs.toArray)],.v (.pointer (some ⟨b,0,none⟩))] S (fun d S'=>d=dB false∧S'=S):=by
 refine aZ [] mx Tryz.func138 rfl rfl (by kernel_rfl) ?_;simp only[Tryz.ntmps138,List.length_cons,List.length_nil,Nat.reduceAdd,Nat.reduceSub,List.reduceReplicate,List.cons_append,List.nil_append];(refine @ab _ ?_;refine DW @Tryz.ntmps138 @hb @hok @hcs ?_)
 intro b1
 refine⟨hcs,ao (hf _ (by(refine @ab _ ?_;exact aV))) ?_⟩
 (refine @ab _ ?_;refine au ?_)
 trivial
theorem TQ(w0:W0)(S:St):aa Tryz.prog w0 137 [] S (fun d S'=>∃b:FN S.box,d= .sl 1 true [.agg [.v (.func (.func 191) #[] #[])],.agg [.v (.func (.func 192) #[] #[])],.agg [.v (.func (.func 193) #[] #[])],.agg [.v (.func (.func 194) #[] #[.pointer (some ⟨b.n,0,none⟩)])],.agg [.v (.func (.func 195) #[] #[])]]∧S'=⟨(b.n,[.v (.func (.func 190) #[] #[])])::S.box,S.acc⟩):=by
 refine mf [] mx Tryz.func137 rfl rfl (by kernel_rfl) ?_;(refine @ab _ ?_;refine an @Tryz.ntmps137 ?_)
 exact fun b=>⟨b,rfl,rfl⟩
theorem Jq(w0:W0)(b c:Nat)(S:St)(hb:lk S.box b=some (Um a t r l h))(hc:lk S.box c=some [.v (.func (.func 190) #[] #[])])(hm:pv a t r l h):
 aa Tryz.prog w0 189 [.sl 1 true [.agg [.v (.func (.func 191) #[] #[])],.agg [.v (.func (.func 192) #[] #[])],.agg [.v (.func (.func 193) #[] #[])],.agg [.v (.func (.func 194) #[] #[.pointer (some ⟨c,0,none⟩)])],.agg [.v (.func (.func 195) #[] #[])]],.v (.func (.func 138) #[] #[.pointer (some ⟨b,0,none⟩)])] S (fun d S'=>d=dI (-1)∧S'=S):=by
 have k2:=tE w0 191 [] b S hb (by kernel_rfl) rfl fun T _=>V6 w0 T hm
 have k3:=tE w0 192 [] b S hb (by kernel_rfl) rfl fun T _=>WJ w0 T hm
 have k4:=tE w0 193 [] b S hb (by kernel_rfl) rfl fun T _=>VY w0 T hm
 have k5:=tE w0 194 [.pointer (some ⟨c,0,none⟩)] b S hb (by kernel_rfl) rfl fun T hT=>Vd w0 c T (hT.box _ _ hc) hm
 have k6:=tE w0 195 [] b S hb (by kernel_rfl) rfl fun T _=>V7 w0 T hm
 refine aZ [] mx Tryz.func189 rfl rfl (by kernel_rfl) ?_;(refine @ab _ ?_;refine an @Tryz.ntmps189 ?_)
 refine aF [] 5 [0,1,7,8] (fun k=>[(8,dI k)]) (fun _=>S) (fun _=>True) mx (by kernel_rfl) ?_ ?_
 ·(refine @ab _ ?_;exact aV)
 ·intro k hk _
  match k,hk with
  |0,_=>
   (refine @ab _ ?_;refine au ?_)
   refine ao k2 ?_
   (refine @ab _ ?_;refine au ?_)
   decide
  |1,_=>
   (refine @ab _ ?_;refine au ?_)
   refine ao k3 ?_
   (refine @ab _ ?_;refine au ?_)
   decide
  |2,_=>
   (refine @ab _ ?_;refine au ?_)
   refine ao k4 ?_
   (refine @ab _ ?_;refine au ?_)
   decide
  |3,_=>
   (refine @ab _ ?_;refine au ?_)
   refine ao k5 ?_
   (refine @ab _ ?_;refine au ?_)
   decide
  |4,_=>
   (refine @ab _ ?_;refine au ?_)
   refine ao k6 ?_
   (refine @ab _ ?_;refine au ?_)
   decide
  |5,_=>(refine @ab _ ?_;exact aV)
theorem L3(w0:W0)(b c:Nat)(S:St)(hb:lk S.box b=some (Um a t r l h))(hc:lk S.box c=some [.v (.func (.func 190) #[] #[])])(hm:pv a t r l h):
 aa Tryz.prog w0 136 [.sl 1 true [.agg [.v (.func (.func 191) #[] #[])],.agg [.v (.func (.func 192) #[] #[])],.agg [.v (.func (.func 193) #[] #[])],.agg [.v (.func (.func 194) #[] #[.pointer (some ⟨c,0,none⟩)])],.agg [.v (.func (.func 195) #[] #[])]],.v (.func (.func 138) #[] #[.pointer (some ⟨b,0,none⟩)])] S (fun d S'=>d=dB false∧S'=S):=by
 have h:=Jq w0 b c S hb hc hm
 refine aZ [] mx Tryz.func136 rfl rfl (by kernel_rfl) ?_;(refine @ab _ ?_;refine an @Tryz.ntmps136 ?_)
 refine ao h ?_
 (refine @ab _ ?_;refine au ?_)
 decide
theorem TP(w0:W0)(S:St)(hm:pv a t r l h):aa Tryz.prog w0 80 [Hj a t r l h] S (fun d S'=>d=dB true∧S'=S):=by
 refine aZ [] mx Tryz.func80 rfl rfl (by kernel_rfl) ?_;(refine @ab _ ?_;refine an @Tryz.ntmps80 ?_)
 intro b
 refine bA (TQ w0 _) ?_
 rintro _ _ ⟨c,rfl,rfl⟩
 (refine @ab _ ?_;refine au ?_)
 refine ao (L3 w0 b.n c.n _ (by(refine @ab _ ?_;exact aV)) (by(refine @ab _ ?_;exact aV)) hm) ?_
 (refine @ab _ ?_;refine au ?_)
 trivial
end
end Go.Proofs.YtpjenciplibdnaaGreatDoor
namespace Aml
open Go Go.RowKit
variable {P:Program} {w0:W0}
theorem rL{ro:Option Nat}{o:Oper}(hnd:∀c,o.op≠ .defer c){a:Act}{w w':World}{u:Value}(hrun:(execOp a.eval o).run P w= .ok (.value u) w'){next:Act→World→Prop}{Q:Exit→Act→World→Prop}(hn:next (a.put o.dst u) w'):o.wpIn (fz ro) 0 P a w next Q:=by
 have hs:o.semAt (fz ro).round a.eval=execOp a.eval o:=Oper.semAt_eq _ _ _ fun c hc=>absurd hc (hnd c)
 refine⟨fun _ _=>trivial,?_⟩
 rw[hs,hrun]
 exact hn
def gH(ns:List Int):Array Value:=(ns.map fun n=>Value.int .u8 n).toArray
theorem Y2{id:Nat}{o1 o2:Oper}{rest:List Oper}{fr:List DV}{S:St}{Q:Exit→List DV→St→Prop}{t e d1 n:Nat}{parts:Array (Nat×Operand)}{ns:List Int}
 (h1:o1.dst=some d1) (hg1:o1.guard=none) (hg2:o2.guard=none) (ho1:o1.op= .buildSlice t n parts) (ho2:o2.op= .convert t t (.tmp d1)) (ht:P.underlying t=some (.slice e)) (he:P.underlying e=some (.int .u8)) (hd:d1<fr.length) (hns:ns≠[]) (hml:ns.length≤maxLen)
 (hrun:∀(ρ:Operand→Value) (w:World),(∀u,ρ (.const u)=u)→(execOp ρ o1).run P w= .ok (.value (.slice (some ⟨w.heap.size,0,none⟩) ns.length ns.length)) (w.alloc (.cells (gH ns) e)))
 (h:Ax P w0 (o1::o2::rest).toArray (fun fr S=>Q .normal fr S) rest (pt (pt fr (some d1) (.sl 1 true (ns.map fun n=> .v (.int .u8 n)))) o2.dst (.sl 1 true (ns.map fun n=> .v (.int .u8 n)))) S):
 gk P w0 (.region id (o1::o2::rest).toArray false) fr S Q:=by
 intro g a w k1 k2 k3
 refine jw fun ro=>?_
 have hsz:(gH ns).size=ns.length:=by simp[gH]
 unfold wpListIn
 rw[if_pos (by simp[Region.wanted,hg1])]
 refine rL (fun c hc=>by rw[ho1]at hc;cases hc) (hrun a.eval w fun u=>rfl) ?_
 unfold wpListIn
 rw[if_pos (by simp[Region.wanted,hg2])]
 have hlen:fr.length=a.tmps.size:=by simpa using k2.len
 have hev:(a.put o1.dst (.slice (some ⟨w.heap.size,0,none⟩) ns.length ns.length)).eval (.tmp d1)= .slice (some ⟨w.heap.size,0,none⟩) ns.length ns.length:=by
  rw[h1]
  have:d1<a.tmps.size:=by omega
  simp[Act.eval,Act.put,this]
 have hrun2:(execOp (a.put o1.dst (.slice (some ⟨w.heap.size,0,none⟩) ns.length ns.length)).eval o2).run P (w.alloc (.cells (gH ns) e))= .ok (.value (.slice (some ⟨w.heap.size,0,none⟩) ns.length ns.length)) (w.alloc (.cells (gH ns) e ((gH ns).size,(gH ns).size+1))):=by
  have:=Lib.run_convert_bytes_const (P:=P) w t e (gH ns) ns.length ns.length ht he
  simp only[execOp,ho2,Sem.run_bind]
  rw[hev,this]
  rfl
 refine rL (fun c hc=>by rw[ho2]at hc;cases hc) hrun2 ?_
 have hb:(w.alloc (.cells (gH ns) e ((gH ns).size,(gH ns).size+1))).heap[w.heap.size]? =some (.cells (gH ns) e ((gH ns).size,(gH ns).size+1)):=heap_alloc_new w _
 obtain⟨hle,hR⟩:=k1.BK (dz w (.cells (gH ns) e ((gH ns).size,(gH ns).size+1))) (Nat.le_refl _) hb
 have hrep:aK (g.bh w.heap.size fun i=>(gH ns)[i]?) (.sl 1 true (ns.map fun n=> .v (.int .u8 n))) (.slice (some ⟨w.heap.size,0,none⟩) ns.length ns.length):=by
  have:=aK.sl (g:=g.bh w.heap.size fun i=>(gH ns)[i]?) 1 true (ns.map fun n=>DV.v (.int .u8 n)) w.heap.size 0 ns.length (ns.map fun n=>Value.int .u8 n) (by simp) (fun _=>by simp) (by simp) hml
   (fun i d u x y=>by
    rw[List.getElem?_map,Option.map_eq_some_iff]at x y
    obtain⟨z,hz,rfl⟩:=x
    obtain⟨z',hz',rfl⟩:=y
    rw[hz]at hz';cases hz'
    exact .v _ rfl)
   (fun i u x=>by
    rw[List.getElem?_map,Option.map_eq_some_iff]at x
    obtain⟨z,hz,rfl⟩:=x
    rfl)
   (fun u hu x hx=>by
    obtain⟨z,hz,rfl⟩:=List.mem_map.1 hu
    simp[Value.cells]at hx
    subst hx;rfl)
   (fun i u j x hu hx=>by
    rw[List.getElem?_map,Option.map_eq_some_iff]at hu
    obtain⟨z,hz,rfl⟩:=hu
    have hj:j=0:=by
     have:=(Array.getElem?_eq_some_iff.1 hx).1
     simp[Value.cells]at this;omega
    subst hj
    simp[Value.cells]at hx
    subst hx
    simp only[Gh.bh,if_true,Nat.mul_one,Nat.zero_add,Nat.add_zero]
    unfold gH
    rw[List.getElem?_toArray,List.getElem?_map,hz];rfl)
  simpa using this
 have hkeep:∀(i:Nat) (ob:Obj),w.heap[i]? =some ob→nc ob=true→(w.alloc (.cells (gH ns) e ((gH ns).size,(gH ns).size+1))).heap[i]? =some ob:=fun i ob x _=>
  ((dz w (.cells (gH ns) e ((gH ns).size,(gH ns).size+1))).block i (Array.getElem?_eq_some_iff.1 x).1).trans x
 have hr1:=dq (k2.mono hle) (some d1) hrep
 rw[←h1]at hr1
 have hr2:=dq hr1 o2.dst hrep
 rw[h1]at hr2
 rw[h1]
 refine kM rest _ _ _ _ _ hle hR hr2 ?_ h
 exact(k3.keep (by rw[put_defers,put_defers]) hkeep)
theorem Yq{id:Nat}{o1 o2:Oper}{rest:List Oper}{fr:List DV}{S:St}{Q:Exit→List DV→St→Prop}{t e d1 n:Nat}{parts:Array (Nat×Operand)}(ns:List Int)
 (h1:o1.dst=some d1) (hg1:o1.guard=none) (hg2:o2.guard=none) (ho1:o1.op= .buildSlice t n parts) (ho2:o2.op= .convert t t (.tmp d1)) (ht:P.underlying t=some (.slice e)) (he:P.underlying e=some (.int .u8)) (hd:d1<fr.length) (hns:ns≠[]) (hml:ns.length≤maxLen)
 (hrun:∀(ρ:Operand→Value) (w:World),(∀u,ρ (.const u)=u)→(execOp ρ o1).run P w= .ok (.value (.slice (some ⟨w.heap.size,0,none⟩) ns.length ns.length)) (w.alloc (.cells (gH ns) e)))
 (hs:rest.all (fun o=>gR o.op)=true)
 (h:vk P w0 (o1::o2::rest).toArray (fun fr S=>jA fr fun fr=>Q .normal fr S) rest (pt (pt fr (some d1) (.sl 1 true (ns.map fun n=> .v (.int .u8 n)))) o2.dst (.sl 1 true (ns.map fun n=> .v (.int .u8 n)))) S):
 gk P w0 (.region id (o1::o2::rest).toArray false) fr S Q:=
 Y2 h1 hg1 hg2 ho1 ho2 ht he hd hns hml hrun (lS rest hs h)
end Aml
namespace Go.Proofs.YtpjenciplibdnaaGreatDoor
open Aml Go
def ON:ByteArray:=⟨#[109,101,116,97]⟩
def jB(a t r l h:Int):ByteArray:=ON++aC 1 a++aC 8 t++aC 2 r++aC 2 l++aC 2 h
def mE(a t r l h:Int):ByteArray:=cS 5 [jB a t r l h]
def iu(a t r l h:Int):Nat→ByteArray
 |0=>ON
 |1=>ON++aC 1 a
 |2=>ON++aC 1 a++aC 8 t
 |3=>ON++aC 1 a++aC 8 t++aC 2 r
 |4=>ON++aC 1 a++aC 8 t++aC 2 r++aC 2 l
 |_=>jB a t r l h
theorem jg(a t r l h:Int):∀k,(iu a t r l h k).size≤19
 |0=>by show ON.size≤19;decide
 |1=>by simp only[iu,ByteArray.size_append,av];decide
 |2=>by simp only[iu,ByteArray.size_append,av];decide
 |3=>by simp only[iu,ByteArray.size_append,av];decide
 |4=>by simp only[iu,ByteArray.size_append,av];decide
 |_+5=>by
  show(jB a t r l h).size≤19
  unfold jB
  simp only[ByteArray.size_append,av];decide
theorem jn(a t r l h:Int):(jB a t r l h).size=19:=by
 unfold jB
 simp only[ByteArray.size_append,av]
 rfl
theorem PB{o:Oper}{ρ:Operand→Value}{w:World}(ho:o.op= .buildSlice 63 4 #[(0,.const (.int .u8 109)),(1,.const (.int .u8 101)),(2,.const (.int .u8 116)),(3,.const (.int .u8 97))])(hc:∀u,ρ (.const u)=u):
 (execOp ρ o).run Tryz.prog w= .ok (.value (.slice (some ⟨w.heap.size,0,none⟩) 4 4)) (w.alloc (.cells (gH [109,101,116,97]) 5)):=by
 have h1:(Tryz.prog.info? 5).map (fun i=>(i.size,i.zero))=some (1,some (.int .u8 0)):=by kernel_rfl
 obtain⟨i,hi,he⟩:=Option.map_eq_some_iff.1 h1
 simp only[Prod.mk.injEq]at he
 obtain⟨hs,hz⟩:=he
 have hf:Instr.fill (fun i=>some (i,1)) (Array.map (fun x=>(Value.int .u8 0).cells[x%(Value.int .u8 0).cells.size]!) (Array.range 4)) [(0,.int .u8 109),(1,.int .u8 101),(2,.int .u8 116),(3,.int .u8 97)]=some (gH [109,101,116,97]):=by kernel_rfl
 simp[execOp,ho,Instr.buildSlice,run_underlying Tryz.underlying63,Go.sizeOf,typeInfo,hi,hs,hz,zeroValue,newRow,hc]
 rw[hf]
 rfl
section
variable {a t r l h:Int}
theorem PE(w0:W0)(hg:fw w0)(S:St)(hm:pv a t r l h):aa Tryz.prog w0 34 [Hj a t r l h] S (fun d S'=>d= .bD [fC (mE a t r l h),dI 0]∧S'=S):=by
 have hck:=fun S=>TP w0 S hm
 have hpk:=fun S=>Eu w0 hg 5 [jB a t r l h] S (by decide) (by decide) (by decide) (by simp only[bO,List.map_cons,List.map_nil,List.sum_cons,List.sum_nil,jn];omega)
 obtain⟨q1,q2,q3,q4,q5,q6⟩:=hm
 have ea:IntKind.u64.wrap a=a:=gJ (by omega) (by omega)
 have er:IntKind.u64.wrap r=r:=gJ (by omega) (by omega)
 have el:IntKind.u64.wrap l=l:=gJ (by omega) (by omega)
 have eh:IntKind.u64.wrap h=h:=gJ (by omega) (by omega)
 unfold mE
 generalize cS 5 [jB a t r l h]=PK at*
 refine aZ [3] mx Tryz.func34 rfl rfl (by kernel_rfl) ?_;(refine @ab _ ?_;refine an @Tryz.ntmps34 ?_)
 intro b
 refine ao (hck _) ?_
 (refine @ab _ ?_;refine DW @ea @er @el @eh ?_)
 refine Yq (t:=63) (e:=5) [109,101,116,97] rfl rfl rfl rfl rfl Tryz.underlying63 Tryz.underlying5 (Nat.le_of_ble_eq_true rfl) (by decide) (by decide) (fun ρ w hc=>PB rfl hc) (by kernel_rfl) ?_
 (refine @ab _ ?_;refine DW @ea @er @el @eh ?_)
 refine JI 4 rfl (by omega) fun lc=>?_
 refine lE [] [] mx (by kernel_rfl) ?_
 (refine @ab _ ?_;refine au ?_)
 refine aF [] 5 [4,31,32,33] (fun k=>[(4,.acc lc.n (iu a t r l h k).size),(33,dI k)]) (fun k=>⟨(b.n,Um a t r l h)::S.box,(lc.n,.tl 1 (bY (iu a t r l h k)))::S.acc⟩) (fun _=>True) mx (by kernel_rfl) ?_ ?_
 ·(refine @ab _ ?_;refine au ?_)
  exact⟨.refl _,.refl _⟩
 ·intro k hk _
  have hm8:maxLen=9223372036854775807:=rfl
  match k,hk with
  |0,_=>
   have hz:=jg a t r l h 0
   have e:iu a t r l h 1=iu a t r l h 0++aC 1 a:=rfl
   (refine @ab _ ?_;refine au ?_)
   intro b1
   refine ao (tx w0 a 1 _ (by decide) (by decide) (by omega) (by omega)) ?_
   (refine @ab _ ?_;refine ba @bg @av ?_)
   rw[e,cP,ByteArray.size_append,av]
   exact⟨by omega,by omega,⟨.refl _,by decide⟩,.bu (.refl _)⟩
  |1,_=>
   have hz:=jg a t r l h 1
   have e:iu a t r l h 2=iu a t r l h 1++aC 8 t:=rfl
   (refine @ab _ ?_;refine au ?_)
   intro b1
   refine ao (tx w0 t 8 _ (by decide) (by decide) (by omega) (by omega)) ?_
   (refine @ab _ ?_;refine ba @bg @av ?_)
   rw[e,cP,ByteArray.size_append,av]
   exact⟨by omega,by omega,⟨.refl _,by decide⟩,.bu (.refl _)⟩
  |2,_=>
   have hz:=jg a t r l h 2
   have e:iu a t r l h 3=iu a t r l h 2++aC 2 r:=rfl
   (refine @ab _ ?_;refine au ?_)
   intro b1
   refine ao (tx w0 r 2 _ (by decide) (by decide) (by omega) (by omega)) ?_
   (refine @ab _ ?_;refine ba @bg @av ?_)
   rw[e,cP,ByteArray.size_append,av]
   exact⟨by omega,by omega,⟨.refl _,by decide⟩,.bu (.refl _)⟩
  |3,_=>
   have hz:=jg a t r l h 3
   have e:iu a t r l h 4=iu a t r l h 3++aC 2 l:=rfl
   (refine @ab _ ?_;refine au ?_)
   intro b1
   refine ao (tx w0 l 2 _ (by decide) (by decide) (by omega) (by omega)) ?_
   (refine @ab _ ?_;refine ba @bg @av ?_)
   rw[e,cP,ByteArray.size_append,av]
   exact⟨by omega,by omega,⟨.refl _,by decide⟩,.bu (.refl _)⟩
  |4,_=>
   have hz:=jg a t r l h 4
   have e:iu a t r l h 5=iu a t r l h 4++aC 2 h:=rfl
   (refine @ab _ ?_;refine au ?_)
   intro b1
   refine ao (tx w0 h 2 _ (by decide) (by decide) (by omega) (by omega)) ?_
   (refine @ab _ ?_;refine ba @bg @av ?_)
   rw[e,cP,ByteArray.size_append,av]
   exact⟨by omega,by omega,⟨.refl _,by decide⟩,.bu (.refl _)⟩
  |5,_=>
   (refine @ab _ ?_;refine au ?_)
   refine⟨bg _,ao (hpk _) ?_ (.cons (.refl _) (.cons (Wk.full _ _ _) .nil))⟩
   (refine @ab _ ?_;refine au ?_)
   trivial
end
end Go.Proofs.YtpjenciplibdnaaGreatDoor
namespace Go.Proofs.YtpjenciplibdnaaGreatDoor
open Aml Go
theorem Q9(w0:W0)(p:Pl)(q m:Int)(S:St)(hm:may p q m)(h0:p.free.length≤1048576)(h1: -1099511627776≤p.high)(h2:p.high≤1048576)(h3: -1099511627776≤q)(h4:q≤1048576):
 aa Tryz.prog w0 179 [dP p,dI q,dI m] S (fun d S'=>d= .bD [dP (take p m),dL (cX p m),dB true]∧S'=S):=(VV w0 p q m S h0 h1 h2 h3 h4).mono fun _ _ h=>h.1 hm
def p0:Pl:=⟨5,[3],[]⟩
def p1:Pl:=⟨6,[],[]⟩
def p2:Pl:=⟨6,[],[⟨7,[2,5]⟩]⟩
def p3:Pl:=⟨6,[2,5],[]⟩
theorem s52:dh [5,2]=[2,5]:=(oJ (a:=[2,5]) (by decide) (by decide)).symm
theorem s3:dh [3]=[3]:=(oJ (a:=[3]) (by decide) (by decide)).symm
theorem Zw:dh [2,5]=[2,5]:=(oJ (a:=[2,5]) (by decide) (by decide)).symm
theorem s0:dh []=[]:=(oJ (a:=[]) (by decide) (by decide)).symm
theorem x1:take p0 2=p1∧cX p0 2=[3,5]∧may p0 6 2∧du p0 6=2:=by
 refine⟨?_,?_,?_,?_⟩
 ·unfold take aY p0 p1;simp only[s3];rfl
 ·unfold cX aY p0;simp only[s3];rfl
 ·unfold may du p0;decide
 ·unfold du p0;decide
theorem x2:mj p1 7 [5,2]=p2:=by
 rw[mC (by decide) (fun w h=>by simp[p1]at h)]
 simp only[s52];rfl
theorem x3:release p2 6 true=p2:=by
 unfold release
 have e:iG 6 true p2.wait=[]:=by decide
 rw[e]
 have e2:dh (flat (p2.free::nP []))=[]:=s0
 rw[e2];rfl
theorem x4:release p2 7 true=p3:=by
 unfold release
 have e:iG 7 true p2.wait=p2.wait:=by decide
 rw[e]
 have e2:dh (flat (p2.free::nP p2.wait))=[2,5]:=Zw
 rw[e2];rfl
theorem y3:release ⟨6,[],[⟨7,[2,5]⟩]⟩ 6 true=⟨6,[],[⟨7,[2,5]⟩]⟩:=x3
theorem y4:release ⟨6,[],[⟨7,[2,5]⟩]⟩ 7 true=⟨6,[2,5],[]⟩:=x4
theorem x5:listed p2=[2,5]:=Zw
theorem x6:F7 p2 6∧¬F7 p2 5:=by
 refine⟨⟨fun i a c h0 ha hc=>?_,fun w hw=>?_,by decide,by decide,fun i a hi ha=>by simp[p2]at hi,?_⟩,fun h=>absurd h.2.2.2.1 (by decide)⟩
 ·have:i<1:=(List.getElem?_eq_some_iff.1 ha).1;omega
 ·simp[p2]at hw
  subst hw
  rintro(h|h)
  ·cases h
  ·refine h fun i a hi ha=>?_
   match i,hi with
   |0,_=>cases ha;exact⟨by decide,by decide,fun b h=>by omega⟩
   |1,_=>cases ha;exact⟨by decide,by decide,fun b _ hb=>by cases hb;decide⟩
 ·rw[x5]
  intro i a hi ha
  match i,hi with
  |0,_=>cases ha;exact⟨by decide,by decide,fun b h=>by omega⟩
  |1,_=>cases ha;exact⟨by decide,by decide,fun b _ hb=>by cases hb;decide⟩
end Go.Proofs.YtpjenciplibdnaaGreatDoor
namespace Go.Proofs.YtpjenciplibdnaaGreatDoor
open Aml Go
@[go_sem] def yp (l:List C):DV:= .sl 6 false (l.map lP)
def gj(z o:Zt)(L W:DV)(q:Int)(A:DV)(lw k:Nat):List DV:=
 dI z.label::dU z.bE::dI z.root::dI z.nT::dI z.high::dI z.n.aq::dB z.n.leaf:: .sl 1 false (z.n.l.map fun c=>dS c.key):: .sl 2 false ((if z.n.leaf then z.n.l else []).map fS):: .sl 5 false ((aN z.n).map dT)::L::W::dI z.p.high:: .sl 1 false (z.p.free.map dI):: .sl 2 false (z.p.wait.map dW)::dI o.label::dU o.bE::dI o.root::dI o.nT::dI o.high::dI o.n.aq::dB o.n.leaf:: .sl 1 false (o.n.l.map fun c=>dS c.key):: .sl 2 false ((if o.n.leaf then o.n.l else []).map fS):: .sl 5 false ((aN o.n).map dT)::yp o.l::dL o.own::dI o.p.high:: .sl 1 false (o.p.free.map dI):: .sl 2 false (o.p.wait.map dW)::dI q::A:: .acc lw k::[]
def dp(S:St)(b lw:Nat)(z o:Zt)(L W:DV)(q:Int)(A:DV)(ws:List (Int×ByteArray)):St:=⟨up S.box b (gj z o L W q A lw ws.length),up S.acc lw (.arr 2 (ws.map nH))⟩
structure Dc(S:St)(b lw:Nat)(z o:Zt)(L W:DV)(q:Int)(A:DV)(ws:List (Int×ByteArray)):Prop where
 box:lk S.box b=some (gj z o L W q A lw ws.length)
 acc:lk S.acc lw=some (.arr 2 (ws.map nH))
theorem JU(w0:W0)(A B:List Int)(S:St)(h:A.length+B.length≤1048576):aa Tryz.prog w0 48 [.sl 1 false [dL A,dL B]] S (fun d S'=>d=dL (A++B)∧S'=S):=by
 have e:flat [A,B]=A++B:=by simp[flat]
 have h1:=concat w0 [A,B] S (by simp) (by rw[e,List.length_append];omega)
 rw[e]at h1
 refine jv (aa.mono h1 ?_)
 rintro d S' ⟨b,rfl,rfl⟩
 (refine @ab _ ?_;exact aV)
section
variable {S:St} {b lw:Nat} {z o:Zt} {L W A:DV} {q:Int} {ws:List (Int×ByteArray)}
theorem EX(h:Dc S b lw z o L W q A ws)(z':Zt)(L' W' A':DV)(ws':List (Int×ByteArray)):Dc (dp S b lw z' o L' W' q A' ws') b lw z' o L' W' q A' ws':=
 ⟨by show lk (up S.box b _) b=_;rw[ax,h.box];rfl,by show lk (up S.acc lw _) lw=_;rw[ax,h.acc];rfl⟩
theorem Ct{z' z'' o' o'':Zt}{L' L'' W' W'' A' A'':DV}{q' q'':Int}{w' w'':List (Int×ByteArray)}:dp (dp S b lw z' o' L' W' q' A' w') b lw z'' o'' L'' W'' q'' A'' w''=dp S b lw z'' o'' L'' W'' q'' A'' w'':=by
 unfold dp
 simp only[rE]
theorem MI(h:Dc S b lw z o L W q A ws):dp S b lw z o L W q A ws=S:=by
 unfold dp
 rw[dD h.box,dD h.acc]
theorem Rs(w0:W0)(h:Dc S b lw z o (yp z.l) W q A ws)(r:Bool)(hf:∀S,aa Tryz.prog w0 127 [eV o.n o.l,eV z.n z.l,dL o.own,dP z.p,dI q] S (fun d S'=>d=dB r∧S'=S)):
 aa Tryz.prog w0 74 [BF b] S (fun d S'=>d=dB r∧S'=S):=by
 have hb:=h.box
 unfold gj at hb
 refine aZ [] mx Tryz.func74 rfl rfl (by kernel_rfl) ?_;(refine @ab _ ?_;refine ba @Tryz.ntmps74 @hb ?_)
 refine aS (hf _) ?_
 (refine @ab _ ?_;refine au ?_)
 trivial
theorem QZ(w0:W0)(m:Int)(h:Dc S b lw z o L W q A ws)(p:Pl)(at_:List Int)(r:Bool)(hf:∀S,aa Tryz.prog w0 179 [dP z.p,dI q,dI m] S (fun d S'=>d= .bD [dP p,dL at_,dB r]∧S'=S)):
 aa Tryz.prog w0 128 [BF b,dI m] S (fun d S'=>d= .bD [dL at_,dB r]∧S'=dp S b lw {z with p:=p} o L W q A ws):=by
 have hb:=h.box
 have ha:=h.acc
 unfold gj at hb
 refine vF [1] mx Tryz.func128 rfl rfl (by kernel_rfl) ?_;(refine @ab _ ?_;refine eW @Tryz.ntmps128 @hb @ha ?_)
 refine P1 mx (by kernel_rfl) ?_
 (refine @ab _ ?_;refine ba @hb @ha ?_)
 refine N1 (fun B _=>hf _) ?_
 (refine @ab _ ?_;refine ba @hb @ha ?_)
 intro b1
 refine⟨_,_,.refl _,?_,rfl,rfl⟩
 unfold dp
 rw[dD ha]
 exact .bu (.refl _)
theorem Wa(w0:W0)(m:Int)(h:Dc S b lw z o (yp z.l) W q A ws)(p:Pl)(at_:List Int)(r:Bool)(hm:∀S,aa Tryz.prog w0 129 [eV z.n z.l] S (fun d S'=>d=dI m∧S'=S))(hf:∀S,aa Tryz.prog w0 179 [dP z.p,dI q,dI m] S (fun d S'=>d= .bD [dP p,dL at_,dB r]∧S'=S)):
 aa Tryz.prog w0 75 [BF b] S (fun d S'=>d=dB r∧S'=dp S b lw {z with p:=p} o (yp z.l) W q (dL at_) ws):=by
 have hb:=h.box
 have ha:=h.acc
 unfold gj at hb
 refine vF [] mx Tryz.func75 rfl rfl (by kernel_rfl) ?_;(refine @ab _ ?_;refine eW @Tryz.ntmps75 @hb @ha ?_)
 refine ao (hm _) ?_
 (refine @ab _ ?_;refine ba @hb @ha ?_)
 refine bA (QZ w0 m h p at_ r hf) ?_
 rintro e S' ⟨rfl,rfl⟩
 simp(maxDischargeDepth:=12) (maxSteps:=1000000) -implicitDefEqProofs only[go_sem,Nat.reduceAdd,Nat.reduceSub,Nat.reduceMul,Nat.reduceLeDiff,Nat.reduceEqDiff,Nat.reduceGT,Nat.reduceBEq,reduceCtorEq,↓reduceIte,Int.reduceToNat,Int.reduceLE,Int.reduceLT,Int.reduceNe,Int.reduceEq,dp,gj,hb,ha]
 exact⟨_,_,.refl _,.refl _,rfl,rfl⟩
theorem QP(w0:W0)(n:N)(at_ R:List Int)(M:N)(V:List (Int×ByteArray))(h:Dc S b lw z o L W q (dL at_) ws)(hlw:ws.length+V.length≤1048576)(hf:∀S,aa Tryz.prog w0 181 [eT n,dL at_] S (fun d S'=>d= .bD [eT M,.sl 2 false (V.map nH),dL R,dB true]∧S'=S)):
 aa Tryz.prog w0 130 [BF b,eT n] S (fun d S'=>d= .bD [eT M,dB true]∧S'=dp S b lw z o L W q (dL R) (ws++V)):=by
 have hb:=h.box
 have ha:=h.acc
 unfold gj at hb
 refine vF [1] mx Tryz.func130 rfl rfl (by kernel_rfl) ?_;(refine @ab _ ?_;refine eW @Tryz.ntmps130 @hb @ha ?_)
 intro b1 b2
 refine P1 mx (by kernel_rfl) ?_
 (refine @ab _ ?_;refine ba @hb @ha ?_)
 refine N1 (fun B _=>hf _) ?_
 (refine @ab _ ?_;refine ba @hb @ha ?_)
 intro b3
 have hm8:maxLen=9223372036854775807:=rfl
 refine⟨by omega,by omega,_,_,.refl _,?_,rfl,rfl⟩
 unfold dp
 rw[List.length_append]
 exact .bu (.bu (.bu (.refl _)))
theorem YO(w0:W0)(at_ R:List Int)(M:N)(V:List (Int×ByteArray))(h:Dc S b lw z o L W q (dL at_) ws)(hlw:ws.length+V.length≤1048576)(hf:∀S,aa Tryz.prog w0 181 [eT z.n,dL at_] S (fun d S'=>d= .bD [eT M,.sl 2 false (V.map nH),dL R,dB true]∧S'=S)):
 aa Tryz.prog w0 77 [BF b] S (fun d S'=>d=dB true∧S'=dp S b lw {z with n:=M,root:=M.aq} o L W q (dL R) (ws++V)):=by
 have hb:=h.box
 have ha:=h.acc
 unfold gj at hb
 refine vF [2] mx Tryz.func77 rfl rfl (by kernel_rfl) ?_;(refine @ab _ ?_;refine eW @Tryz.ntmps77 @hb @ha ?_)
 refine bA (QP w0 z.n at_ R M V h hlw hf) ?_
 rintro e S' ⟨rfl,rfl⟩
 simp(maxDischargeDepth:=12) (maxSteps:=1000000) -implicitDefEqProofs only[go_sem,Nat.reduceAdd,Nat.reduceSub,Nat.reduceMul,Nat.reduceLeDiff,Nat.reduceEqDiff,Nat.reduceGT,Nat.reduceBEq,reduceCtorEq,↓reduceIte,Int.reduceToNat,Int.reduceLE,Int.reduceLT,Int.reduceNe,Int.reduceEq,dp,gj,hb,ha]
 intro b1
 refine Kw ⟨[(b1.n,[dI M.aq,dB M.leaf,.sl 1 false (M.l.map fun c=>dS c.key),.sl 2 false ((if M.leaf then M.l else []).map fS),.sl 5 false ((aN M).map dT)])],[]⟩ [9,14] [] [0,1,3,2,5,6,7,8,4,9,10,11,12,13,14] mx (by kernel_rfl) ?_
 simp(maxDischargeDepth:=12) (maxSteps:=1000000) -implicitDefEqProofs only[go_sem,Nat.reduceAdd,Nat.reduceSub,Nat.reduceMul,Nat.reduceLeDiff,Nat.reduceEqDiff,Nat.reduceGT,Nat.reduceBEq,reduceCtorEq,↓reduceIte,Int.reduceToNat,Int.reduceLE,Int.reduceLT,Int.reduceNe,Int.reduceEq,dp,gj,hb,ha]
 exact⟨l7 (by simp(maxDischargeDepth:=12) (maxSteps:=1000000) -implicitDefEqProofs only[go_sem,Nat.reduceAdd,Nat.reduceSub,Nat.reduceMul,Nat.reduceLeDiff,Nat.reduceEqDiff,Nat.reduceGT,Nat.reduceBEq,reduceCtorEq,↓reduceIte,Int.reduceToNat,Int.reduceLE,Int.reduceLT,Int.reduceNe,Int.reduceEq]),l7 (by simp(maxDischargeDepth:=12) (maxSteps:=1000000) -implicitDefEqProofs only[go_sem,Nat.reduceAdd,Nat.reduceSub,Nat.reduceMul,Nat.reduceLeDiff,Nat.reduceEqDiff,Nat.reduceGT,Nat.reduceBEq,reduceCtorEq,↓reduceIte,Int.reduceToNat,Int.reduceLE,Int.reduceLT,Int.reduceNe,Int.reduceEq]),l7 (by simp(maxDischargeDepth:=12) (maxSteps:=1000000) -implicitDefEqProofs only[go_sem,Nat.reduceAdd,Nat.reduceSub,Nat.reduceMul,Nat.reduceLeDiff,Nat.reduceEqDiff,Nat.reduceGT,Nat.reduceBEq,reduceCtorEq,↓reduceIte,Int.reduceToNat,Int.reduceLE,Int.reduceLT,Int.reduceNe,Int.reduceEq]),l7 (by simp(maxDischargeDepth:=12) (maxSteps:=1000000) -implicitDefEqProofs only[go_sem,Nat.reduceAdd,Nat.reduceSub,Nat.reduceMul,Nat.reduceLeDiff,Nat.reduceEqDiff,Nat.reduceGT,Nat.reduceBEq,reduceCtorEq,↓reduceIte,Int.reduceToNat,Int.reduceLE,Int.reduceLT,Int.reduceNe,Int.reduceEq]),_,_,.refl _,.bu (.refl _),rfl,rfl⟩
theorem WX(w0:W0)(B:List Int)(h:Dc S b lw z o (yp z.l) W q A ws)(hB:B.length+o.own.length≤1048576)(p:Pl)(hl:∀S,aa Tryz.prog w0 131 [eV o.n o.l,eV z.n z.l] S (fun d S'=>d=dL B∧S'=S))(hf:∀S,aa Tryz.prog w0 132 [dP z.p,dU z.bE,dL (B++o.own)] S (fun d S'=>d=dP p∧S'=S)):
 aa Tryz.prog w0 78 [BF b] S (fun d S'=>d=dB true∧S'=dp S b lw {z with p:=p} o (yp z.l) W q A ws):=by
 have hb:=h.box
 have ha:=h.acc
 unfold gj at hb
 refine vF [] mx Tryz.func78 rfl rfl (by kernel_rfl) ?_;(refine @ab _ ?_;refine eW @Tryz.ntmps78 @hb @ha ?_)
 have hcc:=JU w0 B o.own S hB
 refine aS (hl _) ?_
 (refine @ab _ ?_;refine ba @hb @ha ?_)
 refine aS hcc ?_ (.cons (Wk.full _ _ _) .nil)
 (refine @ab _ ?_;refine ba @hb @ha ?_)
 refine aS (hf _) ?_
 (refine @ab _ ?_;refine ba @hb @ha ?_)
 refine⟨_,_,.refl _,?_,rfl,rfl⟩
 unfold dp
 rw[dD ha]
 exact .refl _
end
end Go.Proofs.YtpjenciplibdnaaGreatDoor
namespace Go.Proofs.YtpjenciplibdnaaGreatDoor
open Aml Go
theorem nL{P:Program}{w0:W0}{f:FuncId}{args args':List DV}{S T:St}{K:DV→St→Prop}{r:DV}(h:aa P w0 f args' S (fun d S'=>d=r∧S'=T))(hk:K r T)(ha:gC args args':=by exact gC.refl _):@AC P w0 f args S ⟨K⟩:=bA h (fun d S' e=>by rw[e.1,e.2];exact hk) ha
section
variable {S:St} {b lw:Nat} {z o:Zt} {L W A:DV} {q:Int} {ws:List (Int×ByteArray)}
theorem Wd(w0:W0)(h:Dc S b lw z o L W q A ws)(wn m:Int)(p:Pl)(at_ ls:List Int)(pg:List ByteArray)(hlw:ws.length+pg.length≤1048576)(hl:pg.length=at_.length)(hlf:z.p.free.length≤1048576)
 (h1:∀S,aa Tryz.prog w0 134 [dP z.p] S (fun d S'=>d=dI wn∧S'=S)) (h2:∀S,aa Tryz.prog w0 133 [dI z.p.free.length,dI wn] S (fun d S'=>d=dI m∧S'=S))
 (h3:∀S,aa Tryz.prog w0 179 [dP z.p,dI q,dI m] S (fun d S'=>d= .bD [dP p,dL at_,dB true]∧S'=S))
 (h4:∀S,aa Tryz.prog w0 50 [dP p] S (fun d S'=>d=dL ls∧S'=S)) (h5:∀S,aa Tryz.prog w0 135 [dL ls,dL at_] S (fun d S'=>d= .bD [.sl 1 false (pg.map fC),dI 0]∧S'=S)):
 aa Tryz.prog w0 79 [BF b] S (fun d S'=>d=dB true∧S'=dp S b lw {z with p:=p,nT:=at_.headD 0,high:=p.high} o L (dL at_) q A (ws++at_.zip pg)):=by
 have hb:=h.box
 have ha:=h.acc
 unfold gj at hb
 refine vF [1,6] mx Tryz.func79 rfl rfl (by kernel_rfl) ?_;(refine @ab _ ?_;refine eW @Tryz.ntmps79 @hb @ha ?_)
 refine Y.l8 [] [15] [0,1,2,3,4,5,8,9,10,11,6,7,12,13,14,15,16,17,18,19,20] mx (by kernel_rfl) ?_
 (refine @ab _ ?_;refine ba @hb @ha ?_)
 refine Y.tc (fun T _=>h1 T) ?_
 (refine @ab _ ?_;refine ba @hb @ha ?_)
 refine Y.tc (fun T _=>h2 T) ?_
 (refine @ab _ ?_;refine ba @hb @ha ?_)
 refine nL (QZ w0 m h p at_ true h3) ?_
 have hb2:=(EX h {z with p:=p} L W A ws).box
 have ha2:=(EX h {z with p:=p} L W A ws).acc
 have hpost:dp S b lw {z with p:=p,nT:=at_.headD 0,high:=p.high} o L (dL at_) q A (ws++at_.zip pg)=dp (dp S b lw {z with p:=p} o L W q A ws) b lw {z with p:=p,nT:=at_.headD 0,high:=p.high} o L (dL at_) q A (ws++at_.zip pg):=Ct.symm
 have hWT:=EX h {z with p:=p} L W A ws
 rw[hpost]
 clear hpost
 generalize dp S b lw {z with p:=p} o L W q A ws=T at hb2 ha2 hWT ⊢
 dsimp only[gj]at hb2
 (refine @ab _ ?_;refine ba @hb2 @ha2 ?_)
 refine ao (h4 _) ?_
 (refine @ab _ ?_;refine ba @hb2 @ha2 ?_)
 refine ao (h5 _) ?_
 (refine @ab _ ?_;refine ba @hb2 @ha2 ?_)
 obtain⟨U,hU1,hU2,hU3,hU4⟩:∃U:Nat→St,(∀k,Dc (U k) b lw {z with p:=p} o L W q A (ws++(at_.zip pg).take k))∧U 0=T∧(∀k z' L' W' A' w',dp T b lw z' o L' W' q A' w'=dp (U k) b lw z' o L' W' q A' w')∧∀k,U (k+1)=dp (U k) b lw {z with p:=p} o L W q A (ws++(at_.zip pg).take (k+1)):=
  ⟨fun k=>dp T b lw {z with p:=p} o L W q A (ws++(at_.zip pg).take k),fun k=>EX hWT _ _ _ _ _,by show dp T b lw _ o L W q A (ws++[])=T;rw[List.append_nil];exact MI hWT,fun k _ _ _ _ _=>Ct.symm,fun k=>Ct.symm⟩
 refine aF [6] pg.length [0,3,4,6,39,40,41] (fun k=>[(41,dI k)]) U (fun _=>True) mx (by kernel_rfl) ?_ ?_
 ·rw[hU2]
  (refine @ab _ ?_;exact aV)
 ·intro k hk _
  have ek:IntKind.i64.wrap ((k:Int)+1)=((k+1:Nat):Int):=by rw[aX (by omega) (by omega)];omega
  have hb3:=(hU1 k).box
  have ha3:=(hU1 k).acc
  have hzl:((at_.zip pg).take k).length=k:=by rw[List.length_take,List.length_zip];omega
  have hwl:(ws++(at_.zip pg).take k).length=ws.length+k:=by rw[List.length_append,hzl]
  rw[hwl]at hb3
  dsimp only[gj]at hb3
  (refine @ab _ ?_;refine eW @hb3 @ha3 @ek ?_)
  refine⟨fun hlt=>?_,fun hge=>?_⟩
  ·refine⟨hlt,fun c hc=>?_⟩
   refine Y.l8 [] [12,15] [0,1,2,3,5,6,7,9,4,8,10,11,12,13,14,15] mx (by kernel_rfl) ?_
   have hm8:maxLen=9223372036854775807:=rfl
   (refine @ab _ ?_;refine eW @hb3 @ha3 @ek ?_)
   refine⟨by omega,fun a ha1=>?_⟩
   have hlz:min k (at_.zip pg).length=k:=by rw[List.length_zip];omega
   have hs:(at_.zip pg).take (k+1)=(at_.zip pg).take k++[(a,c)]:=by
    rw[List.take_add_one]
    congr 1
    rw[List.getElem?_zip_eq_some (z:=(a,c)).2 ⟨ha1,hc⟩];rfl
   refine⟨by omega,by omega,by omega,hlt,?_⟩
   rw[hU4 k,hs,hlz]
   unfold dp
   rw[←List.append_assoc,List.length_append,hwl,List.map_append]
   exact .refl _
  ·have htk:ws++(at_.zip pg).take k=ws++at_.zip pg:=by rw[List.take_of_length_le (by rw[List.length_zip];omega)]
   rw[hU3 k]
   have hfin:∀a,a=at_.headD 0→dp (U k) b lw {z with p:=p,nT:=at_.headD 0,high:=p.high} o L (dL at_) q A (ws++at_.zip pg)=dp (U k) b lw {z with p:=p,nT:=a,high:=p.high} o L (dL at_) q A (ws++at_.zip pg):=by rintro a rfl;rfl
   have hgo:∀a,a=at_.headD 0→∃d' S'',Wk (dB true) d'∧Aml.Sub S'' (⟨up (U k).box b (gj {z with p:=p,nT:=a,high:=p.high} o L (dL at_) q A lw (ws.length+k)),(U k).acc⟩:St)∧d'=dB true∧S''=dp (U k) b lw {z with p:=p,nT:=at_.headD 0,high:=p.high} o L (dL at_) q A (ws++at_.zip pg):=fun a e=>by
    refine⟨_,_,.refl _,?_,rfl,rfl⟩
    rw[hfin a e]
    unfold dp
    rw[←htk,hwl,dD ha3]
    exact .refl _
   refine⟨fun hp=>⟨hp,fun a ha1=>?_⟩,fun hp=>?_⟩
   ·refine hgo a ?_
    cases at_ with
    |nil=>cases ha1
    |cons x l=>cases ha1;rfl
   ·refine hgo 0 ?_
    cases at_ with
    |nil=>rfl
    |cons x l=>exact absurd (by simp) hp
end
end Go.Proofs.YtpjenciplibdnaaGreatDoor
namespace Go.Proofs.YtpjenciplibdnaaGreatDoor
open Aml Go
theorem ml(a b:ByteArray):cW (a++b)=cW a++cW b:=by
 unfold cW
 rw[←List.map_append]
 congr 1
theorem o8(x:Int)(h0:0≤x)(h1:x≤255):cW (strOfNums [x])=[x]:=by
 have e:cW (strOfNums [x])=[((UInt8.ofNat x.toNat).toNat:Int)]:=rfl
 rw[e]
 have:(UInt8.ofNat x.toNat).toNat=x.toNat:=by
  rw[UInt8.toNat_ofNat'];omega
 rw[this]
 congr 1
 omega
def pP(l:List Int)(x:Int):Int:=l.foldl (fun x c=>IntKind.u64.wrap (IntKind.u64.wrap (x*256)+IntKind.u64.wrap c)) x
theorem zU(l m:List Int)(x:Int):pP (l++m) x=pP m (pP l x):=List.foldl_append
theorem Et:∀(i:Nat) (x:Nat),x<18446744073709551616→iw i (x:Int)=((x/256^i:Nat):Int)
 |0,x,h=>by simp[iw]
 |i+1,x,h=>by
  rw[iw,Et i x h]
  have h1:x/256^i≤x:=Nat.div_le_self _ _
  have e:((x/256^i:Nat):Int).tdiv 256=((x/256^(i+1):Nat):Int):=by
   rw[Nat.pow_succ,←Nat.div_div_eq_div_mul];rfl
  rw[e]
  have h2:x/256^(i+1)≤x:=Nat.div_le_self _ _
  generalize x/256^(i+1)=y at*
  exact gJ (by omega) (by omega)
theorem EA:∀(k x y:Nat),x<18446744073709551616→(y+1)*256^k≤18446744073709551616→pP (cW (aC k (x:Int))) (y:Int)=((y*256^k+x%256^k:Nat):Int)
 |0,x,y,_,_=>by
  have e:cW (aC 0 (x:Int))=[]:=rfl
  rw[e]
  show(y:Int)=_
  simp[Nat.mod_one]
 |k+1,x,y,hx,hy=>by
  have hp:0<256^k:=Nat.pow_pos (by decide)
  have hb:IntKind.u8.wrap (iw k (x:Int))=((x/256^k%256:Nat):Int):=by
   rw[Et k x hx];rfl
  have h256:x/256^k%256<256:=Nat.mod_lt _ (by decide)
  have hy2:(y+1)*256*256^k≤18446744073709551616:=by
   rw[Nat.mul_assoc,Nat.mul_comm 256,←Nat.pow_succ];exact hy
  have hy3:(y+1)*256≤18446744073709551616:=Nat.le_trans (Nat.le_mul_of_pos_right _ hp) hy2
  rw[aC,ml,hb,o8 _ (by omega) (by omega),zU]
  have e1:pP [((x/256^k%256:Nat):Int)] (y:Int)=((y*256+x/256^k%256:Nat):Int):=by
   show IntKind.u64.wrap (IntKind.u64.wrap ((y:Int)*256)+IntKind.u64.wrap _)=_
   rw[gJ (n:=(y:Int)*256) (by omega) (by omega),gJ (n:=((x/256^k%256:Nat):Int)) (by omega) (by omega),gJ (by omega) (by omega)]
   omega
  rw[e1,EA k x (y*256+x/256^k%256) hx (Nat.le_trans (Nat.mul_le_mul_right _ (by omega)) hy2)]
  congr 1
  have h3:x%256^(k+1)=x%256^k+256^k*(x/256^k%256):=by rw[Nat.pow_succ,Nat.mod_mul]
  rw[h3,Nat.add_mul,Nat.pow_succ,Nat.mul_comm (256^k) 256,Nat.mul_assoc,Nat.mul_comm (256^k)]
  omega
theorem sT{k:Nat}{x:Int}(hk:k=1∧x<256∨2≤k∧k≤8∧x<65536)(h0:0≤x):pP (cW (aC k x)) 0=x:=by
 obtain⟨n,rfl⟩:∃n:Nat,x=n:=⟨x.toNat,by omega⟩
 have hp:256^k≤18446744073709551616:=by
  have:(256:Nat)^k≤256^8:=Nat.pow_le_pow_right (by decide) (by omega)
  exact this
 have:=EA k n 0 (by omega) (by omega)
 rw[show((0:Nat):Int)=0 from rfl]at this
 rw[this,Nat.zero_mul,Nat.zero_add,Nat.mod_eq_of_lt]
 rcases hk with⟨rfl,h⟩|⟨h2,h8,h⟩
 ·omega
 ·have:(256:Nat)^2≤256^k:=Nat.pow_le_pow_right (by decide) h2
  omega
theorem V9(s r:ByteArray):(s++r).extract 0 s.size=s:=ByteArray.extract_append_eq_left rfl
theorem U7(s r:ByteArray):(s++r).extract s.size (s++r).size=r:=ByteArray.extract_append_eq_right rfl (by rw[ByteArray.size_append])
theorem Vl(w0:W0)(b:Nat)(s r:ByteArray)(S:St)(hb:lk S.box b=some [dS (s++r),dI 0]):aa Tryz.prog w0 109 [.v (.pointer (some ⟨b,0,none⟩)),dI s.size] S (fun d S'=>d=dS s∧S'=⟨up S.box b [dS r,dI 0],S.acc⟩):=by
 have e1:=V9 s r
 have e2:=U7 s r
 have hz:(s++r).size=s.size+r.size:=ByteArray.size_append
 refine mf [] mx Tryz.func109 rfl rfl (by kernel_rfl) ?_;simp(maxDischargeDepth:=12) (maxSteps:=1000000) -implicitDefEqProofs only[Tryz.ntmps109,go_sem,Nat.reduceAdd,Nat.reduceSub,Nat.reduceMul,Nat.reduceLeDiff,Nat.reduceEqDiff,Nat.reduceGT,Nat.reduceBEq,reduceCtorEq,↓reduceIte,Int.reduceToNat,Int.reduceLE,Int.reduceLT,Int.reduceNe,Int.reduceEq,hb,e1,e2]
 refine⟨fun h=>absurd h (by omega),fun _=>⟨by omega,by omega,?_⟩⟩
 rw[←hz,e2]
theorem X0(w0:W0)(b:Nat)(s r:ByteArray)(S:St)(hb:lk S.box b=some [dS (s++r),dI 0])(h1:1≤s.size)(h8:s.size≤8):aa Tryz.prog w0 59 [.v (.pointer (some ⟨b,0,none⟩)),dI s.size] S (fun d S'=>d=dU (pP (cW s) 0)∧S'=⟨up S.box b [dS r,dI 0],S.acc⟩):=by
 have hs:=Vl w0 b s r S hb
 refine mf [] mx Tryz.func59 rfl rfl (by kernel_rfl) ?_;simp(maxDischargeDepth:=12) (maxSteps:=1000000) -implicitDefEqProofs only[Tryz.ntmps59,go_sem,Nat.reduceAdd,Nat.reduceSub,Nat.reduceMul,Nat.reduceLeDiff,Nat.reduceEqDiff,Nat.reduceGT,Nat.reduceBEq,reduceCtorEq,↓reduceIte,Int.reduceToNat,Int.reduceLE,Int.reduceLT,Int.reduceNe,Int.reduceEq,hb]
 refine⟨fun h=>absurd h (by omega),fun _=>⟨fun h=>absurd h (by omega),fun _=>?_⟩⟩
 refine nL hs ?_
 simp(maxDischargeDepth:=12) (maxSteps:=1000000) -implicitDefEqProofs only[go_sem,Nat.reduceAdd,Nat.reduceSub,Nat.reduceMul,Nat.reduceLeDiff,Nat.reduceEqDiff,Nat.reduceGT,Nat.reduceBEq,reduceCtorEq,↓reduceIte,Int.reduceToNat,Int.reduceLE,Int.reduceLT,Int.reduceNe,Int.reduceEq]
 refine aF [] s.size [5,6,7] (fun i=>[(6,dU (pP ((cW s).take i) 0)),(7,dI i)]) (fun _=>⟨up S.box b [dS r,dI 0],S.acc⟩) (fun _=>True) mx (by kernel_rfl) ?_ ?_
 ·simp(maxDischargeDepth:=12) (maxSteps:=1000000) -implicitDefEqProofs only[go_sem,Nat.reduceAdd,Nat.reduceSub,Nat.reduceMul,Nat.reduceLeDiff,Nat.reduceEqDiff,Nat.reduceGT,Nat.reduceBEq,reduceCtorEq,↓reduceIte,Int.reduceToNat,Int.reduceLE,Int.reduceLT,Int.reduceNe,Int.reduceEq]
  rfl
 ·intro i hi _
  simp(maxDischargeDepth:=12) (maxSteps:=1000000) -implicitDefEqProofs only[go_sem,Nat.reduceAdd,Nat.reduceSub,Nat.reduceMul,Nat.reduceLeDiff,Nat.reduceEqDiff,Nat.reduceGT,Nat.reduceBEq,reduceCtorEq,↓reduceIte,Int.reduceToNat,Int.reduceLE,Int.reduceLT,Int.reduceNe,Int.reduceEq]
  refine⟨fun hlt=>⟨hlt,fun c hc=>⟨hlt,?_,by rw[aX (by omega) (by omega)];omega⟩⟩,fun hge=>by rw[List.take_of_length_le (by rw[oV];omega)]⟩
  have e:(cW s)[i]? =some (c.toNat:Int):=by unfold cW;rw[List.getElem?_map,hc];rfl
  rw[List.take_add_one,e,Option.toList_some,zU]
  rfl
theorem xD{s:ByteArray}{i:Nat}{c:UInt8}(hc:s.data.toList[i]? =some c):(cW s)[i]? =some (c.toNat:Int):=by
 unfold cW;rw[List.getElem?_map,hc];rfl
theorem QN(kind:Int)(c:ByteArray)(hc:c.size≤120):ca kind [c]=strOfNums [kind,1,128-c.size]++(strOfNums (List.replicate (121-c.size) 0)++c):=by
 have e1:fT [c] aJ aJ=strOfNums [IntKind.u8.wrap (IntKind.i64.wrap (128-(((c++aJ).size:Nat):Int)))]:=by
  show aJ++_=_
  exact ByteArray.empty_append
 have e2:c++aJ=c:=ByteArray.append_empty
 have e3:bT [c] aJ=c:=e2
 have e4:IntKind.u8.wrap (IntKind.i64.wrap (128-((c.size:Nat):Int)))=128-c.size:=by
  rw[aX (by omega) (by omega)];exact ZB (by omega) (by omega)
 have e5:bO [c]=c.size+1:=by simp[bO]
 unfold ca
 rw[e1,e2,e3,e4,e5,cZ kind [1,_],cZ 1 [_],cZ kind [_]]
 rw[ByteArray.append_assoc,ByteArray.append_assoc,ByteArray.append_assoc,ByteArray.append_assoc,show 122-(c.size+1)=121-c.size by omega]
 rfl
theorem MQ(kind:Int)(c:ByteArray)(hc:c.size≤120):
 (cS kind [c]).extract 4 128=ca kind [c]∧(cS kind [c]).extract 0 4=aC 4 (IntKind.u64.wrap (vd 0 (ca kind [c])))∧(cS kind [c]).extract (128-c.size) 128=c:=by
 have hb:(ca kind [c]).size=124:=kP kind (by simp[bO];omega)
 have hn:(aC 4 (IntKind.u64.wrap (vd 0 (ca kind [c])))).size=4:=av _ _
 refine⟨ByteArray.extract_append_eq_right hn.symm (by rw[hn,hb]),ByteArray.extract_append_eq_left hn.symm,?_⟩
 unfold cS
 generalize aC 4 (IntKind.u64.wrap (vd 0 (ca kind [c])))=H at*
 rw[QN kind c hc,←ByteArray.append_assoc,←ByteArray.append_assoc]
 have hz:(H++strOfNums [kind,1,128-(c.size:Int)]++strOfNums (List.replicate (121-c.size) 0)).size=128-c.size:=by
  rw[ByteArray.size_append,ByteArray.size_append,strOfNums_size,strOfNums_size,hn]
  simp;omega
 exact ByteArray.extract_append_eq_right hz.symm (by rw[hz];omega)
theorem P6(kind:Int)(c:ByteArray)(hk:0≤kind∧kind≤255)(hc:0<c.size∧c.size≤120):
 (cW (cS kind [c]))[4]? =some kind∧(cW (cS kind [c]))[5]? =some 1∧(cW (cS kind [c]))[6]? =some (128-(c.size:Int)):=by
 have hn:(aC 4 (IntKind.u64.wrap (vd 0 (ca kind [c])))).size=4:=av _ _
 unfold cS
 generalize aC 4 (IntKind.u64.wrap (vd 0 (ca kind [c])))=H at*
 have hl:(cW H).length=4:=by rw[oV,hn]
 rw[QN kind c hc.2,cZ kind [1,_],cZ 1 [_],ml,ml,ml,ml,o8 _ hk.1 hk.2,o8 1 (by decide) (by decide),o8 _ (by omega) (by omega)]
 refine⟨?_,?_,?_⟩ <;>rw[List.getElem?_append_right (by omega),hl] <;>rfl
theorem P5(w0:W0)(kind:Int)(c:ByteArray)(S:St)(hk:1≤kind∧kind≤255)(hc:0<c.size∧c.size≤120):aa Tryz.prog w0 58 [dS (cS kind [c])] S (fun d S'=>d= .bD [dY kind,.sl 1 false [dS c],dI 0]∧S'=S):=by
 have hsz:bO [c]≤122:=by simp[bO];omega
 have hz:(cS kind [c]).size=128:=je kind hsz
 obtain⟨x1,x2,x3⟩:=MQ kind c hc.2
 obtain⟨y1,y2,y3⟩:=P6 kind c ⟨by omega,hk.2⟩ hc
 have hb:(ca kind [c]).size=124:=kP kind hsz
 have hof:=fun S=>Zl w0 (ca kind [c]) S (by omega)
 have hnu:=fun S=>CU w0 (IntKind.u64.wrap (vd 0 (ca kind [c]))) 4 S (by omega) (by omega)
 have hpk:=fun S=>Ri w0 kind [c] S (by omega) hsz
 generalize cS kind [c]=PK at*
 generalize ca kind [c]=BD at*
 generalize aC 4 (IntKind.u64.wrap (vd 0 BD))=H at*
 have z1:∀x:UInt8,PK.data.toList[5]? =some x→(x.toNat:Int)=1:=fun x h=>by have:=(xD h).symm.trans y2;injection this
 have z2:∀x:UInt8,PK.data.toList[4]? =some x→(x.toNat:Int)=kind:=fun x h=>by have:=(xD h).symm.trans y1;injection this
 have z3:∀x:UInt8,PK.data.toList[6]? =some x→(x.toNat:Int)=128-c.size:=fun x h=>by have:=(xD h).symm.trans y3;injection this
 have hee:eS H H=true:=jy H
 have w1:IntKind.i64.wrap 1=1:=by decide
 refine aZ [] mx Tryz.func58 rfl rfl (by kernel_rfl) ?_;simp(maxDischargeDepth:=12) (maxSteps:=1000000) -implicitDefEqProofs only[Tryz.ntmps58,go_sem,Nat.reduceAdd,Nat.reduceSub,Nat.reduceMul,Nat.reduceLeDiff,Nat.reduceEqDiff,Nat.reduceGT,Nat.reduceBEq,reduceCtorEq,↓reduceIte,Int.reduceToNat,Int.reduceLE,Int.reduceLT,Int.reduceNe,Int.reduceEq,hz,x1,x2,x3]
 refine aS (hof _) ?_
 simp(maxDischargeDepth:=12) (maxSteps:=1000000) -implicitDefEqProofs only[go_sem,Nat.reduceAdd,Nat.reduceSub,Nat.reduceMul,Nat.reduceLeDiff,Nat.reduceEqDiff,Nat.reduceGT,Nat.reduceBEq,reduceCtorEq,↓reduceIte,Int.reduceToNat,Int.reduceLE,Int.reduceLT,Int.reduceNe,Int.reduceEq,hz,x2,hee]
 refine aS (hnu _) ?_
 simp(maxDischargeDepth:=12) (maxSteps:=1000000) -implicitDefEqProofs only[go_sem,Nat.reduceAdd,Nat.reduceSub,Nat.reduceMul,Nat.reduceLeDiff,Nat.reduceEqDiff,Nat.reduceGT,Nat.reduceBEq,reduceCtorEq,↓reduceIte,Int.reduceToNat,Int.reduceLE,Int.reduceLT,Int.reduceNe,Int.reduceEq,hz,x2,hee]
 intro q5 h5
 rw[z1 q5 h5,w1]
 have w6:IntKind.i64.wrap (6+0)=6:=by decide
 have w7:IntKind.i64.wrap (0+1)=1:=by decide
 have w8:IntKind.i64.wrap (128-(c.size:Int))=128-c.size:=aX (by omega) (by omega)
 have hm8:maxLen=9223372036854775807:=rfl
 refine nV 7 1 rfl (by omega) fun lc=>?_
 refine aF [] 1 [0,5,6,7,8] (fun k=>[(6,dI (128-(c.size:Int)*k)),(7,.acc lc.n k),(8,dI k)]) (fun k=>⟨S.box,(lc.n,.arr 1 (([dS c]).take k))::S.acc⟩) (fun _=>True) mx (by kernel_rfl) ?_ ?_
 ·simp(maxDischargeDepth:=12) (maxSteps:=1000000) -implicitDefEqProofs only[go_sem,Nat.reduceAdd,Nat.reduceSub,Nat.reduceMul,Nat.reduceLeDiff,Nat.reduceEqDiff,Nat.reduceGT,Nat.reduceBEq,reduceCtorEq,↓reduceIte,Int.reduceToNat,Int.reduceLE,Int.reduceLT,Int.reduceNe,Int.reduceEq]
  omega
 ·intro k hk _
  match k,hk with
  |0,_=>
   simp(maxDischargeDepth:=12) (maxSteps:=1000000) -implicitDefEqProofs only[go_sem,Nat.reduceAdd,Nat.reduceSub,Nat.reduceMul,Nat.reduceLeDiff,Nat.reduceEqDiff,Nat.reduceGT,Nat.reduceBEq,reduceCtorEq,↓reduceIte,Int.reduceToNat,Int.reduceLE,Int.reduceLT,Int.reduceNe,Int.reduceEq,hz,x3,w6,w7]
   have e6:(6:Int).toNat=6:=rfl
   have e0:(128:Int)-(c.size:Int)*0=128:=by omega
   have e1:(128:Int)-(c.size:Int)*1=128-c.size:=by omega
   rw[e0,e1]
   refine⟨fun h=>absurd h (by decide),fun _ x hx=>?_⟩
   rw[z3 x hx,w8]
   refine⟨fun h=>absurd h (by omega),fun _ x hx=>?_⟩
   rw[z3 x hx,w8]
   refine⟨by omega,by omega,by omega,by omega,fun y hy=>?_⟩
   rw[z3 y hy,w8,show((128:Int)-(c.size:Int)).toNat=128-c.size by omega,show(128:Int).toNat=128 from rfl,x3]
   exact⟨rfl,.refl _⟩
  |1,_=>
   simp(maxDischargeDepth:=12) (maxSteps:=1000000) -implicitDefEqProofs only[go_sem,Nat.reduceAdd,Nat.reduceSub,Nat.reduceMul,Nat.reduceLeDiff,Nat.reduceEqDiff,Nat.reduceGT,Nat.reduceBEq,reduceCtorEq,↓reduceIte,Int.reduceToNat,Int.reduceLE,Int.reduceLT,Int.reduceNe,Int.reduceEq,hz,x3]
   intro x hx
   rw[z2 x hx]
   refine .inr (ao (hpk _) ?_)
   have heq:eS PK PK=true:=jy PK
   simp(maxDischargeDepth:=12) (maxSteps:=1000000) -implicitDefEqProofs only[go_sem,Nat.reduceAdd,Nat.reduceSub,Nat.reduceMul,Nat.reduceLeDiff,Nat.reduceEqDiff,Nat.reduceGT,Nat.reduceBEq,reduceCtorEq,↓reduceIte,Int.reduceToNat,Int.reduceLE,Int.reduceLT,Int.reduceNe,Int.reduceEq,heq,hz]
   intro x hx
   rw[z2 x hx]
   exact .refl _
end Go.Proofs.YtpjenciplibdnaaGreatDoor
namespace Go.Proofs.YtpjenciplibdnaaGreatDoor
open Aml Go
section
variable {a t r l h:Int}
theorem Iz(w0:W0)(n:Int)(S:St)(hn:n=0∨(2≤n∧n<h)):aa Tryz.prog w0 148 [Hj a t r l h,dI n] S (fun d S'=>d=dB true∧S'=S):=by
 refine aZ [] mx Tryz.func148 rfl rfl (by kernel_rfl) ?_;simp(maxDischargeDepth:=12) (maxSteps:=1000000) -implicitDefEqProofs only[Tryz.ntmps148,go_sem,Nat.reduceAdd,Nat.reduceSub,Nat.reduceMul,Nat.reduceLeDiff,Nat.reduceEqDiff,Nat.reduceGT,Nat.reduceBEq,reduceCtorEq,↓reduceIte,Int.reduceToNat,Int.reduceLE,Int.reduceLT,Int.reduceNe,Int.reduceEq]
 exact fun b h0=>⟨fun _=>by omega,fun h1=>by omega⟩
theorem J1(w0:W0)(S:St)(hm:pv a t r l h):aa Tryz.prog w0 94 [Hj a t r l h] S (fun d S'=>d=dB true∧S'=S):=by
 have hp1:=fun S=>Iz (a:=a) (t:=t) (r:=r) (l:=l) (h:=h) w0 r S hm.hr
 have hp2:=fun S=>Iz (a:=a) (t:=t) (r:=r) (l:=l) (h:=h) w0 l S hm.hl
 obtain⟨q1,q2,q3,q4,q5,q6⟩:=hm
 refine aZ [] mx Tryz.func94 rfl rfl (by kernel_rfl) ?_;simp(maxDischargeDepth:=12) (maxSteps:=1000000) -implicitDefEqProofs only[Tryz.ntmps94,go_sem,Nat.reduceAdd,Nat.reduceSub,Nat.reduceMul,Nat.reduceLeDiff,Nat.reduceEqDiff,Nat.reduceGT,Nat.reduceBEq,reduceCtorEq,↓reduceIte,Int.reduceToNat,Int.reduceLE,Int.reduceLT,Int.reduceNe,Int.reduceEq]
 intro b
 refine⟨fun _=>⟨fun _=>⟨fun _=>⟨fun _=>⟨fun _=>ao (hp1 _) ?_,fun h=>by omega⟩,fun h=>by omega⟩,fun h=>by omega⟩,fun h=>by omega⟩,fun h=>by omega⟩
 simp(maxDischargeDepth:=12) (maxSteps:=1000000) -implicitDefEqProofs only[go_sem,Nat.reduceAdd,Nat.reduceSub,Nat.reduceMul,Nat.reduceLeDiff,Nat.reduceEqDiff,Nat.reduceGT,Nat.reduceBEq,reduceCtorEq,↓reduceIte,Int.reduceToNat,Int.reduceLE,Int.reduceLT,Int.reduceNe,Int.reduceEq]
 refine ao (hp2 _) ?_
 simp(maxDischargeDepth:=12) (maxSteps:=1000000) -implicitDefEqProofs only[go_sem,Nat.reduceAdd,Nat.reduceSub,Nat.reduceMul,Nat.reduceLeDiff,Nat.reduceEqDiff,Nat.reduceGT,Nat.reduceBEq,reduceCtorEq,↓reduceIte,Int.reduceToNat,Int.reduceLE,Int.reduceLT,Int.reduceNe,Int.reduceEq]
 intro h1
 omega
theorem SZ(w0:W0)(S:St)(hm:pv a t r l h):aa Tryz.prog w0 45 [Hj a t r l h] S (fun d S'=>d= .bD [dS (mE a t r l h),dI 0]∧S'=S):=by
 have hck:=fun S=>J1 w0 S hm
 have hpk:=fun S=>Ri w0 5 [jB a t r l h] S (by decide) (by simp only[bO,List.map_cons,List.map_nil,List.sum_cons,List.sum_nil,jn];omega)
 obtain⟨q1,q2,q3,q4,q5,q6⟩:=hm
 have ea:IntKind.u64.wrap a=a:=gJ (by omega) (by omega)
 have er:IntKind.u64.wrap r=r:=gJ (by omega) (by omega)
 have el:IntKind.u64.wrap l=l:=gJ (by omega) (by omega)
 have eh:IntKind.u64.wrap h=h:=gJ (by omega) (by omega)
 refine aZ [] mx Tryz.func45 rfl rfl (by kernel_rfl) ?_;simp(maxDischargeDepth:=12) (maxSteps:=1000000) -implicitDefEqProofs only[Tryz.ntmps45,go_sem,Nat.reduceAdd,Nat.reduceSub,Nat.reduceMul,Nat.reduceLeDiff,Nat.reduceEqDiff,Nat.reduceGT,Nat.reduceBEq,reduceCtorEq,↓reduceIte,Int.reduceToNat,Int.reduceLE,Int.reduceLT,Int.reduceNe,Int.reduceEq]
 intro b
 refine ao (hck _) ?_
 simp(maxDischargeDepth:=12) (maxSteps:=1000000) -implicitDefEqProofs only[go_sem,Nat.reduceAdd,Nat.reduceSub,Nat.reduceMul,Nat.reduceLeDiff,Nat.reduceEqDiff,Nat.reduceGT,Nat.reduceBEq,reduceCtorEq,↓reduceIte,Int.reduceToNat,Int.reduceLE,Int.reduceLT,Int.reduceNe,Int.reduceEq,ea,er,el,eh]
 have hz:=av
 refine aS (CU w0 a 1 _ (by decide) (by decide)) ?_
 simp(maxDischargeDepth:=12) (maxSteps:=1000000) -implicitDefEqProofs only[go_sem,Nat.reduceAdd,Nat.reduceSub,Nat.reduceMul,Nat.reduceLeDiff,Nat.reduceEqDiff,Nat.reduceGT,Nat.reduceBEq,reduceCtorEq,↓reduceIte,Int.reduceToNat,Int.reduceLE,Int.reduceLT,Int.reduceNe,Int.reduceEq,ea,er,el,eh,hz]
 refine aS (CU w0 t 8 _ (by decide) (by decide)) ?_
 simp(maxDischargeDepth:=12) (maxSteps:=1000000) -implicitDefEqProofs only[go_sem,Nat.reduceAdd,Nat.reduceSub,Nat.reduceMul,Nat.reduceLeDiff,Nat.reduceEqDiff,Nat.reduceGT,Nat.reduceBEq,reduceCtorEq,↓reduceIte,Int.reduceToNat,Int.reduceLE,Int.reduceLT,Int.reduceNe,Int.reduceEq,ea,er,el,eh,hz,ByteArray.size_append]
 refine aS (CU w0 r 2 _ (by decide) (by decide)) ?_
 simp(maxDischargeDepth:=12) (maxSteps:=1000000) -implicitDefEqProofs only[go_sem,Nat.reduceAdd,Nat.reduceSub,Nat.reduceMul,Nat.reduceLeDiff,Nat.reduceEqDiff,Nat.reduceGT,Nat.reduceBEq,reduceCtorEq,↓reduceIte,Int.reduceToNat,Int.reduceLE,Int.reduceLT,Int.reduceNe,Int.reduceEq,ea,er,el,eh,hz,ByteArray.size_append]
 refine aS (CU w0 l 2 _ (by decide) (by decide)) ?_
 simp(maxDischargeDepth:=12) (maxSteps:=1000000) -implicitDefEqProofs only[go_sem,Nat.reduceAdd,Nat.reduceSub,Nat.reduceMul,Nat.reduceLeDiff,Nat.reduceEqDiff,Nat.reduceGT,Nat.reduceBEq,reduceCtorEq,↓reduceIte,Int.reduceToNat,Int.reduceLE,Int.reduceLT,Int.reduceNe,Int.reduceEq,ea,er,el,eh,hz,ByteArray.size_append]
 refine aS (CU w0 h 2 _ (by decide) (by decide)) ?_
 simp(maxDischargeDepth:=12) (maxSteps:=1000000) -implicitDefEqProofs only[go_sem,Nat.reduceAdd,Nat.reduceSub,Nat.reduceMul,Nat.reduceLeDiff,Nat.reduceEqDiff,Nat.reduceGT,Nat.reduceBEq,reduceCtorEq,↓reduceIte,Int.reduceToNat,Int.reduceLE,Int.reduceLT,Int.reduceNe,Int.reduceEq,ea,er,el,eh,hz,ByteArray.size_append]
 have e:((⟨#[109,101,116,97]⟩:ByteArray)++aC 1 a++aC 8 t++(aC 2 r++aC 2 l++aC 2 h))=jB a t r l h:=by
  unfold jB
  simp only[ByteArray.append_assoc]
  rfl
 rw[e]
 refine ao (hpk _) ?_ (.cons (.refl _) (.cons (Wk.full _ _ _) .nil))
 simp(maxDischargeDepth:=12) (maxSteps:=1000000) -implicitDefEqProofs only[go_sem,Nat.reduceAdd,Nat.reduceSub,Nat.reduceMul,Nat.reduceLeDiff,Nat.reduceEqDiff,Nat.reduceGT,Nat.reduceBEq,reduceCtorEq,↓reduceIte,Int.reduceToNat,Int.reduceLE,Int.reduceLT,Int.reduceNe,Int.reduceEq]
 exact .refl _
theorem wF(w0:W0)(b:Nat)(s r:ByteArray)(k:Nat)(S:St)(hk:s.size=k)(hb:lk S.box b=some [dS (s++r),dI 0])(h1:1≤k)(h8:k≤8):aa Tryz.prog w0 59 [.v (.pointer (some ⟨b,0,none⟩)),dI k] S (fun d S'=>d=dU (pP (cW s) 0)∧S'=⟨up S.box b [dS r,dI 0],S.acc⟩):=by
 subst hk;exact X0 w0 b s r S hb h1 h8
theorem SX(w0:W0)(S:St)(hm:pv a t r l h)(ht:t<65536):aa Tryz.prog w0 25 [dS (mE a t r l h)] S (fun d S'=>d= .bD [Hj a t r l h,dI 0]∧S'=S):=by
 have hun:=fun S=>P5 w0 5 (jB a t r l h) S (by decide) (by rw[jn];decide)
 have hpu:=fun S=>SZ w0 S hm
 unfold mE at*
 generalize cS 5 [jB a t r l h]=PK at*
 have hcs:=jn a t r l h
 obtain⟨q1,q2,q3,q4,q5,q6⟩:=hm
 have v1:IntKind.i64.wrap (pP (cW (aC 1 a)) 0)=a:=by rw[sT (.inl ⟨rfl,by omega⟩) q1.1];exact aX (by omega) (by omega)
 have v2:pP (cW (aC 8 t)) 0=t:=sT (.inr ⟨by omega,by omega,ht⟩) (by omega)
 have v3:IntKind.i64.wrap (pP (cW (aC 2 r)) 0)=r:=by rw[sT (.inr ⟨by omega,by omega,by omega⟩) (by omega)];exact aX (by omega) (by omega)
 have v4:IntKind.i64.wrap (pP (cW (aC 2 l)) 0)=l:=by rw[sT (.inr ⟨by omega,by omega,by omega⟩) (by omega)];exact aX (by omega) (by omega)
 have v5:IntKind.i64.wrap (pP (cW (aC 2 h)) 0)=h:=by rw[sT (.inr ⟨by omega,by omega,by omega⟩) (by omega)];exact aX (by omega) (by omega)
 have hC:jB a t r l h=ON++(aC 1 a++(aC 8 t++(aC 2 r++(aC 2 l++(aC 2 h++aJ))))):=by
  unfold jB
  rw[show aC 2 h++aJ=aC 2 h from ByteArray.append_empty]
  simp only[ByteArray.append_assoc]
 refine aZ [] mx Tryz.func25 rfl rfl (by kernel_rfl) ?_;simp(maxDischargeDepth:=12) (maxSteps:=1000000) -implicitDefEqProofs only[Tryz.ntmps25,go_sem,Nat.reduceAdd,Nat.reduceSub,Nat.reduceMul,Nat.reduceLeDiff,Nat.reduceEqDiff,Nat.reduceGT,Nat.reduceBEq,reduceCtorEq,↓reduceIte,Int.reduceToNat,Int.reduceLE,Int.reduceLT,Int.reduceNe,Int.reduceEq]
 intro b
 refine ao (hun _) ?_
 simp(maxDischargeDepth:=12) (maxSteps:=1000000) -implicitDefEqProofs only[go_sem,Nat.reduceAdd,Nat.reduceSub,Nat.reduceMul,Nat.reduceLeDiff,Nat.reduceEqDiff,Nat.reduceGT,Nat.reduceBEq,reduceCtorEq,↓reduceIte,Int.reduceToNat,Int.reduceLE,Int.reduceLT,Int.reduceNe,Int.reduceEq,hcs]
 intro b1
 rw[hC]
 refine nL (wF w0 b1.n ON (aC 1 a++(aC 8 t++(aC 2 r++(aC 2 l++(aC 2 h++aJ))))) 4 _ rfl (by simp(maxDischargeDepth:=12) (maxSteps:=1000000) -implicitDefEqProofs only[go_sem,Nat.reduceAdd,Nat.reduceSub,Nat.reduceMul,Nat.reduceLeDiff,Nat.reduceEqDiff,Nat.reduceGT,Nat.reduceBEq,reduceCtorEq,↓reduceIte,Int.reduceToNat,Int.reduceLE,Int.reduceLT,Int.reduceNe,Int.reduceEq]) (by decide) (by decide)) ?_
 simp(maxDischargeDepth:=12) (maxSteps:=1000000) -implicitDefEqProofs only[go_sem,Nat.reduceAdd,Nat.reduceSub,Nat.reduceMul,Nat.reduceLeDiff,Nat.reduceEqDiff,Nat.reduceGT,Nat.reduceBEq,reduceCtorEq,↓reduceIte,Int.reduceToNat,Int.reduceLE,Int.reduceLT,Int.reduceNe,Int.reduceEq]
 intro b2
 refine nL (wF w0 b1.n (aC 1 a) (aC 8 t++(aC 2 r++(aC 2 l++(aC 2 h++aJ)))) 1 _ (av _ _) (by simp(maxDischargeDepth:=12) (maxSteps:=1000000) -implicitDefEqProofs only[go_sem,Nat.reduceAdd,Nat.reduceSub,Nat.reduceMul,Nat.reduceLeDiff,Nat.reduceEqDiff,Nat.reduceGT,Nat.reduceBEq,reduceCtorEq,↓reduceIte,Int.reduceToNat,Int.reduceLE,Int.reduceLT,Int.reduceNe,Int.reduceEq]) (by decide) (by decide)) ?_
 simp(maxDischargeDepth:=12) (maxSteps:=1000000) -implicitDefEqProofs only[go_sem,Nat.reduceAdd,Nat.reduceSub,Nat.reduceMul,Nat.reduceLeDiff,Nat.reduceEqDiff,Nat.reduceGT,Nat.reduceBEq,reduceCtorEq,↓reduceIte,Int.reduceToNat,Int.reduceLE,Int.reduceLT,Int.reduceNe,Int.reduceEq,v1,v2,v3,v4,v5]
 refine nL (wF w0 b1.n (aC 8 t) (aC 2 r++(aC 2 l++(aC 2 h++aJ))) 8 _ (av _ _) (by simp(maxDischargeDepth:=12) (maxSteps:=1000000) -implicitDefEqProofs only[go_sem,Nat.reduceAdd,Nat.reduceSub,Nat.reduceMul,Nat.reduceLeDiff,Nat.reduceEqDiff,Nat.reduceGT,Nat.reduceBEq,reduceCtorEq,↓reduceIte,Int.reduceToNat,Int.reduceLE,Int.reduceLT,Int.reduceNe,Int.reduceEq]) (by decide) (by decide)) ?_
 simp(maxDischargeDepth:=12) (maxSteps:=1000000) -implicitDefEqProofs only[go_sem,Nat.reduceAdd,Nat.reduceSub,Nat.reduceMul,Nat.reduceLeDiff,Nat.reduceEqDiff,Nat.reduceGT,Nat.reduceBEq,reduceCtorEq,↓reduceIte,Int.reduceToNat,Int.reduceLE,Int.reduceLT,Int.reduceNe,Int.reduceEq,v1,v2,v3,v4,v5]
 refine nL (wF w0 b1.n (aC 2 r) (aC 2 l++(aC 2 h++aJ)) 2 _ (av _ _) (by simp(maxDischargeDepth:=12) (maxSteps:=1000000) -implicitDefEqProofs only[go_sem,Nat.reduceAdd,Nat.reduceSub,Nat.reduceMul,Nat.reduceLeDiff,Nat.reduceEqDiff,Nat.reduceGT,Nat.reduceBEq,reduceCtorEq,↓reduceIte,Int.reduceToNat,Int.reduceLE,Int.reduceLT,Int.reduceNe,Int.reduceEq]) (by decide) (by decide)) ?_
 simp(maxDischargeDepth:=12) (maxSteps:=1000000) -implicitDefEqProofs only[go_sem,Nat.reduceAdd,Nat.reduceSub,Nat.reduceMul,Nat.reduceLeDiff,Nat.reduceEqDiff,Nat.reduceGT,Nat.reduceBEq,reduceCtorEq,↓reduceIte,Int.reduceToNat,Int.reduceLE,Int.reduceLT,Int.reduceNe,Int.reduceEq,v1,v2,v3,v4,v5]
 refine nL (wF w0 b1.n (aC 2 l) (aC 2 h++aJ) 2 _ (av _ _) (by simp(maxDischargeDepth:=12) (maxSteps:=1000000) -implicitDefEqProofs only[go_sem,Nat.reduceAdd,Nat.reduceSub,Nat.reduceMul,Nat.reduceLeDiff,Nat.reduceEqDiff,Nat.reduceGT,Nat.reduceBEq,reduceCtorEq,↓reduceIte,Int.reduceToNat,Int.reduceLE,Int.reduceLT,Int.reduceNe,Int.reduceEq]) (by decide) (by decide)) ?_
 simp(maxDischargeDepth:=12) (maxSteps:=1000000) -implicitDefEqProofs only[go_sem,Nat.reduceAdd,Nat.reduceSub,Nat.reduceMul,Nat.reduceLeDiff,Nat.reduceEqDiff,Nat.reduceGT,Nat.reduceBEq,reduceCtorEq,↓reduceIte,Int.reduceToNat,Int.reduceLE,Int.reduceLT,Int.reduceNe,Int.reduceEq,v1,v2,v3,v4,v5]
 refine nL (wF w0 b1.n (aC 2 h) aJ 2 _ (av _ _) (by simp(maxDischargeDepth:=12) (maxSteps:=1000000) -implicitDefEqProofs only[go_sem,Nat.reduceAdd,Nat.reduceSub,Nat.reduceMul,Nat.reduceLeDiff,Nat.reduceEqDiff,Nat.reduceGT,Nat.reduceBEq,reduceCtorEq,↓reduceIte,Int.reduceToNat,Int.reduceLE,Int.reduceLT,Int.reduceNe,Int.reduceEq]) (by decide) (by decide)) ?_
 simp(maxDischargeDepth:=12) (maxSteps:=1000000) -implicitDefEqProofs only[go_sem,Nat.reduceAdd,Nat.reduceSub,Nat.reduceMul,Nat.reduceLeDiff,Nat.reduceEqDiff,Nat.reduceGT,Nat.reduceBEq,reduceCtorEq,↓reduceIte,Int.reduceToNat,Int.reduceLE,Int.reduceLT,Int.reduceNe,Int.reduceEq,v1,v2,v3,v4,v5]
 refine ao (hpu _) ?_
 have hee:eS PK PK=true:=jy PK
 simp(maxDischargeDepth:=12) (maxSteps:=1000000) -implicitDefEqProofs only[go_sem,Nat.reduceAdd,Nat.reduceSub,Nat.reduceMul,Nat.reduceLeDiff,Nat.reduceEqDiff,Nat.reduceGT,Nat.reduceBEq,reduceCtorEq,↓reduceIte,Int.reduceToNat,Int.reduceLE,Int.reduceLT,Int.reduceNe,Int.reduceEq,hee]
end
end Go.Proofs.YtpjenciplibdnaaGreatDoor
namespace Go.Proofs.YtpjenciplibdnaaGreatDoor
open Aml Go
theorem Wh{P:Program}{w0:W0}{f:FuncId}{args args':List DV}{S:St}{K:DV→St→Prop}{α:Type}{F:α→DV}{T:α→St}(h:aa P w0 f args' S (fun d S'=>∃b:α,d=F b∧S'=T b))(hk:∀b,K (F b) (T b))(ha:gC args args':=by exact gC.refl _):@AC P w0 f args S ⟨K⟩:=bA h (fun d S' ⟨b,e⟩=>by rw[e.1,e.2];exact hk b) ha
theorem Wv{k:Nat}{n:N}{l:List C}{q:List Int}{c:C}(h:PV k n l q)(hcm:c∈l):BT k (aA c):=by
 obtain⟨hce,htb,hok⟩:=h.vi.cell c hcm
 have hsub:(cf (aA c)).Sublist (gO (n,l)):=(Fj hcm).trans (List.sublist_append_right _ _)
 exact⟨htb,h.tv.cell c hcm,(List.nodup_append.1 h.nd).1.sublist hsub,fun p hp=>h.re p (List.mem_append_left _ (hsub.subset hp))⟩
theorem UQ(s:ByteArray):nI (bY s)=true∧strOfNums (vK (bY s))=s:=by
 have e:bY s=(s.data.toList.map fun c=>(c.toNat:Int)).map fun n=>DV.v (.int .u8 n):=by unfold bY;rw[List.map_map];rfl
 rw[e,(BN _).1]
 refine⟨(BN _).2,?_⟩
 unfold strOfNums
 rw[List.map_map]
 have:s.data.toList.map ((fun n:Int=>UInt8.ofNat n.toNat)∘fun c=>(c.toNat:Int))=s.data.toList:=by
  refine(List.map_congr_left fun c _=>?_).trans (List.map_id _)
  simp
 rw[this]
section
variable {S:St} {b lw:Nat} {z o:Zt} {L W A:DV} {q:Int} {ws:List (Int×ByteArray)}
theorem Ky(w0:W0)(hg:fw w0)(k:Nat)(hk:k≤116)(q0:List Int)(hq0:q0.length≤1000)(hpv:PV k z.n z.l q0)(h:Dc S b lw z o (yp z.l) W q (dL q0) []):
 aa Tryz.prog w0 76 [BF b] S (fun d S'=>d=dB true∧S'=dp S b lw {z with n:=(eP z.l z.n q0).n} o (yp (eP z.l z.n q0).l) W q (dL (eP z.l z.n q0).q) (eP z.l z.n q0).w):=by
 have hb:=h.box
 have ha:=h.acc
 have hll:z.l.length≤131072:=by have:=hpv.vi.len;omega
 unfold gj at hb
 refine vF [15] mx Tryz.func76 rfl rfl (by kernel_rfl) ?_;(refine @ab _ ?_;refine eW @Tryz.ntmps76 @hb @ha ?_)
 refine Wh (yw w0 (z.l.map lP) _ (by rw[List.length_map];omega)) ?_
 intro lv
 (refine @ab _ ?_;refine ba @hb @ha ?_)
 have hne:¬lv.n=lw:=fp lv ha
 obtain⟨U,hUd⟩:∃U:Nat→St,∀j,U j=⟨up S.box b (gj {z with n:=(eP (z.l.take j) z.n q0).n} o (.acc lv.n z.l.length) W q (dL (eP (z.l.take j) z.n q0).q) lw (eP (z.l.take j) z.n q0).w.length),(lv.n,.arr 6 (((eP (z.l.take j) z.n q0).l++z.l.drop j).map lP))::up S.acc lw (.arr 2 ((eP (z.l.take j) z.n q0).w.map nH))⟩:=⟨_,fun _=>rfl⟩
 refine aF [15] z.l.length [0,3,26,27,28] (fun k=>[(28,dI k)]) U (fun _=>True) mx (by kernel_rfl) ?_ ?_
 ·have e0:up S.acc lw (.arr 2 ([].map nH))=S.acc:=dD ha
  rw[hUd 0,show eP (z.l.take 0) z.n q0=⟨[],z.n,q0,[]⟩from rfl]
  dsimp only[gj,List.drop_zero,List.nil_append,List.length_nil]
  rw[e0]
  (refine @ab _ ?_;exact aV)
 ·intro j hj _
  have ej:IntKind.i64.wrap ((j:Int)+1)=((j+1:Nat):Int):=by rw[aX (by omega) (by omega)];omega
  have hs:=xF hpv j hj
  have hUj:=hUd j
  have hUs:=hUd (j+1)
  rcases Nat.lt_or_ge j z.l.length with hlt|hge
  ·obtain⟨c,hc⟩:∃c,z.l[j]? =some c:=⟨_,List.getElem?_eq_getElem hlt⟩
   have hcm:=List.mem_of_getElem? hc
   obtain⟨hm,⟨M,R,V,hd⟩,hs1⟩:=FE hpv hc hs
   have hbt:=Wv hpv hcm
   obtain⟨_,hksz⟩:=dt (hpv.vi.cell c hcm).2.2
   have hsu:eP (z.l.take (j+1)) z.n q0=⟨(eP (z.l.take j) z.n q0).l++[af c.key M],qf (eP (z.l.take j) z.n q0).n c.key M.aq,R,(eP (z.l.take j) z.n q0).w++V⟩:=by
    rw[wB hc];unfold G6;rw[hd.eq]
   rw[hsu]at hUs
   generalize eP (z.l.take j) z.n q0=s at*
   have hql:s.q.length≤1000:=by rw[hs.left,List.length_drop];omega
   have hwl:s.w.length≤1000:=by have:=congrArg List.length hs.wr;rw[List.length_map,List.length_take]at this;omega
   have hvl:V.length≤1000:=by have:=congrArg List.length hd.pg;rw[List.length_map,List.length_take]at this;omega
   have hlay:∀S,aa Tryz.prog w0 181 [eT (aA c),dL s.q] S (fun d S'=>d= .bD [eT M,.sl 2 false (V.map nH),dL R,dB true]∧S'=S):=fun S=>by
    have:=U4 w0 hg (aA c) s.q S (AQ hbt hk) (by omega)
    rw[Mb hm hd]at this;exact this
   have hMp:0≤M.aq∧M.aq≤999:=by
    by_cases e:M.aq=0
    ·omega
    ·have:=hd.bt.re _ (xm e);omega
   have hfind:=fun S=>S8 w0 (key:=c.key) hs.tb hk S
   have hput:=fun S=>EP w0 (key:=c.key) (val:=aC 2 M.aq) hs.tb hk hksz (by rw[av];omega) S
   have hWU:Dc (U j) b lw {z with n:=s.n} o (.acc lv.n z.l.length) W q (dL s.q) s.w:=by
    rw[hUj]
    exact⟨by show lk (up S.box b _) b=_;rw[ax,hb];rfl,by show lk ((lv.n,_)::up S.acc lw _) lw=_;rw[nZ hne,ax,ha];rfl⟩
   have hv3:lk (U j).acc lv.n=some (.arr 6 ((s.l++z.l.drop j).map lP)):=by rw[hUj];simp only[lk,if_true]
   have hb3:=hWU.box
   have ha3:=hWU.acc
   dsimp only[gj]at hb3
   have hXl:(s.l++z.l.drop j).length=z.l.length:=by rw[List.length_append,hs.len,List.length_drop];omega
   have hXj:(s.l++z.l.drop j)[j]? =some c:=by rw[List.getElem?_append_right (by rw[hs.len];omega),hs.len,Nat.sub_self,List.getElem?_drop];exact hc
   (refine @ab _ ?_;refine y7 @hb3 @ha3 @hv3 @ej @hlt ?_)
   have hsl:=hs.len
   refine⟨by omega,by omega,fun a ha5 b5=>?_⟩
   obtain rfl:a=c:=eE ha5 hXj
   have hWU5:∀x,Dc ⟨(b5.n,x)::(U j).box,(U j).acc⟩ b lw {z with n:=s.n} o (.acc lv.n z.l.length) W q (dL s.q) s.w:=fun x=>⟨by show lk ((b5.n,_)::_) b=_;rw[nZ (fp b5 hb3)];exact hWU.box,hWU.acc⟩
   refine nL (QP w0 (aA a) s.q R M V (hWU5 _) (by omega) hlay) ?_
   have hv4:lk (up (U j).acc lw (.arr 2 ((s.w++V).map nH))) lv.n=some (.arr 6 ((s.l++z.l.drop j).map lP)):=by rw[aM (fun e=>hne e.symm)];exact hv3
   simp(maxDischargeDepth:=12) (maxSteps:=1000000) -implicitDefEqProofs only[go_sem,Nat.reduceAdd,Nat.reduceSub,Nat.reduceMul,Nat.reduceLeDiff,Nat.reduceEqDiff,Nat.reduceGT,Nat.reduceBEq,reduceCtorEq,↓reduceIte,Int.reduceToNat,Int.reduceLE,Int.reduceLT,Int.reduceNe,Int.reduceEq,dp,gj,hb3,ha3,hv3,hv4]
   intro b6
   refine⟨hlt,by omega,by omega,fun a1 ha6=>?_⟩
   obtain rfl:a1=a:=eE ha6 hXj
   rw[gJ (by omega) (by omega)]
   refine ao (tx w0 M.aq 2 _ (by decide) (by decide) (by omega) (by omega)) ?_
   (refine @ab _ ?_;refine y7 @hb3 @ha3 @hv3 @hv4 @ej ?_)
   obtain⟨y1,y2⟩:=UQ (aC 2 M.aq)
   refine⟨y1,aS (hfind _) ?_⟩
   have dE:((s.l++z.l.drop j).map lP).set j (lP (af a1.key M))=((s.l++[af a1.key M])++z.l.drop (j+1)).map lP:=by
    rw[←List.map_set,List.set_append,if_neg (by omega),hs.len,Nat.sub_self,List.drop_eq_getElem_cons hlt,List.set_cons_zero,List.append_assoc];rfl
   have hfin:∀N',N'=qf s.n a1.key M.aq→∀x5 x6:Nat×List DV,Aml.Sub (U (j+1)) ⟨x6::x5::up (U j).box b (gj {z with n:=N'} o (.acc lv.n z.l.length) W q (dL R) lw (s.w.length+V.length)),up (up (U j).acc lw (.arr 2 ((s.w++V).map nH))) lv.n (.arr 6 (((s.l++z.l.drop j).map lP).set j (lP (af a1.key M))))⟩:=by
    rintro N' rfl x5 x6
    rw[hUs,hUj,dE,List.length_append]
    simp only[up,if_neg hne,if_true,rE]
    exact .bu (.bu (.refl _))
   (refine @ab _ ?_;refine y7 @hb3 @ha3 @hv3 @hv4 @ej ?_)
   rw[y2]
   refine⟨fun he=>⟨hlt,hfin s.n ?_ _ _⟩,fun he=>aS (hput _) ?_⟩
   ·unfold qf;rw[if_pos (cN.1 he)]
   ·have hput2:=hfin (k7 a1.key (aC 2 M.aq) s.n) (by unfold qf;rw[if_neg (dc.1 he)])
    (refine @ab _ ?_;refine y7 @hb3 @ha3 @hv3 @hv4 @ej ?_)
    exact⟨hlt,hput2 _ _⟩
  ·obtain rfl:j=z.l.length:=by omega
   rw[List.take_length]at hs hUj
   rw[List.drop_length,List.append_nil]at hUj
   generalize eP z.l z.n q0=s at*
   have hge2:¬z.l.length<z.l.length:=by omega
   have hb3:lk (U z.l.length).box b=some (gj {z with n:=s.n} o (.acc lv.n z.l.length) W q (dL s.q) lw s.w.length):=by
    rw[hUj];show lk (up S.box b _) b=_;rw[ax,hb];rfl
   have hv3:lk (U z.l.length).acc lv.n=some (.arr 6 (s.l.map lP)):=by rw[hUj];simp only[lk,if_true]
   (refine @ab _ ?_;refine ba @ej @hge2 ?_)
   refine Me b 10 (l:=lv.n) (s:=6) (xs:=s.l.map lP) hb3 (by rw[List.length_map,hs.len];rfl) hv3 ?_
   (refine @ab _ ?_;refine au ?_)
   refine lE [] [] mx (by kernel_rfl) ?_
   (refine @ab _ ?_;refine au ?_)
   refine⟨_,_,.refl _,?_,rfl,rfl⟩
   show Aml.Sub (dp S b lw {z with n:=s.n} o (yp s.l) W q (dL s.q) s.w) ⟨up (U z.l.length).box b (gj {z with n:=s.n} o (yp s.l) W q (dL s.q) lw s.w.length),up (U z.l.length).acc lv.n (Ob.tl 6 (s.l.map lP))⟩
   rw[hUj]
   unfold dp
   simp only[up,if_true,rE]
   exact .pr (.refl _)
end
end Go.Proofs.YtpjenciplibdnaaGreatDoor
