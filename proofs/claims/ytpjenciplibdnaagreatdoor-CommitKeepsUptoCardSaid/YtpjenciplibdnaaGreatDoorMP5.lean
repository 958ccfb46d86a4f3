/-
  Mending, putting and deleting keep trees that may be, and their entries: plain laws; Putting and deleting keep trees that may be; their entries are the old ones with one more, or less: plain laws; Trees marked as laid, and as the program has them; walked; Trees, as the program has them; Trees of the program, and the iterator over their nodes; DERIVED: THE SHELF's CONTRACTS AT THIS DUMP, IN PLAIN WORDS (tools/lay-plain.mjs out of 'TryzShelf.lean', which tools/lay-shelf.mjs wrote): THE SAME DECLARATIONS UNDER THE SAME NAMES: 'import', 'namespace', 'open', 'def', 'theorem' AND NOTHING ELSE: no command of the shelf's: FOR A HAND-IN. Each laying: the table of numbers ('.._ren') and one theorem, a field a fact of the dump's own or the kernel's comparison; each contract: ONE APPLICATION; The library's sort of ints, as the walk speaks; How many pages a tree takes, and which it has: the program; Which pages a tree has lost: the program; Trees as the program has them; the laws of marked ones; What the functions of pools compute; Rows of pages; rooms; what is the same; Numbers put together, in order; Numbers in order, as the document has them; the plain laws of order; What the reference tells of a tree's pages; What trees keep when they are mended: whatever cells tell; pages are never new: plain laws; What the reference tells of a tree's pages, and of lost ones; The trees of steps, by the references; The example of the statement is as it says; Marked trees: their pages, and how many are taken: plain laws; What the trees of steps are: plain laws; A value of the same size is put: plain laws; What is laid holds clean entries alone, and the way to an entry that isn't clean is fresh: plain laws; Entries from a key on, by a stack of nodes and places; Numbers, sums and pages as texts: what the reference computes; Statements whose order is open, walked in an order of one's own: what looks at no store, what reads the store of the beginning, what keeps it, what else there is. By an AI agent.
-/
import Derived.Test.YtpjenciplibdnaaGreatDoorMP4
import Derived.Shelf.Small.Bits
import Derived.Shelf.Strconv.Itoa0
import Derived.Shelf.Sort.Plain
import Derived.Ground.Names2Prog
import Derived.Shelf.Slices.SearchI
import Derived.Shelf.Slices.In.SortNone
import Derived.Shelf.Slices.Empties
import Derived.Test.YtpjenciplibdnaaGreatDoorProg
import Derived.Test.YtpjenciplibdnaaGreatDoorMP3
import Derived.Sort.Grow
set_option linter.unusedVariables false
set_option linter.unusedSimpArgs false
set_option maxRecDepth 100000
set_option maxHeartbeats 16000000
namespace Go.Proofs.YtpjenciplibdnaaGreatDoor
open Aml Go
theorem zY{d:Nat}{A B:List C}{c:C}{kid:N}(h:SN d A c B)(hk:c.kid=[kid])(h0:30≤(ae kid).sum)(h1:(ae kid).sum≤122):RR (Good d) (A++c::B):=by
 refine⟨h.k0,h.pw,fun x hx=>?_⟩
 rcases List.mem_append.1 hx with hx|hx
 ·exact h.ahead x hx
 ·rcases List.mem_cons.1 hx with rfl|hx
  ·obtain⟨o1,o2,k,o3,o4,o5⟩:=h.own
   rw[hk]at o3;cases o3
   exact⟨o1,o2,kid,hk,o4,h0,h1⟩
  ·exact h.behind x hx
theorem NS{d:Nat}{kx ky:N}{key:ByteArray}(hx:Good d kx)(hy:Good d ky)(h1:∀e,e∈de kx→cI e.key key=true)(h2:∀e,e∈de ky→mq key e.key=true)(hs:key.size≤16):
 Good d (bM kx ky key)∧de (bM kx ky key)=de kx++de ky∧(ae kx).sum+(ae ky).sum≤(ae (bM kx ky key)).sum∧(ae (bM kx ky key)).sum≤(ae kx).sum+(ae ky).sum+16:=by
 cases d with
 |zero=>
  have e:bM kx ky key= .mk 0 true (kx.l++ky.l):=by unfold bM;rw[hy.1,hx.1,if_pos rfl]
  rw[e,fP,fZ,cm hx.1,cm hy.1,cw]
  rw[cm hx.1]at h1
  rw[cm hy.1]at h2
  have e1:ae kx=kx.l.map (aX true):=by unfold ae;rw[hx.1]
  have e2:ae ky=ky.l.map (aX true):=by unfold ae;rw[hy.1]
  refine⟨⟨rfl,eS.2 ⟨hx.2.1,hy.2.1,fun a ha b hb=>iu (h1 a ha) (h2 b hb)⟩,fun c hc=>?_⟩,rfl,?_,?_⟩
  ·rcases List.mem_append.1 hc with hc|hc
   ·exact hx.2.2 c hc
   ·exact hy.2.2 c hc
  ·rw[List.map_append,List.sum_append,e1,e2];omega
  ·rw[List.map_append,List.sum_append,e1,e2];omega
 |succ d=>
  have e:bM kx ky key= .mk 0 false (kx.l++bG key ky.l):=by unfold bM;rw[hy.1,hx.1,if_neg (by simp)]
  rw[e,fP,ca kx,ca ky,hx.1,hy.1,cw,List.flatMap_append,mL]
  rw[ca,hx.1]at h1
  rw[ca,hy.1]at h2
  have e1:ae kx=kx.l.map (aX false):=by unfold ae;rw[hx.1]
  have e2:ae ky=ky.l.map (aX false):=by unfold ae;rw[hy.1]
  have hX:=hx.2.2
  have hY:=hy.2.2
  obtain⟨c0,r,hr⟩:∃c0 r,ky.l=c0::r:=by cases hq:ky.l with|nil=>exact absurd hq hy.2.1|cons a t=>exact⟨a,t,rfl⟩
  have hc0:=hY.cell c0 (by rw[hr];exact List.mem_cons_self)
  have hp:=hY.pw
  have hk0:=hY.k0
  rw[hr,List.pairwise_cons]at hp
  rw[hr]at h2 e2 hk0
  have hk0:c0.key=aZ:=hk0
  rw[hr,jE]
  obtain⟨x0,hx0⟩:=lK hc0
  have hl0:=h2 x0 (List.mem_flatMap.2 ⟨c0,List.mem_cons_self,hx0⟩)
  have hkb:∀b,b∈r→cI key b.key=true:=fun b hb=>lY hl0 ((hp.1 b hb).2 x0 hx0)
  have hle:∀b,b∈C.mk key c0.data c0.ai c0.kid::r→mq key b.key=true:=fun b hb=>by
   rcases List.mem_cons.1 hb with rfl|hb
   ·exact pd _
   ·exact rf (hkb b hb)
  refine⟨⟨rfl,by simp[N.l],?_,?_,?_⟩,rfl,?_,?_⟩
  ·show keyOf (kx.l++_)=aZ
   rw[←hX.k0]
   cases hq:kx.l with
   |nil=>exact absurd hq hx.2.1
   |cons a t=>rfl
  ·refine eS.2 ⟨hX.pw,List.pairwise_cons.2 ⟨fun b hb=>⟨hkb b hb,fun x hx=>?_⟩,hp.2⟩,fun a ha b hb=>?_⟩
   ·rw[lQ]at hx
    exact(hp.1 b hb).2 x hx
   ·obtain⟨xa,hxa⟩:=lK (hX.cell a ha)
    have h3:∀x,x∈iU false a→cI x.key key=true:=fun x hx=>h1 x (List.mem_flatMap.2 ⟨a,ha,hx⟩)
    exact⟨iu (lY ((hX.cell a ha).2.1 xa hxa) (h3 xa hxa)) (hle b hb),fun x hx=>iu (h3 x hx) (hle b hb)⟩
  ·intro c hc
   rcases List.mem_append.1 hc with hc|hc
   ·exact hX.cell c hc
   ·rcases List.mem_cons.1 hc with rfl|hc
    ·obtain⟨⟨w1,w2,w3⟩,w4,w5⟩:=hc0
     refine⟨⟨hs,w2,w3⟩,fun y hy=>?_,w5⟩
     rw[lQ]at hy
     exact h2 y (List.mem_flatMap.2 ⟨c0,List.mem_cons_self,hy⟩)
    ·exact hY.cell c (by rw[hr];exact List.mem_cons_of_mem _ hc)
  ·rw[List.map_append,List.sum_append,e1,e2,List.map_cons,List.sum_cons,List.map_cons,List.sum_cons,fL,fL,C.lE,hk0,bC];omega
  ·rw[List.map_append,List.sum_append,e1,e2,List.map_cons,List.sum_cons,List.map_cons,List.sum_cons,fL,fL,C.lE,hk0,bC];omega
theorem l3(A:List C)(c:C)(B:List C):cellAt (A++c::B) A.length=c:=vW (by simp)
theorem LW{d:Nat}{A B:List C}{x y:C}{kx ky:N}(hk0:keyOf (A++x::y::B)=aZ)(hpw:(A++x::y::B).Pairwise RC)(hA:∀c,c∈A→iE (Good d) Fits c)(hB:∀c,c∈B→iE (Good d) Fits c)
 (hx:iE (Good d) (fun _=>True) x) (hy:iE (Good d) (fun _=>True) y) (ex:x.kid=[kx]) (ey:y.kid=[ky]) (hsum:(ae kx).sum+(ae ky).sum≤151):
 SN d A (af x.key (bM kx ky y.key)) B∧(A++af x.key (bM kx ky y.key)::B).flatMap (iU false)=(A++x::y::B).flatMap (iU false)∧(ae kx).sum+(ae ky).sum≤(ae (bM kx ky y.key)).sum:=by
 obtain⟨x1,x2,kx',x3,x4,_⟩:=hx
 rw[ex]at x3;cases x3
 obtain⟨y1,y2,ky',y3,y4,_⟩:=hy
 rw[ey]at y3;cases y3
 rw[bc ex]at x2
 rw[bc ey]at y2
 obtain⟨p1,p2,p3⟩:=eS.1 hpw
 rw[List.pairwise_cons,List.pairwise_cons]at p2
 obtain⟨p2,p4,p5⟩:=p2
 have hxy:=p2 y List.mem_cons_self
 rw[RC,bc ex]at hxy
 obtain⟨b1,b2,b3,b4⟩:=NS x4 y4 hxy.2 y2 y1.1
 refine⟨⟨?_,?_,hA,hB,⟨⟨x1.1,rfl,rfl⟩,fun e he=>?_,_,rfl,b1,by omega⟩⟩,?_,b3⟩
 ·rw[←hk0];exact qo rfl (by simp) (by simp)
 ·refine eS.2 ⟨p1,List.pairwise_cons.2 ⟨fun b hb=>⟨(p2 b (List.mem_cons_of_mem _ hb)).1,fun e he=>?_⟩,p5⟩,fun a ha b hb=>?_⟩
  ·rw[cZ,b2]at he
   rcases List.mem_append.1 he with he|he
   ·have:=(p2 b (List.mem_cons_of_mem _ hb)).2
    rw[bc ex]at this
    exact this e he
   ·have:=(p4 b hb).2
    rw[bc ey]at this
    exact this e he
  ·rcases List.mem_cons.1 hb with rfl|hb
   ·exact p3 a ha x List.mem_cons_self
   ·exact p3 a ha b (List.mem_cons_of_mem _ (List.mem_cons_of_mem _ hb))
 ·rw[cZ,b2]at he
  rcases List.mem_append.1 he with he|he
  ·exact x2 e he
  ·exact rf (iu hxy.1 (y2 e he))
 ·rw[List.flatMap_append,List.flatMap_append,List.flatMap_cons,List.flatMap_cons,List.flatMap_cons,cZ,b2,bc ex,bc ey,List.append_assoc]
theorem nQ{G F:N→Prop}{c:C}(h:iE G F c):iE G (fun _=>True) c:=by
 obtain⟨h1,h2,k,h3,h4,h5⟩:=h
 exact⟨h1,h2,k,h3,h4,trivial⟩
structure yp(d:Nat)(L:List C)(m:N):Prop where
 leaf:m.leaf=false
 ak:m.ak=0
 ne:m.l≠[]
 br:RR (Good d) m.l
 en:de m=L.flatMap (iU false)
 sum:(ae m).sum≤(L.map (aX false)).sum+20
theorem FM{d:Nat}{A B:List C}{c:C}(h:SN d A c B)(hAB:A≠[]∨B≠[]):yp d (A++c::B) (cC (.mk 0 false (A++c::B)) A.length):=by
 obtain⟨o1,o2,kid,hkid,o4,o5⟩:=h.own
 unfold cC
 simp only[N.eB,l3,bl hkid]
 generalize hP:aV (.mk 0 false (A++c::B)) kid A.length c.key=P
 rcases qQ h hkid hP.symm with⟨q1,q2,q3⟩|⟨q1,q2,q3,q4,q5,q6,q7⟩
 ·rw[q1,if_neg (by simp)]
  split
  ·rename_i hlow
   have h30:30≤(ae kid).sum:=by
    rw[Bool.or_eq_true]at hlow
    rcases hlow with hlow|hlow
    ·unfold Dp at hlow
     simp at hlow;omega
    ·have h2:(A++c::B).length<2:=of_decide_eq_true hlow
     rw[List.length_append,List.length_cons]at h2
     rcases hAB with hA|hB
     ·have:=List.length_pos_iff.2 hA;omega
     ·have:=List.length_pos_iff.2 hB;omega
   exact⟨rfl,rfl,by simp[N.l],zY h hkid h30 q3,fP _ _ _,by rw[cw];omega⟩
  ·rename_i hlow
   have h29:(ae kid).sum≤29:=by
    rw[Bool.or_eq_true,not_or]at hlow
    have:=hlow.1
    unfold Dp at this
    simp at this;omega
   have fin:∀(A' B':List C) (x y:C) (kx ky:N),A++c::B=A'++x::y::B'→x.kid=[kx]→y.kid=[ky]→iE (Good d) (fun _=>True) x→iE (Good d) (fun _=>True) y→(∀e,e∈A'→iE (Good d) Fits e)→(∀e,e∈B'→iE (Good d) Fits e)→
    30≤(ae kx).sum+(ae ky).sum→(ae kx).sum+(ae ky).sum≤151→
    yp d (A++c::B) (aV (.mk 0 false (aE (aE (A++c::B) (A'.length+1) []) A'.length [af (cellAt (A++c::B) A'.length).key (bM (ay (cellAt (A++c::B) A'.length)) (ay (cellAt (A++c::B) (A'.length+1))) (cellAt (A++c::B) (A'.length+1)).key)])) (bM (ay (cellAt (A++c::B) A'.length)) (ay (cellAt (A++c::B) (A'.length+1))) (cellAt (A++c::B) (A'.length+1)).key) A'.length (cellAt (A++c::B) A'.length).key).1:=by
    intro A' B' x y kx ky he ex ey hx hy hA' hB' s30 s151
    obtain⟨b1,b2,b3⟩:=LW (by rw[←he];exact h.k0) (by rw[←he];exact h.pw) hA' hB' hx hy ex ey s151
    have e1:cellAt (A'++x::y::B') (A'.length+1)=y:=by
     have:=l3 (A'++[x]) y B'
     simpa using this
    have e2:aE (A'++x::y::B') (A'.length+1) []=A'++x::B':=by
     have:=gj (A'++[x]) y B' []
     simpa using this
    rw[he,l3,e1,e2,bl ex,bl ey,gj,List.append_assoc,List.singleton_append]
    generalize hQ:aV (.mk 0 false (A'++af x.key (bM kx ky y.key)::B')) (bM kx ky y.key) A'.length x.key=Q
    have hsz:((A'++af x.key (bM kx ky y.key)::B').map (aX false)).sum≤((A'++x::y::B').map (aX false)).sum:=by
     simp only[List.map_append,List.map_cons,List.sum_append,List.sum_cons,fL,af,C.lE]
     omega
    rcases qQ (p:=0) b1 (kid:=bM kx ky y.key) rfl hQ.symm with⟨r1,r2,r3⟩|⟨r1,r2,r3,r4,r5,r6,r7⟩
    ·rw[r2]
     exact⟨rfl,rfl,by simp[N.l],zY b1 rfl (by omega) r3,by rw[fP,b2],by rw[cw];omega⟩
    ·exact⟨r2,r6,by intro e;rw[e]at r3;simp at r3,r4,by rw[r5,b2],by omega⟩
   have fs:∀x kx,iE (Good d) Fits x→x.kid=[kx]→30≤(ae kx).sum∧(ae kx).sum≤122:=fun x kx hx ex=>by
    obtain⟨_,_,k,h3,_,h5⟩:=hx
    rw[ex]at h3;cases h3;exact h5
   have s0:0≤(ae kid).sum:=Fv fun x hx=>(gY o4 x hx).1
   cases B with
   |cons b0 B'=>
    have hb0:=h.behind b0 List.mem_cons_self
    obtain⟨_,_,kb,hkb,_⟩:=id hb0
    have:=fs b0 kb hb0 hkb
    have hlt:A.length+1<(A++c::b0::B').length:=by simp
    simp only[hlt,if_true]
    exact fin A B' c b0 kid kb rfl hkid hkb (nQ h.own) (nQ hb0) h.ahead (fun e he=>h.behind e (List.mem_cons_of_mem _ he)) (by omega) (by omega)
   |nil=>
    have hA:A≠[]:=hAB.resolve_right (by simp)
    obtain⟨A',a0,rfl⟩:∃A' a0,A=A'++[a0]:=⟨A.dropLast,A.getLast hA,(List.dropLast_concat_getLast hA).symm⟩
    have ha0:=h.ahead a0 (by simp)
    obtain⟨_,_,ka,hka,_⟩:=id ha0
    have:=fs a0 ka ha0 hka
    have hnl:¬(A'++[a0]).length+1<(A'++[a0]++[c]).length:=by simp
    simp only[hnl,if_false]
    have hj:(A'++[a0]).length-1=A'.length:=by simp
    rw[hj]
    exact fin A' [] a0 c ka kid (by simp) hka hkid (nQ ha0) (nQ h.own) (fun e he=>h.ahead e (List.mem_append_left _ he)) (fun e he=>by cases he) (by omega) (by omega)
 ·rw[q1,if_pos rfl]
  exact⟨q2,q6,by intro e;rw[e]at q3;simp at q3,q4,q5,q7⟩
def o0(key val:ByteArray)(l:List C):List C:=l.filter (fun c=>cI c.key key)++ .mk key val [] []::l.filter (fun c=>cI key c.key)
def Bu(key:ByteArray)(l:List C):List C:=l.filter fun c=>!fh c.key key
theorem eW{p:C→Bool}{l:List C}(h:∀a,a∈l→p a=true):l.filter p=l:=List.filter_eq_self.2 h
theorem jO{p:C→Bool}{l:List C}(h:∀a,a∈l→p a=false):l.filter p=[]:=List.filter_eq_nil_iff.2 fun a ha=>by rw[h a ha];simp
theorem qw(key:ByteArray):∀{l:List C},dj l→∃A B,l=A++B∧(∀a,a∈A→cI a.key key=true)∧∀b,b∈B→cI b.key key=false
 |[],_=>⟨[],[],rfl,fun a h=>(by cases h),fun a h=>(by cases h)⟩
 |c::l,h=>by
  unfold dj at h
  rw[List.pairwise_cons]at h
  cases hc:cI c.key key with
  |true=>
   obtain⟨A,B,rfl,h1,h2⟩:=qw key h.2
   exact⟨c::A,B,rfl,fun a ha=>by
    rcases List.mem_cons.1 ha with rfl|ha
    ·exact hc
    ·exact h1 a ha,h2⟩
  |false=>
   refine⟨[],c::l,rfl,fun a h=>(by cases h),fun b hb=>?_⟩
   rcases List.mem_cons.1 hb with rfl|hb
   ·exact hc
   ·cases hb2:cI b.key key with
    |false=>rfl
    |true=>rw[fT (h.1 b hb) hb2]at hc;cases hc
theorem pf{A B:List C}{key:ByteArray}(h1:∀a,a∈A→cI a.key key=true)(h2:∀b,b∈B→cI b.key key=false):bk (A++B) key=A.length:=by
 unfold bk
 rw[List.takeWhile_append_of_pos h1]
 cases B with
 |nil=>simp
 |cons b B=>rw[List.takeWhile_cons,h2 b List.mem_cons_self];simp
theorem Cj{l:List C}(h:dj l)(key val:ByteArray):cO l key val=o0 key val l∧((cO l key val).map (aX true)).sum≤(l.map (aX true)).sum+aX true (.mk key val [] [])-(if(l.any fun c=>fh c.key key)then((l.filter fun c=>fh c.key key).map (aX true)).sum else 0):=by
 obtain⟨A,B,rfl,h1,h2⟩:=qw key h
 have hA:(A.any fun c=>fh c.key key)=false:=List.any_eq_false.2 fun a ha=>by
  have:=bP (h1 a ha)
  rw[←dc]at this
  rw[this];simp
 have hA2:(A.filter fun c=>fh c.key key)=[]:=jO fun a ha=>by rw[dc];exact bP (h1 a ha)
 have hi:=pf h1 h2
 unfold cO o0
 simp only[hi]
 rw[List.filter_append,List.filter_append,eW h1,jO h2,jO (l:=A) fun a ha=>fm (h1 a ha),List.append_nil,List.nil_append,List.any_append,hA,Bool.false_or,List.filter_append,hA2,List.nil_append]
 cases B with
 |nil=>simp
 |cons b B=>
  have hb:∀b',b'∈B→cI b.key b'.key=true:=by
   unfold dj at h
   rw[eS,List.pairwise_cons]at h
   exact h.2.1.1
  have hge:=h2 b List.mem_cons_self
  rw[List.getElem?_append_right (Nat.le_refl _),Nat.sub_self,List.getElem?_cons_zero]
  simp only
  by_cases e:b.key=key
  ·rw[if_pos (cR.2 e),gj]
   have hB:∀b',b'∈B→cI key b'.key=true:=fun b' hb'=>e▸hb b' hb'
   have hB2:(B.filter fun c=>fh c.key key)=[]:=jO fun a ha=>by rw[dc];exact(bP (hB a ha)).symm
   rw[List.filter_cons,e,cK,if_neg (by simp),eW hB,List.any_cons,cR.2 e,Bool.true_or,if_pos rfl,List.filter_cons,if_pos (cR.2 e),hB2]
   refine⟨by simp,?_⟩
   simp only[List.map_append,List.sum_append,List.map_cons,List.map_nil,List.sum_cons,List.sum_nil]
   omega
  ·rw[if_neg (by rw[cR];exact e)]
   have hlt:cI key b.key=true:=by
    rcases nC key b.key with h|h|h
    ·exact h
    ·exact absurd h.symm e
    ·rw[hge]at h;cases h
   have hB:∀b',b'∈b::B→cI key b'.key=true:=fun b' hb'=>by
    rcases List.mem_cons.1 hb' with rfl|hb'
    ·exact hlt
    ·exact fT hlt (hb b' hb')
   have hany:((b::B).any fun c=>fh c.key key)=false:=List.any_eq_false.2 fun a ha=>by
    have:=(bP (hB a ha)).symm
    rw[←dc]at this
    rw[this];simp
   rw[List.take_left',List.drop_left',eW hB,hany]
   ·refine⟨by simp,?_⟩
    simp only[List.map_append,List.sum_append,List.map_cons,List.map_nil,List.sum_cons,List.sum_nil,Bool.false_eq_true,if_false]
    omega
   ·rfl
   ·rfl
theorem nk{l:List C}(h:dj l)(p:C→Bool):dj (l.filter p):=List.Pairwise.filter p h
theorem Ml{l:List C}(h:dj l)(key val:ByteArray):dj (o0 key val l):=by
 unfold o0 dj
 rw[eS,List.pairwise_cons]
 refine⟨nk h _,⟨fun b hb=>?_,nk h _⟩,fun a ha b hb=>?_⟩
 ·exact(List.mem_filter.1 hb).2
 ·have h1:cI a.key key=true:=(List.mem_filter.1 ha).2
  rcases List.mem_cons.1 hb with rfl|hb
  ·exact h1
  ·exact fT h1 (List.mem_filter.1 hb).2
theorem E2{key val:ByteArray}{l:List C}{x:C}(h:x∈o0 key val l):x∈l∨x= .mk key val [] []:=by
 rcases List.mem_append.1 h with h|h
 ·exact .inl (List.mem_filter.1 h).1
 ·rcases List.mem_cons.1 h with h|h
  ·exact .inr h
  ·exact .inl (List.mem_filter.1 h).1
theorem Qp{key val:ByteArray}{A B M:List C}(h1:∀a,a∈A→cI a.key key=true)(h2:∀b,b∈B→cI key b.key=true):o0 key val (A++M++B)=A++o0 key val M++B:=by
 unfold o0
 rw[List.filter_append,List.filter_append,List.filter_append,List.filter_append,eW h1,jO (l:=B) fun b hb=>fm (h2 b hb),jO (l:=A) fun a ha=>fm (h1 a ha),eW h2]
 simp
theorem Qg{key:ByteArray}{A B M:List C}(h1:∀a,a∈A→cI a.key key=true)(h2:∀b,b∈B→cI key b.key=true):Bu key (A++M++B)=A++Bu key M++B:=by
 unfold Bu
 rw[List.filter_append,List.filter_append,eW (l:=A) fun a ha=>by rw[dc.2 (bP (h1 a ha))];rfl,eW (l:=B) fun b hb=>by rw[dc.2 (bP (h2 b hb)).symm];rfl]
theorem wH(l:List C)(key:ByteArray):∀i,i<l.length→(ml l key i=0∨∃c,l[ml l key i]? =some c∧mq c.key key=true)∧∀j c,ml l key i<j→j≤i→l[j]? =some c→mq c.key key=false
 |0,_=>⟨.inl rfl,fun j c h1 h2=>by simp only[ml]at h1;omega⟩
 |i+1,hi=>by
  obtain⟨h1,h2⟩:=wH l key i (by omega)
  have hx:l[i+1]? =some l[i+1]:=List.getElem?_eq_getElem hi
  cases hle:mq l[i+1].key key with
  |true=>
   have e:ml l key (i+1)=i+1:=by simp only[ml,hx,hle,if_true]
   rw[e]
   exact⟨.inr ⟨_,hx,hle⟩,fun j c h3 h4=>by omega⟩
  |false=>
   have e:ml l key (i+1)=ml l key i:=by simp only[ml,hx,hle,Bool.false_eq_true,if_false]
   rw[e]
   refine⟨h1,fun j c h3 h4 hc=>?_⟩
   rcases Nat.lt_or_ge i j with h|h
   ·have:j=i+1:=by omega
    subst this
    rw[hx]at hc;cases hc;exact hle
   ·exact h2 j c h3 h hc
theorem jk{G:N→Prop}{l:List C}(h:RR G l)(hn:l≠[])(key:ByteArray):∃A c B,l=A++c::B∧A.length=fU l key∧(∀a,a∈A→∀x,x∈iU false a→cI x.key key=true)∧mq c.key key=true∧∀b,b∈B→cI key b.key=true:=by
 have hpos:=List.length_pos_iff.2 hn
 have hw:=gN hn key
 obtain⟨h1,h2⟩:=wH l key (l.length-1) (by omega)
 have hwd:fU l key=ml l key (l.length-1):=rfl
 rw[←hwd]at h1 h2
 have hsp:l=l.take (fU l key)++l[fU l key]::l.drop (fU l key+1):=by
  rw[←List.drop_eq_getElem_cons hw,List.take_append_drop]
 have hle:mq l[fU l key].key key=true:=by
  rcases h1 with h1|⟨c,hc,h1⟩
  ·have hk:=h.k0
   have:l[fU l key].key=aZ:=by
    rw[←hk]
    cases l with
    |nil=>exact absurd rfl hn
    |cons a t=>simp[h1,keyOf]
   rw[this];exact od _
  ·rw[List.getElem?_eq_getElem hw]at hc
   cases hc;exact h1
 have hpw:=h.pw
 rw[hsp,eS]at hpw
 refine⟨_,_,_,hsp,by rw[List.length_take];omega,fun a ha x hx=>iu ((hpw.2.2 a ha _ List.mem_cons_self).2 x hx) hle,hle,fun b hb=>?_⟩
 obtain⟨j,hj⟩:=List.mem_iff_getElem?.1 hb
 rw[List.getElem?_drop]at hj
 exact s6.1 (h2 _ b (by omega) (by have:=(List.getElem?_eq_some_iff.1 hj).1;omega) hj)
theorem qW{d:Nat}{A B:List C}{c:C}(h:RR (Good d) (A++c::B)){key:ByteArray}(hB:∀b,b∈B→cI key b.key=true):∀x,x∈B.flatMap (iU false)→cI key x.key=true:=fun x hx=>by
 obtain⟨b,hb,hx⟩:=List.mem_flatMap.1 hx
 exact iu (hB b hb) ((h.cell b (by simp[hb])).2.1 x hx)
theorem uN{d:Nat}{k:N}(h:Good d k)(hf:Fits k):k.leaf=true∨2≤k.l.length:=by
 cases d with
 |zero=>exact .inl h.1
 |succ d=>
  refine .inr ?_
  have hs:=gY h
  rw[if_neg (by omega)]at hs
  have h30:=hf.1
  unfold ae at hs h30
  match hl:k.l,hs,h30 with
  |[],_,h30=>simp at h30
  |[c],hs,h30=>
   have:=hs (aX k.leaf c) (by simp)
   simp at h30;omega
  |_::_::_,_,_=>simp
theorem FI{d:Nat}{A B:List C}{c:C}{kid:N}(h:RR (Good d) (A++c::B))(k':N)(hg:Good d k')(hs:(ae k').sum≤167)(hk:c.kid=[kid])(hlo:∀x,x∈de k'→mq c.key x.key=true)(hup:∀x,x∈de k'→∀b,b∈B→cI x.key b.key=true):SN d A (af c.key k') B:=by
 obtain⟨p1,p2,p3⟩:=eS.1 h.pw
 rw[List.pairwise_cons]at p2
 refine⟨?_,eS.2 ⟨p1,List.pairwise_cons.2 ⟨fun b hb=>⟨(p2.1 b hb).1,fun x hx=>?_⟩,p2.2⟩,fun a ha b hb=>?_⟩,fun x hx=>h.cell x (by simp[hx]),fun x hx=>h.cell x (by simp[hx]),⟨(h.cell c (by simp)).1.1,rfl,rfl⟩,fun x hx=>?_,k',rfl,hg,hs⟩
 ·rw[←h.k0];exact qo rfl (by simp) (by simp)
 ·rw[cZ]at hx;exact hup x hx b hb
 ·rcases List.mem_cons.1 hb with rfl|hb
  ·exact p3 a ha c List.mem_cons_self
  ·exact p3 a ha b (List.mem_cons_of_mem _ hb)
 ·rw[cZ]at hx;exact hlo x hx
theorem yp.WX{d:Nat}{L:List C}{m:N}(h:yp d L m):Good (d+1) m:=⟨h.leaf,h.ne,h.br⟩
theorem ox{n:N}(h:n.leaf=true):ae n=n.l.map (aX true):=by unfold ae;rw[h]
theorem lW{n:N}(h:n.leaf=false):ae n=n.l.map (aX false):=by unfold ae;rw[h]
theorem ze{A B:List C}{c:C}(h:2≤(A++c::B).length):A≠[]∨B≠[]:=by
 rcases A with _|⟨a,A⟩
 ·right;rintro rfl;simp at h
 ·exact .inl (by simp)
theorem BH{key val:ByteArray}(hk0:key≠aZ)(hk:key.size≤16)(hv:val.size≤400):∀{d:Nat} {n:N},Good d n→(ae n).sum≤122→n.leaf=true∨2≤n.l.length→Good d (ct key val n)∧(ae (ct key val n)).sum≤157∧de (ct key val n)=o0 key val (de n)
 |0,n,h,hs,h2=>by
  rw[fV _ _ _ h.1,cm h.1,fP,fZ,cw]
  rw[ox h.1]at hs
  obtain⟨e1,e2⟩:=Cj h.2.1 key val
  have h35:=(size_leaf (c:= .mk key val [] []) ⟨hk,hv⟩).2
  refine⟨⟨rfl,?_,fun c hc=>?_⟩,?_,e1⟩
  ·show dj (cO n.l key val)
   rw[e1];exact Ml h.2.1 key val
  ·rcases j5 hc with hc|rfl
   ·exact h.2.2 c hc
   ·exact⟨hk0,hk,hv,fun e=>absurd rfl e,by simp[C.ai],rfl⟩
  ·have hpos:0≤((n.l.filter fun c=>fh c.key key).map (aX true)).sum:=Fv fun x hx=>by
    obtain⟨c,hc,rfl⟩:=List.mem_map.1 hx
    obtain⟨_,w2,w3,_⟩:=h.2.2 c (List.mem_filter.1 hc).1
    exact(size_leaf ⟨w2,w3⟩).1
   split at e2 <;>omega
 |d+1,n,h,hs,h2=>by
  have hB:=h.2.2
  have h2:=h2.resolve_left (by rw[h.1];simp)
  obtain⟨A,c,B,hl,hw,hA,hc,hBk⟩:=jk hB h.2.1 key
  have hcl:n.l[fU n.l key]? =some c:=by rw[←hw];conv=>lhs;rw[hl]
                                        simp
  have hcm:c∈n.l:=List.mem_of_getElem? hcl
  obtain⟨o1,o2,kid,hkid,o4,o5⟩:=hB.cell c hcm
  obtain⟨g1,g2,g3⟩:=BH hk0 hk hv o4 o5.2 (uN o4 o5)
  rw[jZ _ _ _ h.1 hcl hkid,←hw]
  rw[lW h.1]at hs
  have hen:de n=A.flatMap (iU false)++de kid++B.flatMap (iU false):=by rw[ca,h.1,hl,List.flatMap_append,List.flatMap_cons,bc hkid,List.append_assoc]
  rw[hl]at hB hs h2 ⊢
  rw[gj,List.append_assoc,List.singleton_append]
  rw[bc hkid]at o2
  obtain⟨p1,p2,p3⟩:=eS.1 hB.pw
  rw[List.pairwise_cons]at p2
  have hP:=FI hB (ct key val kid) g1 (by omega) hkid (fun x hx=>by
   rw[g3]at hx
   rcases E2 hx with hx|rfl
   ·exact o2 x hx
   ·exact hc) fun x hx b hb=>by
   rw[g3]at hx
   rcases E2 hx with hx|rfl
   ·exact(p2.1 b hb).2 x (by rw[bc hkid];exact hx)
   ·exact hBk b hb
  have hm:=FM hP (ze h2)
  refine⟨hm.WX,?_,?_⟩
  ·have:=hm.sum
   simp only[List.map_append,List.map_cons,List.sum_append,List.sum_cons,fL,af,C.lE]at this hs
   simp only[af]
   omega
  ·rw[hm.en,hen,Qp,List.flatMap_append,List.flatMap_cons,cZ,g3,List.append_assoc]
   ·intro a ha
    obtain⟨a',ha',hx⟩:=List.mem_flatMap.1 ha
    exact hA a' ha' a hx
   ·exact qW hB hBk
theorem px{key:ByteArray}:∀{d:Nat} {n:N},Good d n→(ae n).sum≤122→n.leaf=true∨2≤n.l.length→Good d (aD key n)∧(ae (aD key n)).sum≤142∧de (aD key n)=Bu key (de n)
 |0,n,h,hs,h2=>by
  rw[cn _ _ h.1,cm h.1,fP,fZ,cw]
  rw[ox h.1]at hs
  refine⟨⟨rfl,nk h.2.1 _,fun c hc=>h.2.2 c (List.mem_filter.1 hc).1⟩,?_,rfl⟩
  have:∀l:List C,(∀c,c∈l→ZK c)→((l.filter fun c=>!fh c.key key).map (aX true)).sum≤(l.map (aX true)).sum:=by
   intro l
   induction l with
   |nil=>intro _;exact Int.le_refl _
   |cons c l ih=>
    intro hl
    have h1:=ih fun c hc=>hl c (List.mem_cons_of_mem _ hc)
    obtain⟨_,w2,w3,_⟩:=hl c List.mem_cons_self
    have:=(size_leaf ⟨w2,w3⟩).1
    rw[List.filter_cons,List.map_cons,List.sum_cons]
    split
    ·rw[List.map_cons,List.sum_cons];omega
    ·omega
  have:=this n.l h.2.2
  omega
 |d+1,n,h,hs,h2=>by
  have hB:=h.2.2
  have h2:=h2.resolve_left (by rw[h.1];simp)
  obtain⟨A,c,B,hl,hw,hA,hc,hBk⟩:=jk hB h.2.1 key
  have hcl:n.l[fU n.l key]? =some c:=by rw[←hw];conv=>lhs;rw[hl]
                                        simp
  have hcm:c∈n.l:=List.mem_of_getElem? hcl
  obtain⟨o1,o2,kid,hkid,o4,o5⟩:=hB.cell c hcm
  obtain⟨g1,g2,g3⟩:=px (key:=key) o4 o5.2 (uN o4 o5)
  rw[fk _ _ h.1 hcl hkid,←hw]
  rw[lW h.1]at hs
  have hen:de n=A.flatMap (iU false)++de kid++B.flatMap (iU false):=by rw[ca,h.1,hl,List.flatMap_append,List.flatMap_cons,bc hkid,List.append_assoc]
  rw[hl]at hB hs h2 ⊢
  have dn:(A++c::B).set A.length (.mk c.key c.data c.ai [aD key kid])=A++af c.key (aD key kid)::B:=by
   rw[List.set_append_right _ _ (Nat.le_refl _),Nat.sub_self,List.set_cons_zero,o1.2.1,o1.2.2];rfl
  rw[dn]
  rw[bc hkid]at o2
  obtain⟨p1,p2,p3⟩:=eS.1 hB.pw
  rw[List.pairwise_cons]at p2
  have hP:=FI hB (aD key kid) g1 (by omega) hkid (fun x hx=>by
   rw[g3]at hx
   exact o2 x (List.mem_filter.1 hx).1) fun x hx b hb=>by
   rw[g3]at hx
   exact(p2.1 b hb).2 x (by rw[bc hkid];exact(List.mem_filter.1 hx).1)
  have hm:=FM hP (ze h2)
  refine⟨hm.WX,?_,?_⟩
  ·have:=hm.sum
   simp only[List.map_append,List.map_cons,List.sum_append,List.sum_cons,fL,af,C.lE]at this hs
   simp only[af]
   omega
  ·rw[hm.en,hen,Qg,List.flatMap_append,List.flatMap_cons,cZ,g3,List.append_assoc]
   ·intro a ha
    obtain⟨a',ha',hx⟩:=List.mem_flatMap.1 ha
    exact hA a' ha' a hx
   ·exact qW hB hBk
def gV(n:N):Prop:=∃d,Good d n∧(ae n).sum≤122∧(n.leaf=true∨2≤n.l.length)
theorem zl:∀{d:Nat} {n:N},Good d n→(ae n).sum≤167→gV (jT n)∧de (jT n)=de n:=by
 have one:∀{d:Nat} {n:N},Good d n→(ae n).sum≤167→n.leaf=true∨n.l.length≠1→gV (jT n)∧de (jT n)=de n:=by
  intro d n h hs h1
  rw[cW _ h1]
  have hP:SN d [] (af aZ n) []:=⟨rfl,List.pairwise_singleton _ _,fun x hx=>(by cases hx),fun x hx=>(by cases hx),⟨by show aZ.size≤16;rw[bC];omega,rfl,rfl⟩,fun x hx=>od _,n,rfl,h,hs⟩
  rcases qQ (p:=0) hP (kid:=n) rfl (m:=aV (.mk 0 false [af aZ n]) n 0 aZ) rfl with⟨q1,q2,q3⟩|⟨q1,q2,q3,q4,q5,q6,q7⟩
  ·rw[if_pos (o7 q3)]
   refine⟨⟨d,h,q3,?_⟩,rfl⟩
   rcases h1 with h1|h1
   ·exact .inl h1
   ·cases hl:n.leaf with
    |true=>exact .inl rfl
    |false=>
     refine .inr ?_
     cases d with
     |zero=>have:=h.1;rw[hl]at this;cases this
     |succ d=>have:=List.length_pos_iff.2 h.2.1;omega
  ·have hne:atR (ae n)≠0:=by
    intro e
    unfold aV at q1
    simp only[e,if_true]at q1
    cases q1
   rw[if_neg hne]
   have hmd:cC (.mk 0 false [af aZ n]) 0=(aV (.mk 0 false [af aZ n]) n 0 aZ).1:=by
    have e1:cellAt [af aZ n] 0=af aZ n:=rfl
    have e2:ay (af aZ n)=n:=rfl
    have e3:(af aZ n).key=aZ:=rfl
    unfold cC
    simp only[N.eB,e1,e2,e3]
    rw[if_pos q1]
   rw[hmd]
   have he:de (aV (.mk 0 false [af aZ n]) n 0 aZ).1=de n:=by
    have:=q5
    simp only[List.nil_append,List.flatMap_cons,List.flatMap_nil,List.append_nil,cZ]at this
    exact this
   have hlen:(aV (.mk 0 false [af aZ n]) n 0 aZ).1.l.length=2:=by simpa using q3
   refine⟨⟨d+1,⟨q2,by intro e;rw[e]at hlen;simp at hlen,q4⟩,?_,.inr (by omega)⟩,he⟩
   have:(ae (aV (.mk 0 false [af aZ n]) n 0 aZ).1).sum≤(([]++af aZ n::[]).map (aX false)).sum+20:=q7
   have e4:(([]++af aZ n::[]).map (aX false)).sum=4:=by
    simp only[List.nil_append,List.map_cons,List.map_nil,List.sum_cons,List.sum_nil,fL,af,C.lE,bC];omega
   omega
 intro d
 induction d with
 |zero=>intro n h hs;exact one h hs (.inl h.1)
 |succ d ih=>
  intro n h hs
  by_cases h1:n.l.length=1
  ·obtain⟨c,hc⟩:=List.length_eq_one_iff.1 h1
   obtain⟨_,_,k,hk,hg,hf⟩:=h.2.2.cell c (by rw[hc];exact List.mem_singleton_self c)
   rw[kZ n h.1 hc hk]
   obtain⟨i1,i2⟩:=ih hg (by have:=hf.2;omega)
   refine⟨i1,?_⟩
   rw[i2,ca n,h.1,hc,List.flatMap_cons,List.flatMap_nil,bc hk,List.append_nil]
  ·exact one h hs (.inr h1)
theorem kF{key val:ByteArray}(hk0:key≠aZ)(hk:key.size≤16)(hv:val.size≤400){n:N}(h:gV n):gV (ld key val n)∧de (ld key val n)=o0 key val (de n):=by
 obtain⟨d,h1,h2,h3⟩:=h
 obtain⟨g1,g2,g3⟩:=BH hk0 hk hv h1 h2 h3
 obtain⟨t1,t2⟩:=zl g1 (by omega)
 exact⟨t1,t2.trans g3⟩
theorem nM(key:ByteArray):∀{d:Nat} {n:N},Good d n→cF key n=((de n).find? fun c=>fh c.key key).map C.data
 |0,n,h=>by rw[oH _ _ h.1,cm h.1]
 |d+1,n,h=>by
  have hB:=h.2.2
  obtain⟨A,c,B,hl,hw,hA,hc,hBk⟩:=jk hB h.2.1 key
  have hcl:n.l[fU n.l key]? =some c:=by rw[←hw];conv=>lhs;rw[hl]
                                        simp
  obtain⟨o1,o2,kid,hkid,o4,o5⟩:=hB.cell c (List.mem_of_getElem? hcl)
  have hen:de n=A.flatMap (iU false)++(de kid++B.flatMap (iU false)):=by rw[ca,h.1,hl,List.flatMap_append,List.flatMap_cons,bc hkid]
  rw[vn _ _ h.1 hcl hkid,nM key o4,hen,List.find?_append,List.find?_append]
  rw[hl]at hB
  have f1:(A.flatMap (iU false)).find? (fun c=>fh c.key key)=none:=List.find?_eq_none.2 fun x hx=>by
   obtain⟨a,ha,hx⟩:=List.mem_flatMap.1 hx
   rw[dc.2 (bP (hA a ha x hx))];simp
  have f2:(B.flatMap (iU false)).find? (fun c=>fh c.key key)=none:=List.find?_eq_none.2 fun x hx=>by
   rw[dc.2 (bP (qW hB hBk x hx)).symm];simp
  rw[f1,f2]
  cases(de kid).find? fun c=>fh c.key key <;>rfl
theorem uG{key:ByteArray}{l:List C}(h:(l.find? fun c=>fh c.key key)=none):Bu key l=l:=eW fun a ha=>by
 have:=List.find?_eq_none.1 h a ha
 simpa using this
theorem pC(key:ByteArray){n:N}(h:gV n):gV (mg key n)∧de (mg key n)=Bu key (de n):=by
 obtain⟨d,h1,h2,h3⟩:=h
 unfold mg
 have hf:=nM key h1
 split
 ·obtain⟨g1,g2,g3⟩:=px (key:=key) h1 h2 h3
  obtain⟨t1,t2⟩:=zl g1 (by omega)
  exact⟨t1,t2.trans g3⟩
 ·rename_i hn
  refine⟨⟨d,h1,h2,h3⟩,(uG ?_).symm⟩
  rw[hf]at hn
  cases hx:(de n).find? fun c=>fh c.key key with
  |none=>rfl
  |some c=>rw[hx]at hn;simp at hn
def qO(from_:Int)(n:Nat):List Int:=(List.range n).map fun(i:Nat)=>from_+i
def fH(z:Nat):Nat:=if 16<z then(z+118)/119 else 0
mutual
def kW:N→Int→N×Int
 | .mk p b l,f=>
  let r:=gH b l f
  if l=[]then(.mk 0 b r.1,r.2)else(.mk r.2 b r.1,r.2+1)
def uI(b:Bool):C→Int→C×Int
 | .mk k d ps kid,f=>if b then(.mk k d (if 16<d.size then qO f (fH d.size)else ps) kid,f+fH d.size)else
  let r:=Ka kid f
  (.mk k d ps r.1,r.2)
def gH(b:Bool):List C→Int→List C×Int
 |[],f=>([],f)
 |c::l,f=>
  let r:=uI b c f
  let q:=gH b l r.2
  (r.1::q.1,q.2)
def Ka:List N→Int→List N×Int
 |[],f=>([],f)
 |n::l,f=>([(kW n f).1],(kW n f).2)
end
theorem uM(b:Bool):∀(l:List C) (f:Int),(gH b l f).1.length=l.length
 |[],_=>rfl
 |a::l,f=>by simp only[gH,List.length_cons,uM b l]
theorem BB(n:N)(f:Int):kW n f=if n.l=[]then(.mk 0 n.leaf (gH n.leaf n.l f).1,(gH n.leaf n.l f).2)else(.mk (gH n.leaf n.l f).2 n.leaf (gH n.leaf n.l f).1,(gH n.leaf n.l f).2+1):=by
 cases n;simp only[kW,N.leaf,N.l];rfl
theorem tS(c:C)(f:Int):uI true c f=(.mk c.key c.data (if 16<c.data.size then qO f (fH c.data.size)else c.ai) c.kid,f+fH c.data.size):=by
 cases c;simp only[uI,if_true,C.key,C.data,C.ai,C.kid];rfl
theorem Aw{c:C}{k:N}(h:c.kid=[k])(f:Int):uI false c f=(.mk c.key c.data c.ai [(kW k f).1],(kW k f).2):=by
 cases c with|mk ck cd cp cr=>
 simp only[C.kid]at h;subst h
 simp only[uI,Bool.false_eq_true,if_false,Ka,C.key,C.data,C.ai]
theorem LH{z:Nat}(h:z≤400):fH z≤4:=by unfold fH;split <;>omega
theorem DZ(f:Int)(q:Nat):(qO f q).length=q:=by unfold qO;simp
def aI(n:N):List N:=if n.leaf then []else n.l.flatMap fun c=>c.kid.take 1
@[go_sem] def fM (c:C):DV:= .agg [dS c.data,.sl 1 false (c.ai.map dI)]
mutual
def dT:N→DV
 | .mk p b l=> .agg [dI p,dB b,.sl 1 false (l.map fun c=>dS c.key),.sl 2 false ((if b then l else []).map fM),.sl 5 false (if b then []else IZ l)]
def ZU:C→List DV
 | .mk _ _ _ kid=>Po kid
def IZ:List C→List DV
 |[]=>[]
 |c::l=>ZU c++IZ l
def Po:List N→List DV
 |[]=>[]
 |n::_=>[dT n]
end
theorem Of:∀l,Po l=(l.take 1).map dT
 |[]=>by simp[Po]
 |n::l=>by simp[Po]
theorem FV:∀l,IZ l=(l.flatMap fun c=>c.kid.take 1).map dT
 |[]=>by simp[IZ]
 |c::l=>by
  cases c
  simp only[IZ,ZU,Of,FV l,List.flatMap_cons,List.map_append,C.uw]
@[go_sem] def eT (n:N):DV:= .agg [dI n.ak,dB n.leaf,.sl 1 false (n.l.map fun c=>dS c.key),.sl 2 false ((if n.leaf then n.l else []).map fM),.sl 5 false ((aI n).map dT)]
@[go_sem] theorem j6 (n:N):dT n=eT n:=by
 cases n with|mk p b l=>
 simp only[dT,eT,N.FJ,N.ny,N.eB,aI]
 cases b <;>simp[FV]
def cT(n:N):List DV:=[dI n.ak,dB n.leaf,.sl 1 false (n.l.map fun c=>dS c.key),.sl 2 false ((if n.leaf then n.l else []).map fM),.sl 5 false ((aI n).map dT)]
theorem gi{n:N}(h:n.leaf=true):aI n=[]:=by unfold aI;rw[h];rfl
theorem HX{n:N}(h:n.leaf=false):aI n=n.l.flatMap fun c=>c.kid.take 1:=by unfold aI;rw[h];rfl
theorem Bj{l:List C}(h:∀c,c∈l→∃k,c.kid=[k]):(l.flatMap fun c=>c.kid.take 1)=l.map ay:=by
 induction l with
 |nil=>rfl
 |cons c l ih=>
  obtain⟨k,hk⟩:=h c List.mem_cons_self
  rw[List.flatMap_cons,ih fun c hc=>h c (List.mem_cons_of_mem _ hc),hk,List.map_cons,bl hk];rfl
theorem nH{d:Nat}{n:N}(h:Nd (d+1) n):aI n=n.l.map ay:=by
 rw[HX h.1]
 exact Bj fun c hc=>by obtain⟨_,k,hk,_⟩:=h.2.2 c hc;exact⟨k,hk⟩
theorem zc(w0:W0)(z:Int)(S:St):aa Tryz.prog w0 218 [dI z] S (fun d S'=>d=dI (need z)∧S'=S):=by
 refine aY [] mx Tryz.func218 rfl rfl (by kernel_rfl) ?_;(refine @ab _ ?_;refine ao @Tryz.ntmps218 ?_)
 unfold need
 refine⟨fun h=>by rw[if_neg (by omega)];rfl,fun h1=>⟨fun h=>by rw[if_neg (by omega)];rfl,fun h2=>?_⟩⟩
 rw[if_pos (by omega),ba (n:=z+119) (by omega) (by omega),ba (n:=z+119-1) (by omega) (by omega),Int.tdiv_eq_ediv_of_nonneg (by omega),ba (by omega) (by omega)]
 omega
mutual
def dh(ends:N→Bool):N→List N
 | .mk p b l=> .mk p b l::(if ends (.mk p b l)then []else if b then []else y9 ends l)
def XH(ends:N→Bool):C→List N
 | .mk _ _ _ kid=>Fj ends kid
def y9(ends:N→Bool):List C→List N
 |[]=>[]
 |c::l=>y9 ends l++XH ends c
def Fj(ends:N→Bool):List N→List N
 |[]=>[]
 |n::_=>dh ends n
end
theorem Ln(ends:N→Bool):∀l,Fj ends l=(l.take 1).flatMap (dh ends)
 |[]=>by simp[Fj]
 |n::l=>by simp[Fj]
theorem Aq(ends:N→Bool):∀l,y9 ends l=(l.flatMap fun c=>c.kid.take 1).reverse.flatMap (dh ends)
 |[]=>by simp[y9]
 |c::l=>by
  cases c with|mk k d ps kid=>
  have hr:(kid.take 1).reverse=kid.take 1:=by cases kid <;>rfl
  simp only[y9,XH,Ln,Aq ends l,List.flatMap_cons,List.reverse_append,List.flatMap_append,C.uw,hr]
theorem lH(ends:N→Bool)(n:N):dh ends n=n::(if ends n then []else(aI n).reverse.flatMap (dh ends)):=by
 cases n with|mk p b l=>
 simp only[dh,aI,N.ny,N.eB,Aq]
 cases b <;>simp
def vK(ends:N→Bool)(s:List N):List N:=s.reverse.flatMap (dh ends)
theorem Ie(ends:N→Bool)(s:List N)(x:N):vK ends (s++[x])=x::vK ends (s++if ends x then []else aI x):=by
 unfold vK
 rw[List.reverse_append,List.reverse_cons,List.reverse_nil,List.nil_append,List.flatMap_append,List.flatMap_cons,List.flatMap_nil,List.append_nil,lH,List.cons_append]
 congr 1
 cases ends x <;>simp[List.reverse_append,List.flatMap_append]
theorem LY(w0:W0)(n:N)(fe:FuncId)(S:St):aa Tryz.prog w0 150 [eT n,.v (.func (.func fe) #[] #[])] S (fun d S'=>∃(b:FN S.box) (c:FN ((b.n,cT n)::S.box)),d= .v (.func (.func 207) #[] #[.pointer (some ⟨b.n,0,none⟩),.pointer (some ⟨c.n,0,none⟩)])∧S'=⟨(c.n,[.v (.func (.func fe) #[] #[])])::(b.n,cT n)::S.box,S.acc⟩):=by
 refine nt [] mx Tryz.func150 rfl rfl (by kernel_rfl) ?_;(refine @ab _ ?_;refine ao @Tryz.ntmps150 ?_)
 exact fun b c=>⟨b,c,rfl,rfl⟩
theorem OP{α:Type}(f:α→DV)(l:List α){d:DV}(ho:eK d=true)(F:DV→Prop):BX (l.map f++[d]) l.length F=F d:=by
 unfold BX
 have h:(l.map f++[d])[l.length]? =some d:=by rw[List.getElem?_append_right (by simp)];simp
 simp[h]
 exact fun _=>ho
theorem vx{α:Type}(f:α→DV)(l:List α)(d:DV):(l.map f++[d]).take l.length=l.map f:=by
 rw[List.take_append_of_le_length (by rw[List.length_map];exact Nat.le_refl _)]
 exact List.take_of_length_le (by rw[List.length_map];exact Nat.le_refl _)
theorem CP{L:List (Nat×Ob)}{w m:Nat}{o o':Ob}(h:lk L w=some o')(hm:iX L m):lk (rI L w (m,o)) m=some o:=by
 induction L with
 |nil=>cases h
 |cons p t ih=>
  obtain⟨k,x⟩:=p
  simp only[lk]at h
  simp only[rI]
  split
  ·simp[lk]
  ·rename_i hne
   rw[if_neg hne]at h
   have hk:¬k=m:=fun e=>by have:=ng hm;rw[←e]at this;simp[lk]at this
   have hm':iX t m:=hm.2.2
   simp only[lk,if_neg hk]
   exact ih h hm'
theorem Eu{L:List (Nat×Ob)}{w m c:Nat}{o:Ob}(h1:c≠w)(h2:c≠m):lk (rI L w (m,o)) c=lk L c:=by
 induction L with
 |nil=>rfl
 |cons p t ih=>
  obtain⟨k,x⟩:=p
  simp only[rI]
  split
  ·rename_i e;subst e;simp only[lk];rw[if_neg (fun e=>h2 e.symm),if_neg (fun e=>h1 e.symm)]
  ·simp only[lk,ih]
theorem Jv{α:Type}:∀{L L':List (Nat×α)} {n:Nat},L.map (·.1)=L'.map (·.1)→lk L n=none→lk L' n=none
 |[],[],_,_,_=>rfl
 |[],_::_,_,h,_=>by simp at h
 |_::_,[],_,h,_=>by simp at h
 |(k,x)::t,(k',x')::t',n,h,hn=>by
  simp only[List.map_cons,List.cons.injEq]at h
  obtain⟨e,h⟩:=h
  subst e
  simp only[lk]at hn ⊢
  split at hn
  ·cases hn
  ·rename_i hne;rw[if_neg hne];exact Jv h hn
theorem L8(ends:N→Bool)(s:List N):s.length≤(vK ends s).length:=by
 unfold vK
 rw[←List.length_reverse]
 induction s.reverse with
 |nil=>exact Nat.le_refl 0
 |cons x t ih=>rw[List.flatMap_cons,lH];simp only[List.length_append,List.length_cons];omega
theorem Rz(L:List (Nat×List DV))(b c:Nat)(v:List DV):lk (up L b v) c=if b=c then(lk L c).map (fun _=>v)else lk L c:=by
 split
 ·rename_i e;subst e;exact ax _ _ _
 ·rename_i e;exact aL e _ _
theorem xE{X T:St}{b:Nat}(h:Has X T)(v:List DV):Has ⟨up X.box b v,X.acc⟩ ⟨up T.box b v,T.acc⟩:=⟨fun c x hc=>by
 simp only[Rz]at hc ⊢
 split at hc
 ·rename_i e
  obtain⟨y,hy,rfl⟩:=Option.map_eq_some_iff.1 hc
  rw[h.box _ _ hy,if_pos e];rfl
 ·rename_i e
  rw[if_neg e];exact h.box _ _ hc,h.acc⟩
theorem FW{α:Type}{L:List (Nat×α)}{b:Nat}{v:α}(h:lk L b=some v):up L b v=L:=by
 induction L with
 |nil=>rfl
 |cons p t ih=>
  obtain⟨k,x⟩:=p
  simp only[lk]at h
  simp only[up]
  split
  ·rename_i e;rw[if_pos e]at h;cases h;rfl
  ·rename_i e;rw[if_neg e]at h;rw[ih h]
theorem Ti(L:List (Nat×Ob))(b c:Nat)(v:Ob):lk (up L b v) c=if b=c then(lk L c).map (fun _=>v)else lk L c:=by
 split
 ·rename_i e;subst e;exact ax _ _ _
 ·rename_i e;exact aL e _ _
theorem zG{X T:St}{b l:Nat}(h:Has X T)(v:List DV)(o:Ob):Has ⟨up X.box b v,up X.acc l o⟩ ⟨up T.box b v,up T.acc l o⟩:=⟨(xE h v).box,fun c x hc=>by
 simp only[Ti]at hc ⊢
 split at hc
 ·rename_i e
  obtain⟨y,hy,rfl⟩:=Option.map_eq_some_iff.1 hc
  rw[h.acc _ _ hy,if_pos e];rfl
 ·rename_i e
  rw[if_neg e];exact h.acc _ _ hc⟩
theorem Ke{X T:St}{b l:Nat}{v:List DV}{o:Ob}(hb:¬lk X.box b=none)(hl:¬lk X.acc l=none):Kp X T ⟨up T.box b v,up T.acc l o⟩:=⟨fun c x hc hx=>by
 show lk (up T.box b v) c=some x
 rw[aL (fun e=>hb (by rw[e];exact hc))];exact hx,fun c x hc hx=>by
 show lk (up T.acc l o) c=some x
 rw[aL (fun e=>hl (by rw[e];exact hc))];exact hx⟩
structure Wk1 where
 T:St
 w:Nat
 pre:List N
 s:List N
theorem RY(w0:W0)(l b2 b3:Nat)(n:N)(ends:N→Bool)(fe:FuncId)(X:List N→St)(B:Nat)(hB:(dh ends n).length≤B)(hB2:B≤1048576)
 (h2:∀pre,lk (X pre).box b2=some (cT n)) (h3:∀pre,lk (X pre).box b3=some [.v (.func (.func fe) #[] #[])]) (hfe:okF Tryz.prog fe=true)
 (hend:∀x T,aa Tryz.prog w0 fe [eT x] T (fun d T'=>d=dB (ends x)∧T'=T))
 (hdb:∀pre,(X pre).box.map (·.1)=(X []).box.map (·.1)) (hda:∀pre,(X pre).acc.map (·.1)=(X []).acc.map (·.1))
 (hy:YK Tryz.prog w0 l X (fun x=>[eT x]) (dh ends n)):∀T,Has (X []) T→aa Tryz.prog w0 207 [.v (.func (.yield l) #[] #[]),.v (.pointer (some ⟨b2,0,none⟩)),.v (.pointer (some ⟨b3,0,none⟩))] T (fun _ T'=>Has (X (dh ends n)) T'):=by
 intro T hT
 have t2:lk T.box b2=some (cT n):=hT.box _ _ (h2 [])
 have t3:lk T.box b3=some [.v (.func (.func fe) #[] #[])]:=hT.box _ _ (h3 [])
 refine nt [0] mx Tryz.func207 rfl rfl (by kernel_rfl) ?_;simp only[Tryz.ntmps207,List.length_cons,List.length_nil,Nat.reduceAdd,Nat.reduceSub,List.reduceReplicate,List.cons_append,List.nil_append];(refine @ab _ ?_;refine fa @Tryz.ntmps207 @t2 @t3 ?_)
 refine Yz (by kernel_rfl) ?_
 simp(maxDischargeDepth:=12) (maxSteps:=1000000) -implicitDefEqProofs only[go_sem,Nat.reduceAdd,Nat.reduceSub,Nat.reduceMul,Nat.reduceLeDiff,Nat.reduceEqDiff,Nat.reduceGT,Nat.reduceBEq,reduceCtorEq,↓reduceIte,Int.reduceToNat,Int.reduceLE,Int.reduceLT,Int.reduceNe,Int.reduceEq,t2,t3,cT]
 intro lb
 refine iH [] [0,2,4] (fun s:Wk1=>[(4,.acc s.w s.s.length)]) (fun s=>s.T) (fun s=>Has (X s.pre) s.T∧lk s.T.acc s.w=some (.arr 5 (s.s.map dT))∧lk (X s.pre).acc s.w=none∧s.pre++vK ends s.s=dh ends n) (fun s=>(dh ends n).length-s.pre.length) ⟨⟨T.box,(lb.n,.arr 5 [dT n])::T.acc⟩,lb.n,[],[n]⟩ mx (by kernel_rfl) ?_ ?_
 ·have hnone:lk T.acc lb.n=none:=jy lb
  refine⟨⟨⟨hT.box,fun l' o ho=>?_⟩,by simp[lk],?_,?_⟩,?_,?_⟩
  ·have:=hT.acc _ _ ho
   show lk ((lb.n,_)::T.acc) l'=_
   simp only[lk]
   rw[if_neg (fun e=>by rw[e,this]at hnone;cases hnone)];exact this
  ·show lk (X []).acc lb.n=none
   cases hx:lk (X []).acc lb.n with
   |none=>rfl
   |some o=>rw[hT.acc _ _ hx]at hnone;cases hnone
  ·show []++vK ends [n]=dh ends n
   simp[vK]
  ·(refine @ab _ ?_;exact aK)
  ·(refine @ab _ ?_;exact aK)
 ·rintro⟨T,w,pre,st⟩ ⟨hT',hw,hwX,hV⟩
  simp only at hT' hw hwX hV
  have t2:lk T.box b2=some (cT n):=hT'.box _ _ (h2 pre)
  have t3:lk T.box b3=some [.v (.func (.func fe) #[] #[])]:=hT'.box _ _ (h3 pre)
  rcases List.eq_nil_or_concat st with rfl|⟨st,x,rfl⟩
  ·have hV':pre=dh ends n:=by simpa[vK]using hV
   (refine @ab _ ?_;refine aO @t3 @hw ?_)
   rw[←hV']
   exact⟨fun h=>absurd h (by omega),fun _=>hT'⟩
  ·rw[List.concat_eq_append]at hw hV ⊢
   rw[Ie]at hV
   have hlen:(st++[x]).length=st.length+1:=by simp
   have hw2:lk T.acc w=some (.arr 5 (st.map dT++[eT x])):=by rw[hw,List.map_append,List.map_cons,List.map_nil,j6]
   have hsl:=L8 ends (st++if ends x then []else aI x)
   have hVl:pre.length+(1+(vK ends (st++if ends x then []else aI x)).length)≤B:=by rw[←hV]at hB;simp only[List.length_append,List.length_cons]at hB;omega
   rw[List.length_append]at hsl
   have ewrap:IntKind.i64.wrap (((st.length+1:Nat):Int)-1)=(st.length:Int):=by rw[ba] <;>omega
   (refine @ab _ ?_;refine Co @t3 @hw2 @hlen @ewrap @OP @vx ?_)
   refine⟨fun _ b5=> .inl ⟨.inr (by omega),⟨_,_,_,rfl⟩,fun m=>?_⟩,fun h=>absurd (by omega) h⟩
   have hbn:lk T.box b5.n=none:=jy b5
   have hmn:lk T.acc m.n=none:=jy m
   have hXb:lk (X pre).box b5.n=none:=by
    cases hx:lk (X pre).box b5.n with
    |none=>rfl
    |some o=>rw[hT'.box _ _ hx]at hbn;cases hbn
   have hXm:lk (X pre).acc m.n=none:=by
    cases hx:lk (X pre).acc m.n with
    |none=>rfl
    |some o=>rw[hT'.acc _ _ hx]at hmn;cases hmn
   have hmw:m.n≠w:=by rintro e;rw[e,hw]at hmn;cases hmn
   have hT1:Has (X pre) ⟨(b5.n,cT x)::T.box,rI T.acc w (m.n,.arr 5 (st.map dT))⟩:=⟨fun c y hc=>by
    simp only[lk]
    rw[if_neg (fun e=>by rw[←e,hXb]at hc;cases hc)];exact hT'.box c y hc,fun c o hc=>by
    rw[Eu (fun e=>by rw[e,hwX]at hc;cases hc) (fun e=>by rw[e,hXm]at hc;cases hc)];exact hT'.acc c o hc⟩
   have hpre:(pre++[x]) <+: dh ends n:=⟨_,by rw[List.append_assoc];exact hV⟩
   refine Lo (hy pre x _ hpre hT1) ?_
   rintro d T2 ⟨rfl,hT2,hK⟩
   have u5:lk T2.box b5.n=some (cT x):=hK.box _ _ hXb (by simp only[lk,if_true];rfl)
   have um:lk T2.acc m.n=some (.arr 5 (st.map dT)):=hK.acc _ _ hXm (CP hw m.h)
   have u3:lk T2.box b3=some [.v (.func (.func fe) #[] #[])]:=hT2.box _ _ (h3 _)
   have hX2m:lk (X (pre++[x])).acc m.n=none:=Jv ((hda _).trans (hda _).symm) hXm
   have hmeas:(dh ends n).length-(pre++[x]).length<(dh ends n).length-pre.length:=by
    have:=hpre.length_le
    rw[List.length_append]at this ⊢
    simp only[List.length_cons,List.length_nil]at*
    omega
   simp(maxDischargeDepth:=12) (maxSteps:=1000000) -implicitDefEqProofs only[go_sem,Nat.reduceAdd,Nat.reduceSub,Nat.reduceMul,Nat.reduceLeDiff,Nat.reduceEqDiff,Nat.reduceGT,Nat.reduceBEq,reduceCtorEq,↓reduceIte,Int.reduceToNat,Int.reduceLE,Int.reduceLT,Int.reduceNe,Int.reduceEq,u5,um,u3,cT,hfe]
   refine aq (hend x _) ?_
   simp(maxDischargeDepth:=12) (maxSteps:=1000000) -implicitDefEqProofs only[go_sem,Nat.reduceAdd,Nat.reduceSub,Nat.reduceMul,Nat.reduceLeDiff,Nat.reduceEqDiff,Nat.reduceGT,Nat.reduceBEq,reduceCtorEq,↓reduceIte,Int.reduceToNat,Int.reduceLE,Int.reduceLT,Int.reduceNe,Int.reduceEq,u5,um,u3,cT]
   have hlV:(st.length+(aI x).length)*88≤140737488355328∧st.length+(aI x).length≤maxLen∨ends x=true:=by
    cases he:ends x
    ·rw[he]at hsl hVl
     simp only[Bool.false_eq_true,if_false]at hsl hVl
     refine .inl ⟨by omega,?_⟩
     have:maxLen=9223372036854775807:=rfl
     omega
    ·exact .inr rfl
   refine⟨fun he=>?_,fun he=>?_⟩
   ·rw[he,if_pos rfl,List.append_nil]at hV
    refine⟨⟨T2,m.n,pre++[x],st⟩,⟨hT2,um,hX2m,by rw[List.append_assoc];exact hV⟩,hmeas,.refl _,.refl _⟩
   ·rw[he,if_neg (by simp)]at hV
    obtain⟨q1,q2⟩:=hlV.resolve_right (by rw[he];simp)
    refine⟨q1,q2,⟨⟨T2.box,up T2.acc m.n (.arr 5 ((st++aI x).map dT))⟩,m.n,pre++[x],st++aI x⟩,⟨⟨hT2.box,fun l o hl=>?_⟩,?_,hX2m,by rw[List.append_assoc];exact hV⟩,hmeas,Wk.eq (by rw[List.length_append]),.refl _⟩
    ·show lk (up T2.acc m.n _) l=some o
     rw[aL (fun e=>by rw[←e,hX2m]at hl;cases hl)]
     exact hT2.acc l o hl
    ·show lk (up T2.acc m.n _) m.n=_
     rw[ax,um];rfl
end Go.Proofs.YtpjenciplibdnaaGreatDoor
namespace Go.Proofs
open Go.Shelf
def Tryz.BF:Go.Shelf.Ren:=⟨fun|189=>51|125=>101|257=>100|128=>161|129=>162|294=>152|295=>153|296=>154|297=>155|298=>156|299=>157|216=>158|300=>159|301=>160|328=>208|329=>209|330=>210|331=>211|332=>212|215=>213|343=>241|n=>n,fun|28=>37|3=>3|46=>194|0=>0|51=>197|53=>26|4=>4|183=>249|182=>248|131=>151|5=>5|9=>9|218=>295|222=>299|228=>325|229=>326|n=>n,fun|n=>n⟩
theorem Tryz.FH:Go.Proofs.Lays.n189 Tryz.prog Tryz.BF:={
 mixed:=by kernel_rfl
 f125:=Tryz.func101.trans (congrArg some (by kernel_rfl))
 f128:=Tryz.func161.trans (congrArg some (by kernel_rfl))
 f129:=Tryz.func162.trans (congrArg some (by kernel_rfl))
 f189:=Tryz.func51.trans (congrArg some (by kernel_rfl))
 f215:=Tryz.func213.trans (congrArg some (by kernel_rfl))
 f216:=Tryz.func158.trans (congrArg some (by kernel_rfl))
 f257:=Tryz.func100.trans (congrArg some (by kernel_rfl))
 f294:=Tryz.func152.trans (congrArg some (by kernel_rfl))
 f295:=Tryz.func153.trans (congrArg some (by kernel_rfl))
 f296:=Tryz.func154.trans (congrArg some (by kernel_rfl))
 f297:=Tryz.func155.trans (congrArg some (by kernel_rfl))
 f298:=Tryz.func156.trans (congrArg some (by kernel_rfl))
 f299:=Tryz.func157.trans (congrArg some (by kernel_rfl))
 f300:=Tryz.func159.trans (congrArg some (by kernel_rfl))
 f301:=Tryz.func160.trans (congrArg some (by kernel_rfl))
 f328:=Tryz.func208.trans (congrArg some (by kernel_rfl))
 f329:=Tryz.func209.trans (congrArg some (by kernel_rfl))
 f330:=Tryz.func210.trans (congrArg some (by kernel_rfl))
 f331:=Tryz.func211.trans (congrArg some (by kernel_rfl))
 f332:=Tryz.func212.trans (congrArg some (by kernel_rfl))
 f343:=Tryz.func241.trans (congrArg some (by kernel_rfl))
 t0:=Tryz.underlying0
 a0:=Tryz.isAgg0
 z0:=Tryz.sizeOf0
 v0:=Tryz.zeroValue0
 t3:=Tryz.underlying3
 a3:=Tryz.isAgg3
 z3:=Tryz.sizeOf3
 v3:=Tryz.zeroValue3
 t4:=Tryz.underlying4
 a4:=Tryz.isAgg4
 z4:=Tryz.sizeOf4
 v4:=Tryz.zeroValue4
 t5:=Tryz.underlying5
 a5:=Tryz.isAgg5
 z5:=Tryz.sizeOf5
 v5:=Tryz.zeroValue5
 t9:=Tryz.underlying9
 a9:=Tryz.isAgg9
 z9:=Tryz.sizeOf9
 v9:=Tryz.zeroValue9
 t28:=Tryz.underlying37
 a28:=Tryz.isAgg37
 z28:=Tryz.sizeOf37
 v28:=Tryz.zeroValue37
 t46:=Tryz.underlying194
 a46:=Tryz.isAgg194
 z46:=Tryz.sizeOf194
 v46:=Tryz.zeroValue194
 t51:=Tryz.underlying197
 a51:=Tryz.isAgg197
 z51:=Tryz.sizeOf197
 v51:=Tryz.zeroValue197
 t53:=Tryz.underlying26
 a53:=Tryz.isAgg26
 z53:=Tryz.sizeOf26
 v53:=Tryz.zeroValue26
 t131:=Tryz.underlying151
 a131:=Tryz.isAgg151
 z131:=Tryz.sizeOf151
 v131:=Tryz.zeroValue151
 t182:=Tryz.underlying248
 a182:=Tryz.isAgg248
 z182:=Tryz.sizeOf248
 v182:=Tryz.zeroValue248
 t183:=Tryz.underlying249
 a183:=Tryz.isAgg249
 z183:=Tryz.sizeOf249
 v183:=Tryz.zeroValue249
 t218:=Tryz.underlying295
 a218:=Tryz.isAgg295
 z218:=Tryz.sizeOf295
 v218:=Tryz.zeroValue295
 t222:=Tryz.underlying299
 a222:=Tryz.isAgg299
 z222:=Tryz.sizeOf299
 v222:=Tryz.zeroValue299
 t228:=Tryz.underlying325
 a228:=Tryz.isAgg325
 z228:=Tryz.sizeOf325
 v228:=Tryz.zeroValue325
 t229:=Tryz.underlying326
 a229:=Tryz.isAgg326
 z229:=Tryz.sizeOf326
 v229:=Tryz.zeroValue326}
open Go.Sort Go.RowKit in
theorem Tryz.slices_Sort_int(blk off cap:Nat)(zs:List Int)(w:World)(hH:Holds (Value.int .i64) w blk off zs.toArray)(hblk:blk<w.heap.size)(hsz:zs.length<4611686018427387904):
 Calls Tryz.prog 51 #[.slice (some ⟨blk,off,none⟩) zs.length cap] w fun e w'=>
  e= .returned (.tuple #[])∧∃n os,w'=grow (putRow (Value.int .i64) (Sort.ahead w n) blk off (zs.mergeSort fun x y=>decide (x≤y)).toArray) os:=Any.slices_Sort_int Tryz.FH blk off cap zs w hH hblk hsz
open Go.RowKit Go.Sort in
theorem Tryz.slices_Sort_int_none(p:Option Addr)(cap:Nat)(w:World):
 Calls Tryz.prog 51 #[.slice p 0 cap] w fun e w'=>e= .returned (.tuple #[])∧w'=w:=Any.slices_Sort_int_none Tryz.FH p cap w
end Go.Proofs
namespace Go.Proofs.YtpjenciplibdnaaGreatDoor
open Aml Go
def bz(l:List Int):List Int:=l.mergeSort fun x y=>decide (x≤y)
theorem aN(l:List Int):(bz l).length=l.length:=List.length_mergeSort l
theorem Au{l:List Int}{j:Nat}{a:Int}(h:l[j]? =some a):l.toArray[j]! =a:=by
 obtain⟨hlt,rfl⟩:=List.getElem?_eq_some_iff.1 h
 rw[getElem!_pos l.toArray j (by simpa using hlt)]
 simp
theorem zQ{w:World}{n b e:Nat}{cs:Array Value}{zs:List Int}{os:Array Obj}(hb:w.heap[b]? =some (.cells cs e (0,0)))(hn:zs.length≤cs.size):
 ∃cs',(Go.Sort.grow (Go.Sort.putRow (Value.int .i64) (Go.Sort.ahead w n) b 0 zs.toArray) os).heap[b]? =some (.cells cs' e (0,0))∧cs'.size=cs.size∧(∀(i:Nat) (a:Int),zs[i]? =some a→cs'[i]? =some (.int .i64 a))∧∀x,x∈cs'.toList→x∈cs.toList∨∃a,x= .int .i64 a:=by
 refine⟨Go.Sort.putCells (Value.int .i64) 0 zs.toArray cs,?_,by simp[Go.Sort.putCells],fun i a hi=>?_,fun x hx=>?_⟩
 ·rw[Go.Sort.heap_grow_old _ _ (by have:=(Array.getElem?_eq_some_iff.1 hb).1;simpa using this)]
  simp only[Go.Sort.putRow,Go.Sort.mapBlock,Go.Sort.heap_ahead,Array.getElem?_modify,if_true,hb,Option.map_some,Go.Sort.onCells]
 ·have hlt:i<zs.length:=(List.getElem?_eq_some_iff.1 hi).1
  have hc:cs[i]? =some cs[i]:=Array.getElem?_eq_getElem (by omega)
  simp only[Go.Sort.putCells,Array.getElem?_mapIdx,hc,Option.map_some]
  rw[if_pos (by simp;omega)]
  simp only[Nat.sub_zero]
  rw[Au hi]
 ·obtain⟨i,hi⟩:=List.mem_iff_getElem?.1 hx
  rw[Array.getElem?_toList]at hi
  simp only[Go.Sort.putCells,Array.getElem?_mapIdx,Option.map_eq_some_iff]at hi
  obtain⟨y,hy,rfl⟩:=hi
  split
  ·exact .inr ⟨_,rfl⟩
  ·exact .inl (Array.mem_toList_iff.2 (Array.mem_of_getElem? hy))
theorem mN(w0:W0){l:Nat}{zs:List Int}{S:St}(hl:lk S.acc l=some (.arr 1 (zs.map dI)))(hsz:zs.length<4611686018427387904):
 aa Tryz.prog w0 51 [.acc l zs.length] S (fun d S'=>d= .bN []∧S'=⟨S.box,up S.acc l (.arr 1 ((bz zs).map dI))⟩):=by
 intro g vs w h1 h2
 obtain⟨u,us,hvs,hr,h3⟩:=h2.bV
 have hus:us=[]:=List.eq_nil_of_length_eq_zero (by have:=h3.len;simpa using this.symm)
 subst hus
 have hvs':vs= #[u]:=by rw[←Array.toArray_toList (xs:=vs),hvs]
 subst hvs'
 obtain⟨o,c,hv,ha⟩:=iq hr
 subst hv
 by_cases hz:zs=[]
 ·subst hz
  refine(Tryz.slices_Sort_int_none o c w).mono ?_
  rintro e w' ⟨rfl,rfl⟩
  refine⟨_,g,.bN [],_,rfl,.refl g,?_,.bN [] [] rfl (by intro i d u h;simp at h),rfl,rfl⟩
  have:bz []=[]:=by simp[bz]
  rw[this,EX hl]
  exact h1
 ·have hpos:0<zs.length:=List.length_pos_iff.2 hz
  obtain⟨ow,hO⟩:=h1.open_
  obtain⟨hs,⟨he,o2,_⟩|⟨b,c2,cs,e,q1,q2,q3,q4,q5,q6,q7,q8,q8x,us,q9,q10,q11,q12⟩⟩:=hO.acc l _ (cz hl)
  ·exact absurd (by simpa using he) hz
  ·rw[List.length_map]at q1 q7
   have q1':=q1
   rw[ha]at q1
   simp only[Option.some.injEq,Value.slice.injEq,true_and]at q1
   obtain⟨rfl,rfl⟩:=q1
   rw[Nat.mul_one]at q6
   have hul:us.length=zs.length:=by have:=q9.len;simpa using this.symm
   have hus:∀(i:Nat) (a:Int),zs[i]? =some a→us[i]? =some (.int .i64 a):=by
    intro i a hi
    have hlt:i<us.length:=by rw[hul];exact(List.getElem?_eq_some_iff.1 hi).1
    have hu:us[i]? =some us[i]:=List.getElem?_eq_getElem hlt
    have:=q9.at_ i (dI a) _ (by simp[hi]) hu
    have:=az this
    rw[hu,this]
   have hcs:∀(i:Nat) (a:Int),zs[i]? =some a→cs[i]? =some (.int .i64 a):=by
    intro i a hi
    have:=q12 i _ 0 _ (hus i a hi) (show(Value.int IntKind.i64 a).cells[0]? =some (.int .i64 a)by rfl)
    simpa using this
   have hH:Go.Sort.Holds (Value.int .i64) w b 0 zs.toArray:=by
    intro j hj
    have hj':j<zs.length:=by simpa using hj
    have hi:zs[j]? =some zs[j]:=List.getElem?_eq_getElem hj'
    constructor
    ·rw[cM q5,Nat.zero_add,hcs j _ hi,Au hi]
    ·simp[World.frozen?,q5]
   refine(Tryz.slices_Sort_int b 0 c zs w hH (cX q5) hsz).mono ?_
   rintro ex w' ⟨rfl,n,os,rfl⟩
   obtain⟨cs',h5,h6,h7,h8⟩:=zQ (n:=n) (os:=os) (zs:=bz zs) q5 (by rw[aN];omega)
   refine⟨_,g,.bN [],_,rfl,.refl g,?_,.bN [] [] rfl (by intro i d u h;simp at h),rfl,rfl⟩
   refine h1.Nf (us:=(bz zs).map fun a=>Value.int .i64 a) (b:=b) (c:=c) (e:=e) (cs:=cs') hl (by rw[List.length_map];exact ha) (by simp[aN]) (by omega) h5 (by omega) ?_ (by simp) ?_ ?_ ?_ ?_ ?_ fun x hx=>(h8 x hx).elim (q8x x) fun⟨a,e⟩=>by rw[e];rfl
   ·refine h1.below.step ⟨rfl,rfl,rfl,by simp,fun k hk=>?_,Nat.le_add_right _ _⟩ b (nv q5) fun k hk hne=>?_
    ·rw[Go.Sort.heap_grow_old _ _ (by simp;exact Nat.lt_of_lt_of_le hk h1.below.size)]
     have:b≠k:=by omega
     simp[Go.Sort.putRow,Go.Sort.mapBlock,Array.getElem?_modify,this]
    ·rw[Go.Sort.heap_grow_old _ _ (by simp;exact hk)]
     have:b≠k:=fun e=>hne e.symm
     simp[Go.Sort.putRow,Go.Sort.mapBlock,Array.getElem?_modify,this]
   ·intro k hk hne
    rw[Go.Sort.heap_grow_old _ _ (by simp;exact hk)]
    have:b≠k:=fun e=>hne e.symm
    simp[Go.Sort.putRow,Go.Sort.mapBlock,Array.getElem?_modify,this]
   ·exact⟨by simp,fun i d u a1 a2=>by
     simp only[List.getElem?_map,Option.map_eq_some_iff]at a1 a2
     obtain⟨x,hx,rfl⟩:=a1
     obtain⟨y,hy,rfl⟩:=a2
     rw[hx]at hy;cases hy
     exact .v _ rfl⟩
   ·intro i u hi
    simp only[List.getElem?_map,Option.map_eq_some_iff]at hi
    obtain⟨x,_,rfl⟩:=hi;rfl
   ·intro u hu x hx
    obtain⟨a,_,rfl⟩:=List.mem_map.1 hu
    simp[Value.cells]at hx
    subst hx;rfl
   ·intro i u j x hi hj
    simp only[List.getElem?_map,Option.map_eq_some_iff]at hi
    obtain⟨a,ha',rfl⟩:=hi
    have hj0:j=0:=by have:=(Array.getElem?_eq_some_iff.1 hj).1;simp[Value.cells]at this;exact this
    subst hj0
    simp[Value.cells]at hj
    subst hj
    simpa using h7 i a ha'
theorem R8(w0:W0)(x:N)(S:St):aa Tryz.prog w0 225 [eT x] S (fun d S'=>d=dB (decide (x.ak≠0))∧S'=S):=by
 refine aY [] mx Tryz.func225 rfl rfl (by kernel_rfl) ?_;(refine @ab _ ?_;exact mf @Tryz.ntmps225)
theorem SK(w0:W0)(x:N)(S:St):aa Tryz.prog w0 151 [eT x] S (fun d S'=>d=dB false∧S'=S):=by
 refine aY [] mx Tryz.func151 rfl rfl (by kernel_rfl) ?_;(refine @ab _ ?_;exact mf @Tryz.ntmps151)
def QK(c:C):Nat:=if c.ai=[]then need (c.data.size:Int)else 0
def vX(l:List C):Nat:=(l.map QK).sum
def Ca(x:N):Nat:=if x.ak≠0 then 0 else if x.leaf=true∧x.l=[]then 0 else 1+vX (if x.leaf then x.l else [])
theorem zN{l:List C}{k:Nat}{c:C}(h:l[k]? =some c):vX (l.take (k+1))=vX (l.take k)+QK c:=by
 unfold vX
 rw[List.take_add_one,h];simp
theorem Bn(l:List C)(k:Nat):vX (l.take k)≤vX l:=by
 have:=congrArg vX (List.take_append_drop k l)
 simp only[vX,List.map_append,List.sum_append]at this ⊢
 omega
def yw(l:List N):Nat:=(l.map Ca).sum
theorem LK(l:List N)(x:N):yw (l++[x])=yw l+Ca x:=by simp[yw]
theorem Q7{l m:List N}(h:l <+: m):yw l≤yw m:=by
 obtain⟨t,rfl⟩:=h
 simp[yw]
def laidB(x:N):Bool:=decide (x.ak≠0)
theorem UA(w0:W0)(n:N)(S:St)(hV:(dh laidB n).length≤1048576)(hF:yw (dh laidB n)≤1099511627776)(hl:∀x,x∈dh laidB n→x.l.length≤1048576):
 aa Tryz.prog w0 180 [eT n] S (fun d S'=>d=dI (yw (dh laidB n))∧S'=S):=by
 refine aY [] mx Tryz.func180 rfl rfl (by kernel_rfl) ?_;(refine @ab _ ?_;refine ao @Tryz.ntmps180 ?_)
 intro b b1 b2
 refine bB (LY w0 n 225 _) ?_
 rintro d S' ⟨b3,b4,rfl,rfl⟩
 (refine @ab _ ?_;refine au ?_)
 refine qv [11] (fun pre=>⟨(b4.n,[.v (.func (.func 225) #[] #[])])::(b3.n,cT n)::(b2.n,[dI (yw pre)])::(b1.n,[.v (.func (.func 225) #[] #[])])::(b.n,cT n)::S.box,S.acc⟩) (fun x=>[eT x]) (dh laidB n) mx (by kernel_rfl) rfl rfl rfl (fun _=>rfl) (fun _=>rfl) (fun _=>rfl) ?_ ?_ ?_
 ·intro l w1 hy T hT
  exact RY w1 l b3.n b4.n n laidB 225 _ _ hV (Nat.le_refl _) (fun _=>by(refine @ab _ ?_;exact aK)) (fun _=>by(refine @ab _ ?_;exact aK)) (by simp only[go_sem]) (fun x T=>R8 w1 x T) (fun _=>rfl) (fun _=>rfl) hy T hT
 ·intro pre x T hp hT
  have t2:lk T.box b2.n=some [dI (yw pre)]:=hT.box _ _ (by(refine @ab _ ?_;exact aK))
  have t1:lk T.box b1.n=some [.v (.func (.func 225) #[] #[])]:=hT.box _ _ (by(refine @ab _ ?_;exact aK))
  simp only[jo]
  (refine @ab _ ?_;refine aO @t1 @t2 ?_)
  intro b5
  refine aq (R8 w0 x _) ?_
  have hfr:=LK pre x
  have hfp:=Nat.le_trans (Q7 hp) hF
  have hxl:=hl x (by obtain⟨t,ht⟩:=hp;rw[←ht];simp)
  have hb5:¬b5.n=b2.n:=fun e=>by have:=jy b5;rw[e,t2]at this;cases this
  have h1:Ca x=if x.ak≠0 then 0 else if x.leaf=true∧x.l=[]then 0 else 1+vX (if x.leaf then x.l else []):=rfl
  have hH:∀v,v=(yw (pre++[x]):Int)→Has _ ⟨up T.box b2.n [dI v],T.acc⟩:=fun v hv=>by rw[hv];exact xE hT _
  have hu:∀v:Int,up ((b4.n,[.v (.func (.func 225) #[] #[])])::(b3.n,cT n)::(b2.n,[dI (yw pre)])::(b1.n,[.v (.func (.func 225) #[] #[])])::(b.n,cT n)::S.box) b2.n [dI v]=(b4.n,[.v (.func (.func 225) #[] #[])])::(b3.n,cT n)::(b2.n,[dI v])::(b1.n,[.v (.func (.func 225) #[] #[])])::(b.n,cT n)::S.box:=fun v=>by(refine @ab _ ?_;exact aK)
  have hK:∀v,Kp ⟨(b4.n,[.v (.func (.func 225) #[] #[])])::(b3.n,cT n)::(b2.n,[dI (yw pre)])::(b1.n,[.v (.func (.func 225) #[] #[])])::(b.n,cT n)::S.box,S.acc⟩ T ⟨up T.box b2.n v,T.acc⟩:=fun v=>Kp.up (by(refine @ab _ ?_;exact aK))
  simp only[hu]at hH
  (refine @ab _ ?_;refine aO @t1 @t2 ?_)
  refine⟨fun hp0=>?_,fun hp0=>⟨fun hlf=>⟨fun hl0=>?_,fun hl0=>?_⟩,fun hlf=>?_⟩⟩
  ·rw[if_pos hp0]at h1
   rw[h1]at hfr
   rw[hfr]
   exact⟨hT.bw b5 _ rfl,(Kp.refl _ _).bw b5 _ rfl⟩
  ·have hl1:x.l=[]:=List.eq_nil_of_length_eq_zero (by omega)
   rw[if_neg hp0,if_pos ⟨hlf,hl1⟩]at h1
   rw[h1]at hfr
   rw[hfr]
   exact⟨hT.bw b5 _ rfl,(Kp.refl _ _).bw b5 _ rfl⟩
  all_goals
   have hlL:(if x.leaf=true then x.l else []).length≤1048576:=by split <;>first|exact hxl|exact Nat.zero_le _
   generalize hL:(if x.leaf=true then x.l else [])=L at*
   have h1:Ca x=1+vX L:=by
    rw[h1,if_neg hp0,if_neg (fun e=>by simp_all)]
   refine aA [11] L.length [3,4,11,28,29,30] (fun k=>[(30,dI k)]) (fun k=>⟨up T.box b2.n [dI ((yw pre+1+vX (L.take k):Nat):Int)],T.acc⟩) (fun _=>True) mx (by kernel_rfl) ?_ ?_
   ·(refine @ab _ ?_;refine au ?_)
    refine .bw ?_
    rw[show IntKind.i64.wrap ((yw pre:Int)+1)=((yw pre+1+vX []:Nat):Int)from by rw[ba (by omega) (by omega)];simp[vX]]
    exact .refl _
   ·intro k hk _
    have e2:∀z:List DV,lk (up T.box b2.n z) b2.n=some z:=fun z=>by rw[ax,t2];rfl
    have hle:=Bn L k
    (refine @ab _ ?_;refine aO @t1 @t2 ?_)
    refine⟨fun hlt=>⟨hlt,fun c hc b6=>⟨fun hp0=>?_,fun hp0=>⟨hlt,by rw[ba (by omega) (by omega)];omega,.bw ?_⟩⟩⟩,fun hge=>?_⟩
    ·have hne:¬b6.n=b2.n:=fun e=>by have:=jy b6;rw[e,e2]at this;cases this
     have hpl:c.ai=[]:=List.eq_nil_of_length_eq_zero (by omega)
     refine Jp mx (by kernel_rfl) ?_
     (refine @ab _ ?_;refine aO @e2 @hne ?_)
     refine KE (fun B hB=>zc w0 _ _) ?_
     have hc1:QK c=need (c.data.size:Int):=if_pos hpl
     have hs:=zN hc
     have hle':=Bn L (k+1)
     (refine @ab _ ?_;refine fa @e2 @hne @rK ?_)
     refine⟨hlt,by rw[ba (by omega) (by omega)];omega,.bw ?_⟩
     rw[show IntKind.i64.wrap (((yw pre+1+vX (L.take k):Nat):Int)+(need (c.data.size:Int):Int))=((yw pre+1+vX (L.take (k+1)):Nat):Int)from by rw[ba (by omega) (by omega)];omega]
     exact .refl _
    ·rw[zN hc,show QK c=0 from if_neg fun e=>by rw[e]at hp0;exact hp0 rfl]
     exact .refl _
    ·have hkL:k=L.length:=by omega
     rw[hkL,List.take_length]
     exact⟨hH _ (by omega),hK _⟩
 ·(refine @ab _ ?_;exact aK)
def Nq(x:N):List Int:=(if x.ak≠0 then [x.ak]else [])++(if x.leaf then x.l else []).flatMap C.ai
def mo(l:List N):List Int:=l.flatMap Nq
theorem Ao(l:List N)(x:N):mo (l++[x])=mo l++Nq x:=by simp[mo]
theorem QI{l m:List N}(h:l <+: m):(mo l).length≤(mo m).length:=by
 obtain⟨t,rfl⟩:=h
 simp[mo]
def qN(x:N):Bool:=false
theorem Ve(w0:W0)(n:N)(S:St)(hV:(dh qN n).length≤1048576)(hF:(mo (dh qN n)).length≤1073741824)(hl:∀x,x∈dh qN n→x.l.length≤1048576):
 aa Tryz.prog w0 98 [eT n] S (fun d S'=>∃m:FN S.acc,d= .acc m.n (mo (dh qN n)).length∧S'=⟨S.box,(m.n,.arr 1 ((bz (mo (dh qN n))).map dI))::S.acc⟩):=by
 refine vp [] mx Tryz.func98 rfl rfl (by kernel_rfl) ?_;(refine @ab _ ?_;refine ao @Tryz.ntmps98 ?_)
 intro b b1
 refine bB (LY w0 n 151 _) ?_
 rintro d S' ⟨b3,b4,rfl,rfl⟩
 (refine @ab _ ?_;refine au ?_)
 refine eg b1.n 0 1 (by omega) (ds:=[.sl 0 true []]) (by(refine @ab _ ?_;exact aK)) rfl fun lb=>?_
 (refine @ab _ ?_;refine au ?_)
 refine qv [] (fun pre=>⟨(b4.n,[.v (.func (.func 151) #[] #[])])::(b3.n,cT n)::(b1.n,[.acc lb.n (mo pre).length])::(b.n,cT n)::S.box,(lb.n,.arr 1 ((mo pre).map dI))::S.acc⟩) (fun x=>[eT x]) (dh qN n) mx (by kernel_rfl) rfl rfl rfl (fun _=>rfl) (fun _=>rfl) (fun _=>rfl) ?_ ?_ ?_
 ·intro l w1 hy T hT
  exact RY w1 l b3.n b4.n n qN 151 _ _ hV (Nat.le_refl _) (fun _=>by(refine @ab _ ?_;exact aK)) (fun _=>by(refine @ab _ ?_;exact aK)) (by simp only[go_sem]) (fun x T=>SK w1 x T) (fun _=>rfl) (fun _=>rfl) hy T hT
 ·intro pre x T hp hT
  have t1:lk T.box b1.n=some [.acc lb.n (mo pre).length]:=hT.box _ _ (by(refine @ab _ ?_;exact aK))
  have u1:lk T.acc lb.n=some (.arr 1 ((mo pre).map dI)):=hT.acc _ _ (by(refine @ab _ ?_;exact aK))
  have hxl:=hl x (by obtain⟨t,ht⟩:=hp;rw[←ht];simp)
  have hpl:=Nat.le_trans (QI hp) hF
  rw[Ao]at hpl
  have h1:Nq x=(if x.ak≠0 then [x.ak]else [])++(if x.leaf then x.l else []).flatMap C.ai:=rfl
  rw[List.length_append]at hpl
  have hH:∀l:List Int,l=mo (pre++[x])→Has _ ⟨up T.box b1.n [.acc lb.n l.length],up T.acc lb.n (.arr 1 (l.map dI))⟩:=fun v hv=>by rw[hv];exact zG hT _ _
  have hu:∀(l:List Int),(⟨up ((b4.n,[.v (.func (.func 151) #[] #[])])::(b3.n,cT n)::(b1.n,[.acc lb.n (mo pre).length])::(b.n,cT n)::S.box) b1.n [.acc lb.n l.length],up ((lb.n,.arr 1 ((mo pre).map dI))::S.acc) lb.n (.arr 1 (l.map dI))⟩:St)=⟨(b4.n,[.v (.func (.func 151) #[] #[])])::(b3.n,cT n)::(b1.n,[.acc lb.n l.length])::(b.n,cT n)::S.box,(lb.n,.arr 1 (l.map dI))::S.acc⟩:=fun v=>by(refine @ab _ ?_;exact aK)
  have hK:∀v o,Kp ⟨(b4.n,[.v (.func (.func 151) #[] #[])])::(b3.n,cT n)::(b1.n,[.acc lb.n (mo pre).length])::(b.n,cT n)::S.box,(lb.n,.arr 1 ((mo pre).map dI))::S.acc⟩ T ⟨up T.box b1.n v,up T.acc lb.n o⟩:=fun v o=>Ke (by(refine @ab _ ?_;exact aK)) (by(refine @ab _ ?_;exact aK))
  simp only[hu]at hH
  simp only[jo]
  (refine @ab _ ?_;refine aO @t1 @u1 ?_)
  intro b5
  have hb5:¬b5.n=b1.n:=fun e=>by have:=jy b5;rw[e,t1]at this;cases this
  have hm8:maxLen=9223372036854775807:=rfl
  refine⟨fun hp0=>⟨by omega,by omega,?_⟩,fun hp0=>?_⟩
  all_goals
   have hlL:(if x.leaf=true then x.l else []).length≤1048576:=by split <;>first|exact hxl|exact Nat.zero_le _
   generalize hL:(if x.leaf=true then x.l else [])=L at*
   obtain⟨P0,hP0⟩:∃P0,P0=mo pre++(if x.ak≠0 then [x.ak]else []):=⟨_,rfl⟩
   have hx:mo (pre++[x])=P0++L.flatMap C.ai:=by rw[Ao,h1,hP0,List.append_assoc]
   have hxlen:P0.length+(L.flatMap C.ai).length≤1073741824:=by
    rw[h1]at hpl
    rw[hP0]
    simp only[List.length_append]at hpl ⊢
    omega
   have htk:∀k,((L.take k).flatMap C.ai).length≤(L.flatMap C.ai).length:=fun k=>by
    have:=congrArg (List.flatMap C.ai) (List.take_append_drop k L)
    have:=congrArg List.length this
    simp only[List.flatMap_append,List.length_append]at this
    omega
   refine aA [] L.length [3,9,19,20,21] (fun k=>[(21,dI k)]) (fun k=>⟨up T.box b1.n [.acc lb.n (P0++(L.take k).flatMap C.ai).length],up T.acc lb.n (.arr 1 ((P0++(L.take k).flatMap C.ai).map dI))⟩) (fun _=>True) mx (by kernel_rfl) ?_ ?_
   ·(refine @ab _ ?_;refine au ?_)
    refine .bw ?_
    first
     |(rw[if_pos (show x.ak≠0 from hp0)]at hP0
       subst hP0
       simp only[List.flatMap_nil,List.length_append,List.length_cons,List.length_nil,Nat.add_zero,Nat.zero_add,List.append_nil,List.map_append,List.map_cons,List.map_nil]
       exact .refl _)
     |(rw[if_neg (show¬x.ak≠0 from hp0),List.append_nil]at hP0
       subst hP0
       simp only[List.flatMap_nil,List.length_nil,Nat.add_zero,List.append_nil]
       rw[FW t1,FW u1]
       exact .refl _)
   ·intro k hk _
    have e2:∀z:List DV,lk (up T.box b1.n z) b1.n=some z:=fun z=>by rw[ax,t1];rfl
    have e3:∀z:Ob,lk (up T.acc lb.n z) lb.n=some z:=fun z=>by rw[ax,u1];rfl
    have htk0:=htk k
    have htk1:=htk (k+1)
    have hsu:∀{c:C},L[k]? =some c→(L.take (k+1)).flatMap C.ai=(L.take k).flatMap C.ai++c.ai:=fun{c} hc=>by rw[List.take_add_one,hc];simp
    (refine @ab _ ?_;refine fa @e2 @e3 @rK ?_)
    refine⟨fun hlt=>⟨hlt,fun c hc b6=>?_⟩,fun hge=>?_⟩
    ·have hs:=hsu hc
     have hs2:=congrArg List.length hs
     rw[List.length_append]at hs2
     refine⟨by omega,by omega,hlt,by rw[ba (by omega) (by omega)];omega,.bw ?_⟩
     rw[hs]
     simp only[List.length_append,Nat.add_assoc,List.append_assoc]
     exact .refl _
    ·have hkL:k=L.length:=by omega
     rw[hkL,List.take_length]
     rw[hkL,List.take_length]at htk0
     have hxl2:=congrArg List.length hx
     rw[List.length_append]at hxl2
     refine⟨?_,hK _ _⟩
     have:=hH (P0++L.flatMap C.ai) hx.symm
     rw[List.length_append]at this
     exact this
 ·(refine @ab _ ?_;refine au ?_)
  refine .inl ?_
  refine bB (mN w0 (S:=⟨_,(lb.n,.arr 1 ((mo (dh qN n)).map dI))::S.acc⟩) (l:=lb.n) (zs:=mo (dh qN n)) (by(refine @ab _ ?_;exact aK)) (by omega)) ?_
  rintro d S' ⟨rfl,rfl⟩
  (refine @ab _ ?_;refine au ?_)
  exact⟨_,_,.refl _,.bw (.bw (.bw (.bw (.refl _)))),lb,rfl,rfl⟩
theorem Zk(w0:W0)(a:Int)(S:St):aa Tryz.prog w0 213 [dI a] S (fun d S'=>d=dB false∧S'=S):=by
 refine aY [] mx Tryz.func213 rfl rfl (by kernel_rfl) ?_;(refine @ab _ ?_;exact mf @Tryz.ntmps213)
theorem Zr(w0:W0)(a:Int)(S:St):aa Tryz.prog w0 230 [dI a] S (fun d S'=>d=dB false∧S'=S):=by
 refine aY [] mx Tryz.func230 rfl rfl (by kernel_rfl) ?_;(refine @ab _ ?_;exact mf @Tryz.ntmps230)
theorem Xh(w0:W0)(a b:Int)(S:St):aa Tryz.prog w0 158 [dI a,dI b] S (fun d S'=>d=dB (decide (a<b))∧S'=S):=by
 refine aY [] mx Tryz.func158 rfl rfl (by kernel_rfl) ?_;(refine @ab _ ?_;refine ao @Tryz.ntmps158 ?_)
 refine aq (Zk w0 a S) ?_
 (refine @ab _ ?_;exact aK)
def Up(l:List Int):Prop:=∀(i j:Nat) (a b:Int),i≤j→l[i]? =some a→l[j]? =some b→a≤b
theorem Pf(w0:W0)(l:List Int)(p:Int)(S:St)(hl:Up l)(hb:l.length≤1073741824):aa Tryz.prog w0 184 [dL l,dI p] S (fun d S'=>d= .bN [.any,dB (decide (p∈l))]∧S'=S):=by
 refine aY [] mx Tryz.func184 rfl rfl (by kernel_rfl) ?_;(refine @ab _ ?_;refine ao @Tryz.ntmps184 ?_)
 refine iH [] [0,1,6,7,8] (fun s:Nat×Nat=>[(7,dI s.1),(8,dI s.2)]) (fun _=>S) (fun s=>s.1≤s.2∧s.2≤l.length∧(∀(i:Nat) a,i<s.1→l[i]? =some a→a<p)∧∀(i:Nat) a,s.2≤i→l[i]? =some a→p≤a) (fun s=>s.2-s.1) (0,l.length) mx (by kernel_rfl) ?_ ?_
 ·(refine @ab _ ?_;refine au ?_)
  exact⟨Nat.zero_le _,fun i a h=>absurd h (by omega),fun i a h e=>absurd (List.getElem?_eq_some_iff.1 e).1 (by omega)⟩
 ·rintro⟨i,j⟩ ⟨h1,h2,h3,h4⟩
  simp only at h1 h2 h3 h4
  have eh:IntKind.i64.wrap ((IntKind.u64.wrap (IntKind.i64.wrap ((i:Int)+j))).fdiv (2^min 1 64))=(((i+j)/2:Nat):Int):=by
   rw[ba (n:=(i:Int)+j) (by omega) (by omega),ja (by omega) (by omega),Int.fdiv_eq_ediv_of_nonneg _ (by decide)]
   simp only[show min 1 64=1 from rfl,Int.pow_one]
   rw[ba (by omega) (by omega)]
   omega
  (refine @ab _ ?_;refine ao @eh ?_)
  refine⟨fun hlt=>⟨by omega,fun a ha=>aq (Xh w0 a p S) ?_⟩,fun hge=>⟨fun hlt=>⟨hlt,fun a ha=>⟨fun hap=>Wk.bN (.cons (.any _) (.cons (.eq ?_) .nil)),fun hap=>⟨hlt,fun c hc=>aq (Zr w0 c S) ?_⟩⟩⟩,fun hn=>?_⟩⟩
  ·(refine @ab _ ?_;refine ao @eh ?_)
   refine⟨fun hap=>⟨((i+j)/2+1,j),⟨by simp only;omega,h2,fun x c hx hc=>?_,h4⟩,by simp only;omega,by rw[ba (by omega) (by omega)];rfl,rfl⟩,fun hap=>⟨(i,(i+j)/2),⟨by simp only;omega,by simp only;omega,h3,fun x c hx hc=>?_⟩,by simp only;omega,rfl,rfl⟩⟩
   ·simp only at hx
    have:=hl x ((i+j)/2) c a (by omega) hc ha
    omega
   ·simp only at hx
    have:=hl ((i+j)/2) x a c hx ha hc
    omega
  ·have hin:p∈l:=hap▸List.mem_of_getElem? ha
   rw[decide_eq_true hin]
  ·(refine @ab _ ?_;refine au ?_)
   have hni:¬p∈l:=fun hin=>by
    obtain⟨x,hx⟩:=List.mem_iff_getElem?.1 hin
    rcases Nat.lt_or_ge x i with h|h
    ·have:=h3 x p h hx;omega
    ·have hle:=hl i x a p h ha hx
     have:=h4 i a (by omega) ha
     omega
   rw[decide_eq_false hni]
   exact Wk.bN (.cons (.any _) (.cons (.refl _) .nil))
  ·have hni:¬p∈l:=fun hin=>by
    obtain⟨x,hx⟩:=List.mem_iff_getElem?.1 hin
    have hxl:=(List.getElem?_eq_some_iff.1 hx).1
    have:=h3 x p (by omega) hx
    omega
   rw[decide_eq_false hni]
   exact Wk.bN (.cons (.any _) (.cons (.refl _) .nil))
def mh(l:List Int)(p:Int):Bool:=decide (p∈l)
def gp(l zs:List Int):List Int:=zs.filter fun p=>!mh l p
def Dx(l zs:List Int):Int:=if zs.findIdx (mh l)<zs.length then(zs.findIdx (mh l):Int)else -1
theorem SI(l:List Int):Up (bz l):=by
 have hp:(bz l).Pairwise (fun x y=>decide (x≤y)=true):=List.pairwise_mergeSort (by intro a b c;simp;omega) (by intro a b;simp;omega) l
 intro i j a b hij ha hb
 obtain⟨hi,rfl⟩:=List.getElem?_eq_some_iff.1 ha
 obtain⟨hj,rfl⟩:=List.getElem?_eq_some_iff.1 hb
 rcases Nat.lt_or_ge i j with h|h
 ·have:=List.pairwise_iff_getElem.1 hp i j hi hj h
  simpa using this
 ·have:i=j:=by omega
  subst this;exact Int.le_refl _
def dO(n:N):List Int:=bz (mo (dh qN n))
theorem JF{z:Nat}(h:z≤400)(f:Int):(qO f (fH z)).length≤4:=by rw[DZ];exact LH h
theorem oC(b:Bool):∀{l:List C} {f:Int} {x:C},x∈(gH b l f).1→∃c f',c∈l∧x=(uI b c f').1
 |c::l,f,x,h=>by
  simp only[gH]at h
  rcases List.mem_cons.1 h with e|h
  ·exact⟨c,f,List.mem_cons_self,e⟩
  ·obtain⟨c',f',h1,h2⟩:=oC b h
   exact⟨c',f',List.mem_cons_of_mem _ h1,h2⟩
theorem pO(n:N)(f:Int):(kW n f).1.l=(gH n.leaf n.l f).1:=by rw[BB];split <;>rfl
theorem th(n:N)(f:Int):(kW n f).1.leaf=n.leaf:=by rw[BB];split <;>rfl
theorem xH:∀{d:Nat} {n:N} (f:Int),Nd d n→Nd d (kW n f).1
 |0,n,f,h=>by
  refine⟨by rw[th];exact h.1,fun x hx=>?_⟩
  rw[pO,h.1]at hx
  obtain⟨c,f',hc,rfl⟩:=oC true hx
  obtain⟨h1,h2⟩:=h.2 c hc
  rw[tS]
  refine⟨⟨h1.1,h1.2.1,?_⟩,h2⟩
  show(if 16<c.data.size then qO f' (fH c.data.size)else c.ai).length≤4
  split
  ·exact JF h1.2.1 _
  ·exact h1.2.2
 |d+1,n,f,h=>by
  refine⟨by rw[th];exact h.1,?_,fun x hx=>?_⟩
  ·rw[pO]
   intro e
   have:=uM n.leaf n.l f
   rw[e]at this
   exact h.2.1 (List.eq_nil_of_length_eq_zero this.symm)
  ·rw[pO,h.1]at hx
   obtain⟨c,f',hc,rfl⟩:=oC false hx
   obtain⟨h1,k,hk,hnd⟩:=h.2.2 c hc
   rw[Aw hk]
   exact⟨⟨h1.1,h1.2.1,h1.2.2⟩,_,rfl,xH f' hnd⟩
theorem A6:∀{d:Nat} {n:N} (f:Int),Nd d n→bd (kW n f).1=bd n:=by
 have cs:∀(b:Bool) (l:List C) (f:Int),(∀c,c∈l→∀f,lX (uI b c f).1=lX c)→kC (gH b l f).1=kC l:=by
  intro b l
  induction l with
  |nil=>intro f _;rfl
  |cons c l ih=>
   intro f h
   simp only[gH,bh]
   rw[h c List.mem_cons_self,ih _ fun c hc=>h c (List.mem_cons_of_mem _ hc)]
 intro d
 induction d with
 |zero=>
  intro n f h
  rw[aH,aH,pO,h.1]
  refine cs true n.l f fun c hc f=>?_
  rw[tS,eU,eU];rfl
 |succ d ih=>
  intro n f h
  rw[aH,aH,pO,h.1]
  refine cs false n.l f fun c hc f=>?_
  obtain⟨_,k,hk,hnd⟩:=h.2.2 c hc
  rw[Aw hk,cA hk,cA (k:=(kW k f).1) rfl,ih f hnd]
structure Wt where
 bD:Int
 ai:List Int
 deriving DecidableEq
structure Pl where
 high:Int
 free:List Int
 wait:List Wt
 deriving DecidableEq
@[go_sem] def dW (w:Wt):DV:= .agg [dU w.bD,.sl 1 false (w.ai.map dI)]
@[go_sem] def dP (p:Pl):DV:= .agg [dI p.high,.sl 1 false (p.free.map dI),.sl 2 false (p.wait.map dW)]
def nW(l:List Wt):Nat:=(l.map fun w=>w.ai.length).sum
theorem FA{l:List Wt}{k:Nat}{a:Wt}(h:l[k]? =some a):nW (l.take (k+1))=nW (l.take k)+a.ai.length:=by
 unfold nW
 rw[List.take_add_one,h]
 simp
theorem Rs(l:List Wt)(k:Nat):nW (l.take k)≤nW l:=by
 have:nW l=nW (l.take k)+nW (l.drop k):=by
  unfold nW
  rw[←List.sum_append,←List.map_append,List.take_append_drop]
 omega
theorem waiting(w0:W0)(p:Pl)(S:St)(hl:p.wait.length≤4611686018427387904)(hn:nW p.wait≤4611686018427387904):aa Tryz.prog w0 134 [dP p] S (fun d S'=>d=dI (nW p.wait)∧S'=S):=by
 refine aY [] mx Tryz.func134 rfl rfl (by kernel_rfl) ?_;(refine @ab _ ?_;refine ao @Tryz.ntmps134 ?_)
 intro b
 refine aA [] p.wait.length [3,7,8,9] (fun k=>[(3,dI (nW (p.wait.take k))),(9,dI k)]) (fun _=>S) (fun k=>True) mx (by kernel_rfl) ?_ ?_
 ·(refine @ab _ ?_;refine au ?_)
  simp[nW]
 ·intro k hk hinv
  (refine @ab _ ?_;refine au ?_)
  refine⟨fun hlt=>⟨hlt,fun a ha b'=>?_⟩,fun hge=>?_⟩
  ·have h1:=FA ha
   have h2:=Rs p.wait (k+1)
   rw[ba (by omega) (by omega),ba (by omega) (by omega)]
   omega
  ·rw[List.take_of_length_le (by omega)]
def FU(l:List Int)(high:Int)(k:Nat):Prop:=∀(i:Nat) (a:Int),i<k→l[i]? =some a→2≤a∧a<high∧∀b,0<i→l[i-1]? =some b→b<a
def Row(l:List Int)(high:Int):Prop:=FU l high l.length
theorem vb{l:List Int}{high:Int}{k:Nat}{a:Int}(h:FU l high k)(ha:l[k]? =some a)(h1:2≤a)(h2:a<high)(h3:∀b,0<k→l[k-1]? =some b→b<a):FU l high (k+1):=by
 intro i c hi hc
 by_cases e:i=k
 ·subst e;cases bq ha hc;exact⟨h1,h2,h3⟩
 ·exact h i c (by omega) hc
theorem mY{l:List Int}{high:Int}{k:Nat}{a:Int}(h:Row l high)(ha:l[k]? =some a):2≤a∧a<high∧∀b,0<k→l[k-1]? =some b→b<a:=
 h k a (List.getElem?_eq_some_iff.1 ha).1 ha
theorem row(w0:W0)(l:List Int)(high:Int)(S:St)(h0:l.length≤4611686018427387904):aa Tryz.prog w0 103 [dL l,dI high] S (fun d S'=>d=dB (pB (Row l high))∧S'=S):=by
 refine aY [] mx Tryz.func103 rfl rfl (by kernel_rfl) ?_;simp(maxDischargeDepth:=12) (maxSteps:=1000000) -implicitDefEqProofs only[Tryz.ntmps103,go_sem,Nat.reduceAdd,Nat.reduceSub,Nat.reduceMul,Nat.reduceLeDiff,Nat.reduceEqDiff,Nat.reduceGT,Nat.reduceBEq,reduceCtorEq,↓reduceIte,Int.reduceToNat,Int.reduceLE,Int.reduceLT,Int.reduceNe,Int.reduceEq]
 refine aA [] l.length [0,1,7,8,9] (fun k=>[(9,dI k)]) (fun _=>S) (fun k=>FU l high k) mx (by kernel_rfl) ?_ ?_
 ·(refine @ab _ ?_;refine au ?_)
  intro i a hi;omega
 ·intro k hk hup
  (refine @ab _ ?_;refine au ?_)
  simp +contextual (disch:=first|omega|assumption) only[ba,ja,wu8,Option.some.injEq,forall_eq,forall_eq',forall_eq_apply_imp_iff,true_and,and_true,forall_const,true_implies,implies_true,not_true_eq_false,not_false_eq_true,false_implies,and_self,Int.toNat_natCast]
  refine⟨fun hlt a ha=>⟨fun h hr=>?_,fun h=>⟨fun h' hr=>?_,fun h'=>⟨fun hp=>⟨by omega,by omega,fun b hb=>?_⟩,fun hp=>?_⟩⟩⟩,fun hge=>?_⟩
  ·have:=mY hr ha;omega
  ·have:=mY hr ha;omega
  ·have e:((k:Int)-1).toNat=k-1:=by omega
   rw[e]at hb
   refine⟨fun hle hr=>?_,fun hle=>⟨vb hup ha (by omega) (by omega) fun c hc hcb=>?_,by omega⟩⟩
   ·have:=(mY hr ha).2.2 b (by omega) hb;omega
   ·cases bq hb hcb;omega
  ·exact⟨vb hup ha (by omega) (by omega) fun c hc hcb=>by omega,by omega⟩
  ·have e:k=l.length:=by omega
   subst e;exact hup
theorem s7{α:Type}{a b:List α}{k:Nat}(h:a.take k=b.take k)(hl:¬¬a.length=b.length)(hk:¬k<a.length):a=b:=by
 rw[List.take_of_length_le (by omega),List.take_of_length_le (by omega)]at h;exact h
theorem py{α:Type}{a b:List α}{k:Nat}{x y:α}(h:a.take k=b.take k)(hx:a[k]? =some x)(hy:b[k]? =some y)(e:x=y):a.take (k+1)=b.take (k+1):=by
 rw[List.take_add_one,List.take_add_one,h,hx,hy,e]
theorem Rm(w0:W0)(a b:List Int)(S:St)(h0:a.length≤4611686018427387904):aa Tryz.prog w0 95 [dL a,dL b] S (fun d S'=>d=dB (decide (a=b))∧S'=S):=by
 refine aY [] mx Tryz.func95 rfl rfl (by kernel_rfl) ?_;simp(maxDischargeDepth:=12) (maxSteps:=1000000) -implicitDefEqProofs only[Tryz.ntmps95,go_sem,Nat.reduceAdd,Nat.reduceSub,Nat.reduceMul,Nat.reduceLeDiff,Nat.reduceEqDiff,Nat.reduceGT,Nat.reduceBEq,reduceCtorEq,↓reduceIte,Int.reduceToNat,Int.reduceLE,Int.reduceLT,Int.reduceNe,Int.reduceEq]
 refine⟨fun hne e=>hne (by rw[e]),fun he=>?_⟩
 refine aA [] a.length [0,1,5] (fun k=>[(5,dI k)]) (fun _=>S) (fun k=>a.take k=b.take k) mx (by kernel_rfl) ?_ ?_
 ·(refine @ab _ ?_;exact aK)
 ·intro k hk hup
  (refine @ab _ ?_;refine au ?_)
  simp +contextual (disch:=first|omega|assumption) only[ba,ja,wu8,Option.some.injEq,forall_eq,forall_eq',forall_eq_apply_imp_iff,true_and,and_true,forall_const,true_implies,implies_true,not_true_eq_false,not_false_eq_true,false_implies,and_self,Int.toNat_natCast]
  exact⟨fun hlt x hx=>⟨by omega,fun y hy=>⟨fun hxy e=>hxy (bq (e▸hx) hy),fun hxy=>⟨py hup hx hy (by omega),by omega⟩⟩⟩,fun hge=>s7 hup he hge⟩
def dy(p:Pl)(q:Int):Int:=p.free.length+if p.high<q then q-p.high else 0
theorem room(w0:W0)(p:Pl)(q:Int)(S:St)(h0:p.free.length≤1048576)(h1: -1099511627776≤p.high)(h2:p.high≤1099511627776)(h3: -1099511627776≤q)(h4:q≤1099511627776):aa Tryz.prog w0 178 [dP p,dI q] S (fun d S'=>d=dI (dy p q)∧S'=S):=by
 refine aY [] mx Tryz.func178 rfl rfl (by kernel_rfl) ?_;(refine @ab _ ?_;refine ao @Tryz.ntmps178 ?_)
 intro b
 unfold dy
 rw[ba (n:=q-p.high) (by omega) (by omega),ba (by omega) (by omega)]
 constructor
 ·intro h;rw[if_pos (by omega)]
 ·intro h;rw[if_neg (by omega)];omega
theorem VE(w0:W0)(n:Int)(S:St)(h0:0≤n)(h1:n≤1099511627776):aa Tryz.prog w0 96 [.sl 0 true [],dI n] S (fun d S'=>∃l:FN S.acc,d= .acc l.n 0∧S'=⟨S.box,(l.n,.arr 1 [])::S.acc⟩):=by
 refine ia (K':=fun d S'=>(d= .sl 0 true []∧S'=S)∨∃l:FN S.acc,d= .acc l.n 0∧S'=⟨S.box,(l.n,.arr 1 [])::S.acc⟩) ?_ 1 (by omega) ?_
 ·refine nt [] mx Tryz.func96 rfl rfl (by kernel_rfl) ?_;(refine @ab _ ?_;refine ao @Tryz.ntmps96 ?_)
  have e1:IntKind.i64.wrap (0-0)=0:=ba (by omega) (by omega)
  rw[e1,Int.sub_zero,ba (by omega) (by omega)]
  refine⟨fun h=>by omega,fun h h2=>⟨by omega,by omega,by omega,fun l=> .inl ⟨⟨_,_,_,rfl⟩,by simp,fun l'=>⟨⟨l'.n,l'.h.2.2⟩,rfl,rfl⟩⟩⟩⟩
 ·rintro d S' (⟨rfl,rfl⟩|h)
  ·exact .inr ⟨⟨0,rfl⟩,fun l hl=>⟨⟨l,hl⟩,rfl,rfl⟩⟩
  ·exact .inl h
def flat(rows:List (List Int)):List Int:=rows.flatten
theorem v7{rows:List (List Int)}{k:Nat}{a:List Int}(h:rows[k]? =some a):flat (rows.take (k+1))=flat (rows.take k)++a:=by
 unfold flat
 rw[List.take_add_one,h]
 simp
theorem Fl(rows:List (List Int))(k:Nat):(flat (rows.take k)).length≤(flat rows).length:=by
 have:flat rows=flat (rows.take k)++flat (rows.drop k):=by
  unfold flat
  rw[←List.flatten_append,List.take_append_drop]
 rw[this];simp
theorem concat(w0:W0)(rows:List (List Int))(S:St)(h0:rows.length≤1099511627776)(h1:(flat rows).length≤1099511627776):
 aa Tryz.prog w0 48 [.sl 1 false (rows.map dL)] S (fun d S'=>∃l:FN S.acc,d= .acc l.n (flat rows).length∧S'=⟨S.box,(l.n,.arr 1 ((flat rows).map dI))::S.acc⟩):=by
 refine nt [] mx Tryz.func48 rfl rfl (by kernel_rfl) ?_;(refine @ab _ ?_;refine ao @Tryz.ntmps48 ?_)
 refine aA [] rows.length [0,3,9,10,11] (fun k=>[(3,dI (flat (rows.take k)).length),(11,dI k)]) (fun _=>S) (fun k=>True) mx (by kernel_rfl) ?_ ?_
 ·(refine @ab _ ?_;refine au ?_)
  simp[flat]
 ·intro k hk _
  (refine @ab _ ?_;refine au ?_)
  refine⟨fun hlt=>⟨hlt,fun a ha=>?_⟩,fun hge=>?_⟩
  ·have h2:=v7 ha
   have h3:=Fl rows (k+1)
   rw[h2,List.length_append]at h3
   rw[ba (by omega) (by omega)]
   refine⟨fun h=>by omega,fun h=>⟨hlt,?_,ba (by omega) (by omega)⟩⟩
   rw[h2,List.length_append];omega
  ·rw[List.take_of_length_le (by omega)]
   refine bB (VE w0 (flat rows).length S (by omega) (by omega)) ?_
   rintro d S' ⟨l,rfl,rfl⟩
   (refine @ab _ ?_;refine au ?_)
   refine aA [] rows.length [6,25,26,27] (fun k=>[(6,.acc l.n (flat (rows.take k)).length),(27,dI k)]) (fun k=>⟨S.box,(l.n,.arr 1 ((flat (rows.take k)).map dI))::S.acc⟩) (fun k=>True) mx (by kernel_rfl) ?_ ?_
   ·(refine @ab _ ?_;refine au ?_)
    simp[flat,Wk.refl,Sub.refl]
   ·intro k hk _
    (refine @ab _ ?_;refine au ?_)
    refine⟨fun hlt=>⟨hlt,fun a ha=>?_⟩,fun hge=>⟨l,?_⟩⟩
    ·have h2:=v7 ha
     have h3:=Fl rows (k+1)
     rw[h2,List.length_append]at h3
     refine⟨by omega,by unfold maxLen;omega,hlt,⟨?_,ba (by omega) (by omega)⟩,?_⟩
     ·rw[h2,List.length_append];exact .refl _
     ·rw[h2];exact .refl _
    ·rw[List.take_of_length_le (by omega)];exact⟨rfl,rfl⟩
theorem kI(w0:W0)(rows:List (List Int))(S:St)(h0:rows.length≤1099511627776)(h1:(flat rows).length≤1099511627776):
 aa Tryz.prog w0 73 [.sl 1 false (rows.map dL)] S (fun d S'=>d=dL (bz (flat rows))∧S'=S):=by
 refine aY [] mx Tryz.func73 rfl rfl (by kernel_rfl) ?_;simp(maxDischargeDepth:=12) (maxSteps:=1000000) -implicitDefEqProofs only[Tryz.ntmps73,go_sem,Nat.reduceAdd,Nat.reduceSub,Nat.reduceMul,Nat.reduceLeDiff,Nat.reduceEqDiff,Nat.reduceGT,Nat.reduceBEq,reduceCtorEq,↓reduceIte,Int.reduceToNat,Int.reduceLE,Int.reduceLT,Int.reduceNe,Int.reduceEq]
 refine bB (concat w0 rows S h0 h1) ?_
 rintro d S' ⟨l,rfl,rfl⟩
 (refine @ab _ ?_;refine au ?_)
 refine .inl (bB (mN w0 (l:=l.n) (zs:=flat rows) (S:=⟨S.box,(l.n,.arr 1 ((flat rows).map dI))::S.acc⟩) (by simp[lk]) (by omega)) ?_)
 rintro d S' ⟨rfl,rfl⟩
 (refine @ab _ ?_;refine au ?_)
 exact aN _
def nY(l:List Wt):List (List Int):=l.map (·.ai)
def listed(p:Pl):List Int:=bz (flat (p.free::nY p.wait))
theorem KH{l:List Wt}{k:Nat}{a:Wt}(h:l[k]? =some a):nY (l.take (k+1))=nY (l.take k)++[a.ai]:=by
 unfold nY
 rw[List.take_add_one,h]
 simp
theorem Pt(l:List Wt)(k:Nat)(h:k≤l.length):(nY (l.take k)).length=k:=by unfold nY;rw[List.length_map,List.length_take];omega
theorem pR(f:List Int)(l:List Wt):(flat (f::nY l)).length=f.length+nW l:=by
 unfold flat nY nW
 simp[List.length_flatten]
 rfl
theorem xp(w0:W0)(p:Pl)(S:St)(h0:p.wait.length≤1048576)(h1:p.free.length+nW p.wait≤1048576):
 aa Tryz.prog w0 50 [dP p] S (fun d S'=>d=dL (listed p)∧S'=S):=by
 refine aY [] mx Tryz.func50 rfl rfl (by kernel_rfl) ?_;simp(maxDischargeDepth:=12) (maxSteps:=1000000) -implicitDefEqProofs only[Tryz.ntmps50,go_sem,Nat.reduceAdd,Nat.reduceSub,Nat.reduceMul,Nat.reduceLeDiff,Nat.reduceEqDiff,Nat.reduceGT,Nat.reduceBEq,reduceCtorEq,↓reduceIte,Int.reduceToNat,Int.reduceLE,Int.reduceLT,Int.reduceNe,Int.reduceEq]
 intro b
 refine Aa 3 (by omega) rfl fun l hl=>?_
 obtain⟨l,rfl⟩:∃b:FN S.acc,b.n=l:=⟨⟨l,hl⟩,rfl⟩
 clear hl
 (refine @ab _ ?_;refine au ?_)
 refine aA [] p.wait.length [3,10,11,12] (fun k=>[(3,.acc l.n (k+1)),(12,dI k)]) (fun k=>⟨S.box,(l.n,.tl 1 ((p.free::nY (p.wait.take k)).map dL))::S.acc⟩) (fun k=>True) mx (by kernel_rfl) ?_ ?_
 ·(refine @ab _ ?_;refine au ?_)
  exact .bw (.refl _)
 ·intro k hk _
  have hpl:=Pt p.wait k hk
  (refine @ab _ ?_;refine au ?_)
  refine⟨fun hlt=>⟨hlt,fun a ha b'=>?_⟩,fun hge=>?_⟩
  ·have h2:=KH ha
   have e:List.map dL (nY (List.take k p.wait))++[DV.sl 1 false (List.map dI a.ai)]=List.map dL (nY (List.take (k+1) p.wait)):=by rw[h2,List.map_append];rfl
   refine⟨hpl,by omega,by unfold maxLen;omega,hlt,⟨?_,ba (by omega) (by omega)⟩,?_⟩
   ·rw[hpl];exact .refl _
   ·rw[e];exact .bw (.refl _)
  ·rw[List.take_of_length_le (by omega)]
   refine .inr ?_
   refine⟨by unfold nY;rw[List.length_map];omega,?_⟩
   refine aq (kI w0 (p.free::nY p.wait) _ (by unfold nY;simp;omega) (by rw[pR];omega)) ?_
   (refine @ab _ ?_;refine au ?_)
   simp[listed,sC]
theorem bI(l:List Int):(bz l).Perm l:=List.mergeSort_perm l _
theorem oE(l:List Int):(bz l).Pairwise (·≤·):=by
 have:=List.pairwise_mergeSort (le:=fun x y:Int=>decide (x≤y)) (fun a b c h k=>by simp at *;omega) (fun a b=>by simp;omega) l
 exact this.imp fun h=>by simpa using h
theorem mB{a b:List Int}(h1:a.Pairwise (·≤·))(h2:a.Perm b):a=bz b:=
 List.Perm.eq_of_pairwise (le:=(·≤·)) (fun x y _ _ h k=>Int.le_antisymm h k) h1 (oE b) (h2.trans (bI b).symm)
theorem kM{a b:List Int}(h:a.Perm b):bz a=bz b:=mB (oE a) ((bI a).trans h)
theorem Bt{a:List Int}(h:a.Pairwise (·≤·)):bz a=a:=(mB h (.refl a)).symm
theorem uV{p:List Int}{x:Int}{j:Nat}(h1:∀(i:Nat) a,i<j→(bz p)[i]? =some a→a≤x)(h2:∀a,(bz p)[j]? =some a→x<a):(bz p).take j++x::(bz p).drop j=bz (p++[x]):=by
 have hp:=oE p
 refine mB ?_ ?_
 ·rw[List.pairwise_append]
  have hs:(bz p).take j++(bz p).drop j=bz p:=List.take_append_drop _ _
  rw[←hs,List.pairwise_append]at hp
  have hd:∀y∈(bz p).drop j,x≤y:=by
   intro y hy
   cases he:(bz p).drop j with
   |nil=>rw[he]at hy;cases hy
   |cons z t=>
    have hz:(bz p)[j]? =some z:=by
     have:=congrArg (fun l=>l[0]?) he
     simpa using this
    have hxz:=h2 z hz
    have hpd:=hp.2.1
    rw[he]at hpd hy
    rcases List.mem_cons.1 hy with rfl|hy
    ·omega
    ·have:=(List.pairwise_cons.1 hpd).1 y hy;omega
  refine⟨hp.1,List.pairwise_cons.2 ⟨fun y hy=>hd y hy,hp.2.1⟩,fun y hy z hz=>?_⟩
  have hyx:y≤x:=by
   obtain⟨i,hi⟩:=List.getElem?_of_mem hy
   rw[List.getElem?_take]at hi
   split at hi
   ·rename_i hlt;exact h1 i y hlt hi
   ·cases hi
  rcases List.mem_cons.1 hz with rfl|hz
  ·exact hyx
  ·have:=hd z hz;omega
 ·have hs:(bz p).take j++(bz p).drop j=bz p:=List.take_append_drop _ _
  have:((bz p).take j++x::(bz p).drop j).Perm (x::bz p):=by
   have:=List.perm_middle (a:=x) (l₁:=(bz p).take j) (l₂:=(bz p).drop j)
   rw[hs]at this;exact this
  exact this.trans (((bI p).cons x).trans (List.perm_append_singleton x p).symm)
theorem ig{α:Type}{l:List α}{k:Nat}{a:α}(h:l[k]? =some a):l.take (k+1)=l.take k++[a]:=by rw[List.take_add_one,h];rfl
theorem O3(w0:W0)(l:List Int)(S:St)(h0:l.length≤1048576):
 aa Tryz.prog w0 53 [dL l] S (fun d S'=>d=dL (bz l)∧S'=S):=by
 refine aY [] mx Tryz.func53 rfl rfl (by kernel_rfl) ?_;(refine @ab _ ?_;refine ao @Tryz.ntmps53 ?_)
 refine SL [] [3] l.length [0,3,4] (fun k=>[(3,dL (bz (l.take k))),(4,dI k)]) (fun _=>S) (fun k=>True) mx (by kernel_rfl) ?_ ?_
 ·(refine @ab _ ?_;refine au ?_)
  rw[show bz []=[]by simp[bz]]
  (refine @ab _ ?_;exact aK)
 ·intro k hk _
  (refine @ab _ ?_;refine au ?_)
  refine⟨fun hlt=>?_,fun hge=>?_⟩
  ·obtain⟨x,hx⟩:∃x,l[k]? =some x:=⟨_,List.getElem?_eq_getElem hlt⟩
   have hsl:(bz (l.take k)).length=k:=by rw[aN,List.length_take];omega
   refine iH [] [0,3,4,5] (fun j:Nat=>[(5,dI j)]) (fun _=>S) (fun j=>j≤k∧∀(i:Nat) a,i<j→(bz (l.take k))[i]? =some a→a≤x) (fun j=>k-j) 0 mx (by kernel_rfl) ?_ ?_
   ·(refine @ab _ ?_;refine au ?_)
    exact⟨by omega,fun i a hi=>by omega⟩
   ·intro j hjj
    have hj:=hjj.1
    have hup:=hjj.2
    clear hjj
    (refine @ab _ ?_;refine au ?_)
    have fin:(∀a,(bz (l.take k))[j]? =some a→x<a)→List.map dI ((bz (l.take k)).take j)++[DV.v (.int .i64 x)]++List.map dI ((bz (l.take k)).drop j)=List.map dI (bz (l.take (k+1))):=by
     intro h
     rw[ig hx,←uV (x:=x) (j:=j) hup h]
     simp[dI]
    rw[hsl]
    refine⟨fun h1=>⟨h1,fun a ha=>⟨hlt,fun y hy=>?_⟩⟩,fun h1=>?_⟩
    ·cases bq hx hy
     refine⟨fun h2=>⟨j+1,⟨by omega,fun i b hi hb=>?_⟩,by omega,ba (by omega) (by omega)⟩,fun h2=>?_⟩
     ·by_cases e:i=j
      ·subst e;cases bq ha hb;exact h2
      ·exact hup i b (by omega) hb
     ·refine⟨by omega,by omega,by unfold maxLen;omega,fun b=>⟨hlt,fun y hy=>?_⟩⟩
      cases bq hx hy
      have f2:=fin (fun b hb=>by cases bq ha hb;omega)
      simp only[List.append_assoc]at f2 ⊢
      rw[f2]
      exact⟨by omega,by unfold maxLen;omega,by omega,by omega,by unfold maxLen;omega,hlt,.refl _,ba (by omega) (by omega)⟩
    ·refine⟨by omega,by omega,by unfold maxLen;omega,fun b=>⟨hlt,fun y hy=>?_⟩⟩
     cases bq hx hy
     have f2:=fin (fun b hb=>by have:=(List.getElem?_eq_some_iff.1 hb).1;omega)
     simp only[List.append_assoc]at f2 ⊢
     rw[f2]
     exact⟨by omega,by unfold maxLen;omega,by omega,by omega,by unfold maxLen;omega,hlt,.refl _,ba (by omega) (by omega)⟩
  ·rw[List.take_of_length_le (by omega)];exact .refl _
theorem KV{α:Type}(f:α→Nat)(g:N→List α)(l:List N):((l.reverse.flatMap g).map f).sum=(l.map fun n=>((g n).map f).sum).sum:=by
 induction l with
 |nil=>rfl
 |cons a l ih=>rw[List.reverse_cons,List.flatMap_append,List.map_append,List.sum_append,ih,List.map_cons,List.sum_cons];simp;omega
def wT(ends:N→Bool)(f:N→Nat)(n:N):Nat:=((dh ends n).map f).sum
theorem I3(ends:N→Bool)(f:N→Nat)(n:N):wT ends f n=f n+if ends n then 0 else((aI n).map (wT ends f)).sum:=by
 unfold wT
 rw[lH,List.map_cons,List.sum_cons]
 split
 ·rfl
 ·rw[KV]
theorem Fu(ends:N→Bool)(f:N→Nat)(hf:∀d x,Nd d x→f x≤1+if x.leaf then 4*x.l.length else 0):∀(d:Nat) (n:N),Nd d n→wT ends f n≤1+5*bd n
 |0,n,h=>by
  have h1:=hf 0 n h
  have h2:=bj n
  rw[I3,gi h.1]
  rw[h.1,if_pos rfl]at h1
  split <;>simp <;>omega
 |d+1,n,h=>by
  have h1:=hf _ n h
  rw[h.1,if_neg (by simp)]at h1
  rw[I3,nH h,aH]
  have:∀l:List C,(∀c,c∈l→c∈n.l)→((l.map ay).map (wT ends f)).sum≤5*kC l:=by
   intro l
   induction l with
   |nil=>intro _;exact Nat.zero_le _
   |cons c l ih=>
    intro hl
    obtain⟨_,k,hk,hnd⟩:=h.2.2 c (hl c List.mem_cons_self)
    have h1:=ih fun c hc=>hl c (List.mem_cons_of_mem _ hc)
    have h2:=Fu ends f hf d k hnd
    rw[List.map_cons,List.map_cons,List.sum_cons,bl hk,bh,cA hk]
    omega
  have:=this n.l fun _ h=>h
  split <;>omega
theorem E1(ends:N→Bool){d:Nat}{n:N}(h:Nd d n):(dh ends n).length≤1+5*bd n:=by
 have:=Fu ends (fun _=>1) (fun _ _ _=>by omega) d n h
 unfold wT at this
 have e:∀l:List N,(l.map fun _=>1).sum=l.length:=fun l=>by
  induction l with
  |nil=>rfl
  |cons a l ih=>rw[List.map_cons,List.sum_cons,ih,List.length_cons];omega
 rwa [e]at this
theorem FD(ends:N→Bool):∀(d:Nat) (n:N),Nd d n→∀x,x∈dh ends n→∃d',Nd d' x∧bd x≤bd n
 |0,n,h,x,hx=>by
  rw[lH,gi h.1]at hx
  have:x=n:=by
   rcases List.mem_cons.1 hx with e|hx
   ·exact e
   ·split at hx <;>cases hx
  subst this
  exact⟨0,h,Nat.le_refl _⟩
 |d+1,n,h,x,hx=>by
  rw[lH,nH h]at hx
  rcases List.mem_cons.1 hx with rfl|hx
  ·exact⟨_,h,Nat.le_refl _⟩
  ·split at hx
   ·cases hx
   ·obtain⟨k,hk,hx⟩:=List.mem_flatMap.1 hx
    obtain⟨c,hc,rfl⟩:=List.mem_map.1 (List.mem_reverse.1 hk)
    obtain⟨_,k,hkid,hnd⟩:=h.2.2 c hc
    rw[bl hkid]at hx
    obtain⟨d',h1,h2⟩:=FD ends d k hnd x hx
    have:=dH hc hkid
    exact⟨d',h1,by omega⟩
theorem RS(ends:N→Bool){d:Nat}{n:N}(h:Nd d n)(x:N)(hx:x∈dh ends n):x.l.length≤bd n:=by
 obtain⟨d',h1,h2⟩:=FD ends d n h x hx
 have:=bj x
 omega
theorem UY(l:List C):vX l≤4*l.length:=by
 unfold vX
 induction l with
 |nil=>exact Nat.le_refl _
 |cons c l ih=>
  have:QK c≤4:=by unfold QK;split;exact sE _;omega
  rw[List.map_cons,List.sum_cons,List.length_cons];omega
theorem S5(x:N):Ca x≤1+if x.leaf then 4*x.l.length else 0:=by
 unfold Ca
 split
 ·omega
 ·split
  ·omega
  ·split
   ·have:=UY x.l;omega
   ·simp[vX]
theorem L3{l:List C}(h:∀c,c∈l→Sh c):(l.flatMap C.ai).length≤4*l.length:=by
 induction l with
 |nil=>exact Nat.le_refl _
 |cons c l ih=>
  have h1:=ih fun c hc=>h c (List.mem_cons_of_mem _ hc)
  have h2:=(h c List.mem_cons_self).2.2
  rw[List.flatMap_cons,List.length_append,List.length_cons];omega
theorem TI{d:Nat}{x:N}(h:Nd d x):(Nq x).length≤1+if x.leaf then 4*x.l.length else 0:=by
 unfold Nq
 rw[List.length_append]
 have h1:(if x.ak≠0 then [x.ak]else []).length≤1:=by split <;>simp
 have h2:((if x.leaf then x.l else []).flatMap C.ai).length≤if x.leaf then 4*x.l.length else 0:=by
  split
  ·exact L3 (Rp h)
  ·simp
 omega
theorem Ee(ends:N→Bool){d:Nat}{n:N}(h:Nd d n):(mo (dh ends n)).length≤1+5*bd n:=by
 have:=Fu ends (fun x=>(Nq x).length) (fun d x hx=>TI hx) d n h
 unfold wT at this
 unfold mo
 rw[List.length_flatMap]
 exact this
def dg(n:N):Nat:=yw (dh laidB n)
theorem tF{d:Nat}{n:N}(h:Nd d n):dg n≤1+5*bd n:=Fu laidB Ca (fun _ x _=>S5 x) d n h
def jP(b:Bool)(c:C):Nat:=if b then QK c else dg (ay c)
def gQ(b:Bool)(l:List C):Nat:=(l.map (jP b)).sum
theorem ni{b:Bool}{l:List C}{k:Nat}{c:C}(h:l[k]? =some c):gQ b (l.take (k+1))=gQ b (l.take k)+jP b c:=by
 unfold gQ
 rw[List.take_add_one,h];simp
theorem iA(b:Bool)(l:List C)(k:Nat):gQ b (l.take k)≤gQ b l:=by
 have:=congrArg (gQ b) (List.take_append_drop k l)
 simp only[gQ,List.map_append,List.sum_append]at this ⊢
 omega
theorem eQ{d:Nat}{n:N}(h:Nd d n):dg n=if n.ak≠0 then 0 else if n.leaf=true∧n.l=[]then 0 else 1+gQ n.leaf n.l:=by
 have h1:dg n=wT laidB Ca n:=rfl
 have e:Ca n=if n.ak≠0 then 0 else if n.leaf=true∧n.l=[]then 0 else 1+vX (if n.leaf then n.l else []):=rfl
 rw[h1,I3,e]
 by_cases hp:n.ak≠0
 ·have hb:laidB n=true:=decide_eq_true hp
  rw[if_pos hp,if_pos hp,hb];rfl
 ·have hb:laidB n=false:=decide_eq_false hp
  rw[if_neg hp,if_neg hp,hb]
  have e2:∀x:Nat,(if false=true then 0 else x)=x:=fun x=>if_neg (by simp)
  rw[e2]
  by_cases hz:n.leaf=true∧n.l=[]
  ·rw[if_pos hz,if_pos hz,gi hz.1];rfl
  ·rw[if_neg hz,if_neg hz]
   cases d with
   |zero=>rw[gi h.1,h.1];rfl
   |succ d=>
    rw[nH h,h.1,List.map_map,show(if false=true then n.l else [])=[]from rfl,show vX []=0 from rfl]
    rfl
theorem TU(w0:W0):∀(d:Nat) (n:N) (S:St),Nd d n→bd n≤131072→aa Tryz.prog w0 56 [eN n] S (fun e S'=>e=dI (dg n)∧S'=S):=by
 intro d
 induction d with
 |zero=>
  intro n S hn ht
  have hlf:=hn.1
  have hl:=bj n
  have hq:=eQ hn
  have hle:=tF hn
  rw[hlf]at hq
  refine aY [] mx Tryz.func56 rfl rfl (by kernel_rfl) ?_;(refine @ab _ ?_;refine aO @Tryz.ntmps56 @hlf ?_)
  intro b
  refine⟨fun hp=>by rw[hq,if_pos hp];rfl,fun hp=>⟨fun hl0=>by rw[hq,if_neg hp,if_pos ⟨rfl,List.eq_nil_of_length_eq_zero (by omega)⟩];rfl,fun hl0=>?_⟩⟩
  rw[if_neg hp,if_neg (fun e=>by rw[e.2]at hl0;exact hl0 rfl)]at hq
  refine aA [] n.l.length [1,3,4] (fun k=>[(3,dI ((1+gQ true (n.l.take k):Nat):Int)),(4,dI k)]) (fun k=>⟨(b.n,[dI n.ak,dB true,.sl 4 false (n.l.map dC)])::S.box,S.acc⟩) (fun _=>True) mx (by kernel_rfl) ?_ ?_
  ·(refine @ab _ ?_;refine au ?_)
   rfl
  ·intro k hk _
   have hrt:=iA true n.l k
   have hrt1:=iA true n.l (k+1)
   (refine @ab _ ?_;refine au ?_)
   refine⟨fun hlt=>⟨hlt,fun c hc b2=>⟨fun hp0=>aq (Xo w0 _ _) ?_,fun hp0=>⟨hlt,?_,by rw[ba (by omega) (by omega)];omega⟩⟩⟩,fun hge=>by rw[List.take_of_length_le (by omega),hq]⟩
   ·have h1:=ni (b:=true) hc
    have h2:jP true c=need (c.data.size:Int):=by
     show QK c=_
     exact if_pos (List.eq_nil_of_length_eq_zero (by omega))
    (refine @ab _ ?_;refine au ?_)
    refine⟨hlt,by rw[ba (by omega) (by omega)];omega,by rw[ba (by omega) (by omega)];omega⟩
   ·have h1:=ni (b:=true) hc
    have h2:jP true c=0:=by
     show QK c=0
     exact if_neg (fun e=>by rw[e]at hp0;exact hp0 rfl)
    omega
 |succ d ih=>
  intro n S hn ht
  have hlf:=hn.1
  have hl:=bj n
  have hq:=eQ hn
  have hle:=tF hn
  rw[hlf]at hq
  refine aY [] mx Tryz.func56 rfl rfl (by kernel_rfl) ?_;(refine @ab _ ?_;refine aO @Tryz.ntmps56 @hlf ?_)
  intro b
  refine⟨fun hp=>by rw[hq,if_pos hp];rfl,fun hp=>?_⟩
  rw[if_neg hp,if_neg (by simp)]at hq
  refine aA [] n.l.length [1,3,4] (fun k=>[(3,dI ((1+gQ false (n.l.take k):Nat):Int)),(4,dI k)]) (fun k=>⟨(b.n,[dI n.ak,dB false,.sl 4 false (n.l.map dC)])::S.box,S.acc⟩) (fun _=>True) mx (by kernel_rfl) ?_ ?_
  ·(refine @ab _ ?_;refine au ?_)
   rfl
  ·intro k hk _
   have hrt:=iA false n.l k
   have hrt1:=iA false n.l (k+1)
   (refine @ab _ ?_;refine au ?_)
   refine⟨fun hlt=>⟨hlt,fun c hc b2=>?_⟩,fun hge=>by rw[List.take_of_length_le (by omega),hq]⟩
   obtain⟨_,kid,hkid,hnd⟩:=hn.2.2 c (List.mem_of_getElem? hc)
   have h1:=ni (b:=false) hc
   have h2:jP false c=dg kid:=by rw[←bl hkid];rfl
   have h3:=dH (List.mem_of_getElem? hc) hkid
   rw[hkid]
   refine⟨by simp,fun kid' hk'=>?_⟩
   cases hk'
   refine aq (ih kid _ hnd (by omega)) ?_
   (refine @ab _ ?_;refine au ?_)
   refine⟨hlt,by rw[ba (by omega) (by omega)];omega,by rw[ba (by omega) (by omega)];omega⟩
mutual
def bX:N→List Int
 | .mk p b l=>(if p≠0 then [p]else [])++Qw b l
def lR(b:Bool):C→List Int
 | .mk _ _ ps kid=>ps++if b then []else Xl kid
def Qw(b:Bool):List C→List Int
 |[]=>[]
 |c::l=>lR b c++Qw b l
def Xl:List N→List Int
 |[]=>[]
 |n::_=>bX n
end
theorem HE(b:Bool)(l:List C):Qw b l=l.flatMap (lR b):=by
 induction l with
 |nil=>rfl
 |cons c l ih=>rw[Qw,ih,List.flatMap_cons]
theorem fg(n:N):bX n=(if n.ak≠0 then [n.ak]else [])++n.l.flatMap (lR n.leaf):=by
 cases n;rw[bX,HE];rfl
theorem iC(c:C):lR true c=c.ai:=by cases c;simp[lR,C.ai]
theorem fy{c:C}{k:N}(h:c.kid=[k]):lR false c=c.ai++bX k:=by
 cases c with|mk a b d e=>
 simp only[C.uw]at h
 subst h
 simp[lR,Xl,C.ai]
theorem GP{α β:Type}{f g:α→List β}{l:List α}(h:∀a,a∈l→(f a).Perm (g a)):(l.flatMap f).Perm (l.flatMap g):=by
 induction l with
 |nil=>exact .refl _
 |cons a l ih=>
  rw[List.flatMap_cons,List.flatMap_cons]
  exact(h a List.mem_cons_self).append (ih fun x hx=>h x (List.mem_cons_of_mem _ hx))
theorem nz:∀(d:Nat) (n:N),Nd d n→(bX n).Perm (mo (dh qN n))
 |0,n,h=>by
  rw[fg,lH,gi h.1]
  have:mo (n::if qN n=true then []else List.flatMap (dh qN) [].reverse)=Nq n:=by simp[mo,qN]
  rw[this]
  unfold Nq
  rw[h.1,if_pos rfl]
  rw[show lR true=C.ai from funext iC]
 |d+1,n,h=>by
  rw[fg,lH,nH h,h.1]
  have e1:mo (n::if qN n=true then []else(n.l.map ay).reverse.flatMap (dh qN))=Nq n++mo ((n.l.map ay).reverse.flatMap (dh qN)):=by simp[mo,qN]
  have e2:Nq n=if n.ak≠0 then [n.ak]else []:=by unfold Nq;rw[h.1];simp
  rw[e1,e2]
  refine .append_left _ ?_
  have e3:∀l:List N,mo (l.flatMap (dh qN))=l.flatMap fun k=>mo (dh qN k):=fun l=>by unfold mo;rw[List.flatMap_assoc]
  rw[e3]
  refine .trans ?_ (.symm ((List.reverse_perm _).flatMap_right _))
  rw[List.flatMap_map]
  refine GP fun c hc=>?_
  obtain⟨hs,k,hk,hnd⟩:=h.2.2 c hc
  rw[fy hk,bl hk,List.eq_nil_of_length_eq_zero (Nat.le_zero.1 hs.2.2),List.nil_append]
  exact nz d k hnd
end Go.Proofs.YtpjenciplibdnaaGreatDoor
namespace Go.Proofs.YtpjenciplibdnaaGreatDoor
open Aml Go
structure mb(Q:N→Prop)(q:Bool→C→Prop):Prop where
 of:∀b l,(∀c,c∈l→q b c)→Q (.mk 0 b l)
 to:∀n,Q n→∀c,c∈n.l→q n.leaf c
 kid:∀c k,c.kid=[k]→q false c→Q k
 cell:∀c k,c.kid=[k]→c.ai=[]→Q k→q false c
section
variable {Q:N→Prop} {q:Bool→C→Prop}
theorem qe(H:mb Q q){d:Nat}{n:N}(hn:Nd d n)(hlf:n.leaf=false)(key:ByteArray){l:List C}(hl:∀c,c∈l→c∈n.l)(h:∀c,c∈l→q false c):∀c,c∈bG key l→q false c:=by
 cases l with
 |nil=>exact h
 |cons a l=>
  intro c hc
  rcases List.mem_cons.1 hc with rfl|hc
  ·cases d with
   |zero=>have:=hn.1;rw[hlf]at this;cases this
   |succ d=>
    obtain⟨hs,k,hk,_⟩:=hn.2.2 a (hl a List.mem_cons_self)
    exact H.cell _ k hk (List.eq_nil_of_length_eq_zero (Nat.le_zero.1 hs.2.2)) (H.kid a k hk (h a List.mem_cons_self))
  ·exact h c (List.mem_cons_of_mem _ hc)
theorem pV(H:mb Q q){d:Nat}{n kid:N}{k:Nat}{key:ByteArray}(hk:Nd d kid)(hQ:Q kid)(h:∀c,c∈n.l→q false c)(hp:n.ak=0)(hl:n.leaf=false):
 (aV n kid k key).1.ak=0∧(aV n kid k key).1.leaf=false∧∀x,x∈(aV n kid k key).1.l→q false x:=by
 unfold aV
 simp only
 split
 ·exact⟨hp,hl,h⟩
 ·refine⟨rfl,rfl,fun x hx=>?_⟩
  rcases fY hx with hx|hx
  ·exact h x hx
  ·rcases List.mem_cons.1 hx with rfl|hx
   ·exact H.cell _ _ rfl rfl (H.of _ _ fun c hc=>H.to kid hQ c (List.mem_of_mem_take hc))
   ·rw[List.mem_singleton]at hx;subst hx
    refine H.cell _ _ rfl rfl (H.of _ _ fun c hc=>?_)
    cases hb:kid.leaf with
    |true=>
     rw[hb,if_pos rfl]at hc
     have:=H.to kid hQ c (List.mem_of_mem_drop hc)
     rwa [hb]at this
    |false=>
     rw[hb,if_neg (by simp)]at hc
     exact qe H hk hb aZ (fun c hc=>List.mem_of_mem_drop hc) (fun c hc=>by
      have:=H.to kid hQ c (List.mem_of_mem_drop hc)
      rwa [hb]at this) c hc
theorem CN(H:mb Q q){d:Nat}{a b:N}{key:ByteArray}(ha:Nd d a)(hb:Nd d b)(qa:Q a)(qb:Q b):Q (bM a b key):=by
 unfold bM
 refine H.of _ _ fun c hc=>?_
 rcases List.mem_append.1 hc with hc|hc
 ·exact H.to a qa c hc
 ·have e:=lM ha hb
  cases hl:b.leaf with
  |true=>
   rw[hl,if_pos rfl]at hc
   have:=H.to b qb c hc
   rwa [←e]at this
  |false=>
   rw[hl,if_neg (by simp)]at hc
   rw[e,hl]
   exact qe H hb hl key (fun c hc=>hc) (fun c hc=>by
    have:=H.to b qb c hc
    rwa [hl]at this) c hc
theorem jJ(H:mb Q q){d:Nat}{n:N}{k:Nat}(hn:Nd (d+1) n)(hlt:k<n.l.length)(h:∀c,c∈n.l→q false c)(hp:n.ak=0):(cC n k).ak=0∧(cC n k).leaf=false∧∀x,x∈(cC n k).l→q false x:=by
 obtain⟨c,kid,hc,e1,e2,hkid,hkey,hnd⟩:=cb hn hlt
 have hQ:=H.kid c kid hkid (h c (List.mem_of_getElem? hc))
 unfold cC
 simp only[e1,e2]
 split
 ·exact pV H hnd hQ h hp hn.1
 ·split
  ·exact⟨hp,hn.1,h⟩
  ·rename_i h1 h2
   simp only[Bool.or_eq_true,decide_eq_true_eq,not_or]at h2
   have hj:(if k+1<n.l.length then k else k-1)+1<n.l.length:=by split <;>omega
   generalize (if k+1<n.l.length then k else k-1)=j at*
   obtain⟨c0,k0,hc0,f1,f2,hk0,hkey0,hnd0⟩:=cb hn (k:=j) (by omega)
   obtain⟨c1,k1,hc1,g1,g2,hk1,hkey1,hnd1⟩:=cb hn hj
   rw[f1,f2,g1,g2]
   have hQb:Q (bM k0 k1 c1.key):=CN H hnd0 hnd1 (H.kid c0 k0 hk0 (h c0 (List.mem_of_getElem? hc0))) (H.kid c1 k1 hk1 (h c1 (List.mem_of_getElem? hc1)))
   refine pV H (xj hnd0 hnd1 hkey1) hQb (fun x hx=>?_) rfl rfl
   rcases fY hx with hx|hx
   ·rcases fY hx with hx|hx
    ·exact h x hx
    ·cases hx
   ·rw[List.mem_singleton]at hx;subst hx
    exact H.cell _ _ rfl rfl hQb
theorem mW(H:mb Q q){n:N}(h:n.ak=0∧n.leaf=false∧∀x,x∈n.l→q false x):Q n:=by
 obtain⟨h1,h2,h3⟩:=h
 rw[N.eta n,h1,h2]
 exact H.of _ _ h3
theorem w7(H:mb Q q){key val:ByteArray}(hk:key.size≤16)(hv:val.size≤400)(hq:q true (.mk key val [] [])):∀{d:Nat} {n:N},Nd d n→Q n→Q (ct key val n)
 |0,n,h,hQ=>by
  rw[fV _ _ _ h.1]
  refine H.of _ _ fun c hc=>?_
  rcases j5 hc with hc|rfl
  ·have:=H.to n hQ c hc
   rwa [h.1]at this
  ·exact hq
 |d+1,n,h,hQ=>by
  have hw:=gN h.2.1 key
  obtain⟨c,kid,hc,_,_,hkid,hkey,hnd⟩:=cb h hw
  rw[jZ _ _ _ h.1 hc hkid]
  have hcs:∀x,x∈n.l→q false x:=fun x hx=>by have:=H.to n hQ x hx;rwa [h.1]at this
  have i1:=w7 H hk hv hq hnd (H.kid c kid hkid (hcs c (List.mem_of_getElem? hc)))
  have h1:=il h hw 0 (m:=[af c.key (ct key val kid)]) (.inr (by simp)) fun c' hc'=>by
   rw[List.mem_singleton]at hc';subst hc';exact dG hkey (gJ hk hv hnd)
  have h2:=cG (m:=[af c.key (ct key val kid)]) hw
  refine mW H (jJ H h1 (by simp only[N.eB,List.length_cons,List.length_nil]at *;omega) (fun x hx=>?_) rfl)
  rcases fY hx with hx|hx
  ·exact hcs x hx
  ·rw[List.mem_singleton]at hx;subst hx
   exact H.cell _ _ rfl rfl i1
theorem oa(H:mb Q q){key:ByteArray}:∀{d:Nat} {n:N},Nd d n→Q n→Q (aD key n)
 |0,n,h,hQ=>by
  rw[cn _ _ h.1]
  refine H.of _ _ fun c hc=>?_
  have:=H.to n hQ c (List.mem_filter.1 hc).1
  rwa [h.1]at this
 |d+1,n,h,hQ=>by
  have hw:=gN h.2.1 key
  obtain⟨c,kid,hc,_,_,hkid,hkey,hnd⟩:=cb h hw
  obtain⟨hs,_⟩:=h.2.2 c (List.mem_of_getElem? hc)
  rw[fk _ _ h.1 hc hkid]
  have hcs:∀x,x∈n.l→q false x:=fun x hx=>by have:=H.to n hQ x hx;rwa [h.1]at this
  have i1:=oa H (key:=key) hnd (H.kid c kid hkid (hcs c (List.mem_of_getElem? hc)))
  have h1:=qH h hw (c':= .mk c.key c.data c.ai [aD key kid]) ⟨⟨hs.1,hs.2.1,hs.2.2⟩,_,rfl,cL hnd⟩
  refine mW H (jJ H h1 (by simp only[N.eB,List.length_set];exact hw) (fun x hx=>?_) rfl)
  rcases mem_set hx with hx|rfl
  ·exact hcs x hx
  ·exact H.cell _ _ rfl (List.eq_nil_of_length_eq_zero (Nat.le_zero.1 hs.2.2)) i1
theorem nA(H:mb Q q):∀{d:Nat} {n:N},Nd d n→Q n→Q (jT n):=by
 have one:∀{d:Nat} {n:N},Nd d n→Q n→Q (if atR (ae n)=0 then n else cC (.mk 0 false [af aZ n]) 0):=fun{d n} h hQ=>by
  split
  ·exact hQ
  ·refine mW H (jJ H (d:=d) (n:= .mk 0 false [af aZ n]) (k:=0) ⟨rfl,by simp[N.l],fun c hc=>by
    simp only[N.eB,List.mem_singleton]at hc
    subst hc
    exact dG (by rw[bC];omega) h⟩ (by simp[N.l]) (fun x hx=>?_) rfl)
   simp only[N.eB,List.mem_singleton]at hx
   subst hx
   exact H.cell _ _ rfl rfl hQ
 intro d
 induction d with
 |zero=>intro n h hQ;rw[cW _ (.inl h.1)];exact one h hQ
 |succ d ih=>
  intro n h hQ
  by_cases h1:n.l.length=1
  ·obtain⟨c,hc⟩:=List.length_eq_one_iff.1 h1
   have hcm:c∈n.l:=by rw[hc];exact List.mem_singleton_self c
   obtain⟨_,k,hk,hn⟩:=h.2.2 c hcm
   rw[kZ n h.1 hc hk]
   have:=H.to n hQ c hcm
   rw[h.1]at this
   exact ih hn (H.kid c k hk this)
  ·rw[cW _ (.inr h1)];exact one h hQ
theorem Hl(H:mb Q q){key val:ByteArray}(hk:key.size≤16)(hv:val.size≤400)(hq:q true (.mk key val [] [])){d:Nat}{n:N}(h:Nd d n)(hQ:Q n):Q (ld key val n):=
 nA H (gJ hk hv h) (w7 H hk hv hq h hQ)
theorem Ig(H:mb Q q){key:ByteArray}{d:Nat}{n:N}(h:Nd d n)(hQ:Q n):Q (mg key n):=by
 unfold mg
 split
 ·exact nA H (cL h) (oa H h hQ)
 ·exact hQ
end
def rC(p:Int)(b:Bool)(l:List C):Nat:=(l.flatMap (lR b)).count p
theorem nK(p:Int)(b:Bool)(l m:List C):rC p b (l++m)=rC p b l+rC p b m:=by unfold rC;rw[List.flatMap_append,List.count_append]
theorem dA(p:Int)(b:Bool)(c:C)(l:List C):rC p b (c::l)=(lR b c).count p+rC p b l:=by unfold rC;rw[List.flatMap_cons,List.count_append]
theorem iZ(p:Int)(b:Bool):rC p b []=0:=rfl
theorem ql(p:Int)(b:Bool)(l:List C)(i:Nat):rC p b (l.take i)+rC p b (l.drop i)=rC p b l:=by rw[←nK,List.take_append_drop]
theorem jm{p:Int}{b:Bool}{l m:List C}{i:Nat}{c:C}(h:l[i]? =some c):rC p b (aE l i m)+(lR b c).count p=rC p b l+rC p b m:=by
 have h1:=ql p b l i
 have h2:l.drop i=c::l.drop (i+1):=by
  obtain⟨hlt,rfl⟩:=List.getElem?_eq_some_iff.1 h
  exact List.drop_eq_getElem_cons hlt
 rw[h2,dA]at h1
 unfold aE
 rw[nK,nK]
 omega
theorem NT(key:ByteArray)(c:C):lR false (.mk key c.data c.ai c.kid)=lR false c:=by cases c;simp[lR,C.ai,C.kid]
theorem tI(p:Int)(key:ByteArray)(l:List C):rC p false (bG key l)=rC p false l:=by
 cases l with
 |nil=>rfl
 |cons a l=>rw[jE,dA,dA,NT]
theorem iv(p:Int)(b:Bool)(l:List C):(bX (.mk 0 b l)).count p=rC p b l:=by rw[fg];rfl
theorem n0(p:Int)(n:N):rC p n.leaf n.l≤(bX n).count p:=by rw[fg,List.count_append];exact Nat.le_add_left _ _
theorem lA(key:ByteArray)(k:N):lR false (af key k)=bX k:=by rw[fy rfl];rfl
theorem wM{n kid:N}{k:Nat}{c:C}{key:ByteArray}(p:Int)(hc:n.l[k]? =some c)(hk:c.kid=[kid])(hlf:n.leaf=false):(bX (aV n kid k key).1).count p≤(bX n).count p:=by
 unfold aV
 simp only
 split
 ·exact Nat.le_refl _
 ·have h1:=ql p kid.leaf kid.l (atR (ae kid))
  have h2:=jm (p:=p) (b:=false) (m:=[af key (.mk 0 kid.leaf (kid.l.take (atR (ae kid)))),af (keyOf (kid.l.drop (atR (ae kid)))) (.mk 0 kid.leaf (if kid.leaf then(kid.l.drop (atR (ae kid)))else bG aZ (kid.l.drop (atR (ae kid)))))]) hc
  have h3:rC p kid.leaf (if kid.leaf then(kid.l.drop (atR (ae kid)))else bG aZ (kid.l.drop (atR (ae kid))))=rC p kid.leaf (kid.l.drop (atR (ae kid))):=by
   cases hb:kid.leaf with
   |true=>rw[if_pos rfl]
   |false=>rw[if_neg (by simp),tI]
  rw[dA,dA,iZ,lA,lA,iv,iv,h3,fy hk,List.count_append]at h2
  have h4:=n0 p n
  have h5:=n0 p kid
  rw[hlf]at h4
  rw[iv]
  omega
theorem OG(p:Int){a b:N}{key:ByteArray}(h:a.leaf=b.leaf):(bX (bM a b key)).count p≤(bX a).count p+(bX b).count p:=by
 have h1:=n0 p a
 have h2:=n0 p b
 unfold bM
 rw[iv,nK]
 rw[←h]at h2 ⊢
 cases hb:a.leaf with
 |true=>rw[hb]at h1 h2;rw[if_pos rfl];omega
 |false=>rw[hb]at h1 h2;rw[if_neg (by simp),tI];omega
theorem yf{d:Nat}{n:N}{k:Nat}(p:Int)(hn:Nd (d+1) n)(hlt:k<n.l.length):(bX (cC n k)).count p≤(bX n).count p:=by
 obtain⟨c,kid,hc,e1,e2,hkid,hkey,hnd⟩:=cb hn hlt
 unfold cC
 simp only[e1,e2]
 split
 ·exact wM p hc hkid hn.1
 ·split
  ·exact Nat.le_refl _
  ·rename_i h1 h2
   simp only[Bool.or_eq_true,decide_eq_true_eq,not_or]at h2
   have hj:(if k+1<n.l.length then k else k-1)+1<n.l.length:=by split <;>omega
   generalize (if k+1<n.l.length then k else k-1)=j at*
   obtain⟨c0,k0,hc0,f1,f2,hk0,hkey0,hnd0⟩:=cb hn (k:=j) (by omega)
   obtain⟨c1,k1,hc1,g1,g2,hk1,hkey1,hnd1⟩:=cb hn hj
   rw[f1,f2,g1,g2]
   have hwl:=cG (m:=[]) hj
   simp only[List.length_nil]at hwl
   have hj2:j<(aE n.l (j+1) []).length:=by omega
   refine Nat.le_trans (wM p (c:=af c0.key (bM k0 k1 c1.key)) (vg hj2) rfl rfl) ?_
   have t1:=jm (p:=p) (b:=false) (m:=[]) hc1
   have hat:(aE n.l (j+1) [])[j]? =some c0:=by
    unfold aE
    rw[List.append_assoc,List.getElem?_append_left (by rw[List.length_take];omega),List.getElem?_take,if_pos (by omega)]
    exact hc0
   have t2:=jm (p:=p) (b:=false) (m:=[af c0.key (bM k0 k1 c1.key)]) hat
   have t3:=OG p (key:=c1.key) (lM hnd0 hnd1)
   have t4:=n0 p n
   rw[hn.1]at t4
   rw[dA,iZ,lA,fy hk0,List.count_append]at t2
   rw[iZ,fy hk1,List.count_append]at t1
   rw[iv]
   omega
theorem Cy(p:Int)(l:List C)(key val:ByteArray):rC p true (cO l key val)≤rC p true l:=by
 have hnew:(lR true (.mk key val [] [])).count p=0:=rfl
 have h2:rC p true (l.take (bk l key)++[.mk key val [] []]++l.drop (bk l key))≤rC p true l:=by
  have:=ql p true l (bk l key)
  rw[nK,nK,dA,iZ,hnew];omega
 unfold cO
 simp only
 split
 ·rename_i c hc
  split
  ·have:=jm (p:=p) (b:=true) (m:=[C.mk key val [] []]) hc
   rw[dA,iZ,hnew]at this
   omega
  ·exact h2
 ·exact h2
theorem Ki{key val:ByteArray}(hk:key.size≤16)(hv:val.size≤400)(p:Int):∀{d:Nat} {n:N},Nd d n→(bX (ct key val n)).count p≤(bX n).count p
 |0,n,h=>by
  rw[fV _ _ _ h.1,iv]
  have:=Cy p n.l key val
  have h4:=n0 p n
  rw[h.1]at h4
  omega
 |d+1,n,h=>by
  have hw:=gN h.2.1 key
  obtain⟨c,kid,hc,_,_,hkid,hkey,hnd⟩:=cb h hw
  rw[jZ _ _ _ h.1 hc hkid]
  have h1:=il h hw 0 (m:=[af c.key (ct key val kid)]) (.inr (by simp)) fun c' hc'=>by
   rw[List.mem_singleton]at hc';subst hc';exact dG hkey (gJ hk hv hnd)
  have h2:=cG (m:=[af c.key (ct key val kid)]) hw
  refine Nat.le_trans (yf p h1 (by simp only[N.eB,List.length_cons,List.length_nil]at *;omega)) ?_
  have t:=jm (p:=p) (b:=false) (m:=[af c.key (ct key val kid)]) hc
  have i1:=Ki hk hv p hnd
  have h4:=n0 p n
  rw[h.1]at h4
  rw[dA,iZ,lA,fy hkid,List.count_append]at t
  rw[iv]
  omega
theorem tP{key:ByteArray}(p:Int):∀{d:Nat} {n:N},Nd d n→(bX (aD key n)).count p≤(bX n).count p
 |0,n,h=>by
  rw[cn _ _ h.1,iv]
  have h4:=n0 p n
  rw[h.1]at h4
  have:∀l:List C,rC p true (l.filter fun c=>!fh c.key key)≤rC p true l:=by
   intro l
   induction l with
   |nil=>exact Nat.le_refl _
   |cons c l ih=>
    rw[List.filter_cons,dA]
    split
    ·rw[dA];omega
    ·omega
  have:=this n.l
  omega
 |d+1,n,h=>by
  have hw:=gN h.2.1 key
  obtain⟨c,kid,hc,_,_,hkid,hkey,hnd⟩:=cb h hw
  obtain⟨hs,_⟩:=h.2.2 c (List.mem_of_getElem? hc)
  rw[fk _ _ h.1 hc hkid]
  have h1:=qH h hw (c':= .mk c.key c.data c.ai [aD key kid]) ⟨⟨hs.1,hs.2.1,hs.2.2⟩,_,rfl,cL hnd⟩
  refine Nat.le_trans (yf p h1 (by simp only[N.eB,List.length_set];exact hw)) ?_
  have e:n.l.set (fU n.l key) (.mk c.key c.data c.ai [aD key kid])=aE n.l (fU n.l key) [.mk c.key c.data c.ai [aD key kid]]:=by
   unfold aE
   rw[List.set_eq_take_append_cons_drop,if_pos hw];simp
  have t:=jm (p:=p) (b:=false) (m:=[.mk c.key c.data c.ai [aD key kid]]) hc
  have i1:=tP (key:=key) p hnd
  have h4:=n0 p n
  rw[h.1]at h4
  rw[dA,iZ,fy (c:= .mk c.key c.data c.ai [aD key kid]) rfl,fy hkid,List.count_append,List.count_append]at t
  rw[iv,e]
  simp only[C.Jr]at t
  omega
theorem Kt(p:Int){d:Nat}:∀{n:N},Nd d n→(bX (jT n)).count p≤(bX n).count p:=by
 have one:∀{d:Nat} {n:N},Nd d n→(bX (if atR (ae n)=0 then n else cC (.mk 0 false [af aZ n]) 0)).count p≤(bX n).count p:=fun{d n} h=>by
  split
  ·exact Nat.le_refl _
  ·refine Nat.le_trans (yf p (d:=d) (n:= .mk 0 false [af aZ n]) (k:=0) ⟨rfl,by simp[N.l],fun c hc=>by
    simp only[N.eB,List.mem_singleton]at hc
    subst hc
    exact dG (by rw[bC];omega) h⟩ (by simp[N.l])) ?_
   rw[iv,dA,iZ,lA]
   exact Nat.le_refl _
 induction d with
 |zero=>intro n h;rw[cW _ (.inl h.1)];exact one h
 |succ d ih=>
  intro n h
  by_cases h1:n.l.length=1
  ·obtain⟨c,hc⟩:=List.length_eq_one_iff.1 h1
   obtain⟨_,k,hk,hn⟩:=h.2.2 c (by rw[hc];exact List.mem_singleton_self c)
   rw[kZ n h.1 hc hk]
   have:=ih hn
   have h4:=n0 p n
   rw[h.1,hc,dA,iZ,fy hk,List.count_append]at h4
   omega
  ·rw[cW _ (.inr h1)];exact one h
theorem Un{key val:ByteArray}(hk:key.size≤16)(hv:val.size≤400)(p:Int){d:Nat}{n:N}(h:Nd d n):(bX (ld key val n)).count p≤(bX n).count p:=
 Nat.le_trans (Kt p (gJ hk hv h)) (Ki hk hv p h)
theorem T5{key:ByteArray}(p:Int){d:Nat}{n:N}(h:Nd d n):(bX (mg key n)).count p≤(bX n).count p:=by
 unfold mg
 split
 ·exact Nat.le_trans (Kt p (cL h)) (tP p h)
 ·exact Nat.le_refl _
end Go.Proofs.YtpjenciplibdnaaGreatDoor
namespace Go.Proofs.YtpjenciplibdnaaGreatDoor
open Aml Go
theorem tg{d:Nat}{n:N}(h:Nd d n):(bX n).length≤1+5*bd n:=by
 rw[(nz d n h).length_eq]
 exact Ee qN h
theorem yy(b:Bool)(l:List C)(k:Nat):((l.take k).flatMap (lR b)).length≤(l.flatMap (lR b)).length:=by
 have:=congrArg (List.flatMap (lR b)) (List.take_append_drop k l)
 have:=congrArg List.length this
 simp only[List.flatMap_append,List.length_append]at this
 omega
theorem Al{b:Bool}{l:List C}{k:Nat}{c:C}(h:l[k]? =some c):(l.take (k+1)).flatMap (lR b)=(l.take k).flatMap (lR b)++lR b c:=by
 rw[List.take_add_one,h];simp
theorem WN(w0:W0):∀(d:Nat) (n:N) (S:St),Nd d n→bd n≤131072→aa Tryz.prog w0 106 [eN n] S (fun e S'=>e=dL (bX n)∧S'=S):=by
 intro d
 induction d with
 |zero=>
  intro n S hn ht
  have hlf:=hn.1
  have hl:=bj n
  have hq:=fg n
  have hle:=tg hn
  rw[hlf]at hq
  have hm8:maxLen=9223372036854775807:=rfl
  refine aY [2] mx Tryz.func106 rfl rfl (by kernel_rfl) ?_;(refine @ab _ ?_;refine aO @Tryz.ntmps106 @hlf ?_)
  intro b
  refine j3 3 1 rfl (by omega) fun lp=>?_
  refine fQ [] [] mx (by kernel_rfl) ?_
  (refine @ab _ ?_;refine au ?_)
  refine⟨fun hp=>⟨by omega,?_⟩,fun hp=>?_⟩
  all_goals
   obtain⟨P0,hP0⟩:∃P0,P0=(if n.ak≠0 then [n.ak]else []):=⟨_,rfl⟩
   rw[←hP0]at hq
   have hP1:P0.length≤1:=by rw[hP0];split <;>simp
   rw[hq,List.length_append]at hle
   refine aA [] n.l.length [1,3,4] (fun k=>[(3,.acc lp.n (P0++(n.l.take k).flatMap (lR true)).length),(4,dI k)]) (fun k=>⟨(b.n,[dI n.ak,dB true,.sl 4 false (n.l.map dC)])::S.box,(lp.n,.arr 1 ((P0++(n.l.take k).flatMap (lR true)).map dI))::S.acc⟩) (fun _=>True) mx (by kernel_rfl) ?_ ?_
   ·(refine @ab _ ?_;refine au ?_)
    first
     |(rw[if_pos (show n.ak≠0 from hp)]at hP0
       subst hP0
       exact⟨.refl _,.refl _⟩)
     |(rw[if_neg (show¬n.ak≠0 from hp)]at hP0
       subst hP0
       exact⟨.refl _,.refl _⟩)
   ·intro k hk _
    have h1:=yy true n.l k
    have h2:=yy true n.l (k+1)
    (refine @ab _ ?_;refine au ?_)
    refine⟨fun hlt=>⟨hlt,fun c hc=>?_⟩,fun hge=>?_⟩
    ·have h3:=Al (b:=true) hc
     have h4:=congrArg List.length h3
     rw[List.length_append,iC]at h4
     refine⟨by omega,by omega,hlt,⟨.eq (by rw[h4,Nat.add_assoc]),by rw[ba (by omega) (by omega)];omega⟩,?_⟩
     rw[h3,iC,List.append_assoc]
     exact .refl _
    ·rw[List.take_of_length_le (by omega),hq]
     exact .refl _
 |succ d ih=>
  intro n S hn ht
  have hlf:=hn.1
  have hl:=bj n
  have hq:=fg n
  have hle:=tg hn
  rw[hlf]at hq
  have hm8:maxLen=9223372036854775807:=rfl
  refine aY [2] mx Tryz.func106 rfl rfl (by kernel_rfl) ?_;(refine @ab _ ?_;refine aO @Tryz.ntmps106 @hlf ?_)
  intro b
  refine j3 3 1 rfl (by omega) fun lp=>?_
  refine fQ [] [] mx (by kernel_rfl) ?_
  (refine @ab _ ?_;refine au ?_)
  refine⟨fun hp=>⟨by omega,?_⟩,fun hp=>?_⟩
  all_goals
   obtain⟨P0,hP0⟩:∃P0,P0=(if n.ak≠0 then [n.ak]else []):=⟨_,rfl⟩
   rw[←hP0]at hq
   have hP1:P0.length≤1:=by rw[hP0];split <;>simp
   rw[hq,List.length_append]at hle
   refine aA [] n.l.length [1,3,4] (fun k=>[(3,.acc lp.n (P0++(n.l.take k).flatMap (lR false)).length),(4,dI k)]) (fun k=>⟨(b.n,[dI n.ak,dB false,.sl 4 false (n.l.map dC)])::S.box,(lp.n,.arr 1 ((P0++(n.l.take k).flatMap (lR false)).map dI))::S.acc⟩) (fun _=>True) mx (by kernel_rfl) ?_ ?_
   ·(refine @ab _ ?_;refine au ?_)
    first
     |(rw[if_pos (show n.ak≠0 from hp)]at hP0
       subst hP0
       exact⟨.refl _,.refl _⟩)
     |(rw[if_neg (show¬n.ak≠0 from hp)]at hP0
       subst hP0
       exact⟨.refl _,.refl _⟩)
   ·intro k hk _
    have h1:=yy false n.l k
    have h2:=yy false n.l (k+1)
    (refine @ab _ ?_;refine au ?_)
    refine⟨fun hlt=>⟨hlt,fun c hc=>?_⟩,fun hge=>?_⟩
    ·obtain⟨hs,kid,hkid,hnd⟩:=hn.2.2 c (List.mem_of_getElem? hc)
     have hpn:c.ai=[]:=List.eq_nil_of_length_eq_zero (Nat.le_zero.1 hs.2.2)
     have htk:=dH (List.mem_of_getElem? hc) hkid
     have hkl:((n.l.take (k+1)).flatMap (lR false))=(n.l.take k).flatMap (lR false)++bX kid:=by rw[Al hc,fy hkid,hpn,List.nil_append]
     have hkn:=congrArg List.length hkl
     rw[List.length_append]at hkn
     rw[hpn,List.append_nil,List.length_nil,Nat.add_zero]
     refine⟨by omega,by omega,hlt,fun c2 hc2=>?_⟩
     rw[hc]at hc2
     cases hc2
     rw[hkid]
     refine⟨by simp,fun kid2 hkid2=>?_⟩
     cases hkid2
     refine aq (ih kid _ hnd (by omega)) ?_
     (refine @ab _ ?_;refine au ?_)
     refine⟨by omega,by omega,hlt,⟨.eq (by rw[hkn,Nat.add_assoc]),by rw[ba (by omega) (by omega)];omega⟩,?_⟩
     rw[hkl,List.append_assoc]
     exact .refl _
    ·rw[List.take_of_length_le (by omega),hq]
     exact .refl _
theorem Iu(w0:W0)(d:Nat)(n:N)(S:St)(hn:Nd d n)(ht:bd n≤131072):aa Tryz.prog w0 55 [eN n] S (fun e S'=>e=dL (dO n)∧S'=S):=by
 have hle:=tg hn
 refine aY [] mx Tryz.func55 rfl rfl (by kernel_rfl) ?_;(refine @ab _ ?_;refine ao @Tryz.ntmps55 ?_)
 intro b
 refine aq (WN w0 d n _ hn ht) ?_
 (refine @ab _ ?_;refine au ?_)
 refine aq (O3 w0 (bX n) _ (by omega)) ?_
 (refine @ab _ ?_;refine au ?_)
 rw[kM (nz d n hn)]
 exact .refl _
structure Stp where
 key:ByteArray
 size:Int
 laid:Bool
def Vc:N:= .mk 0 true []
def IE(k:Nat)(n:N):Prop:=∃d,d≤k∧Nd d n∧bd n≤125*k
theorem IE.mono{k m:Nat}{n:N}(h:IE k n)(hm:k≤m):IE m n:=by
 obtain⟨d,h1,h2,h3⟩:=h
 exact⟨d,by omega,h2,by omega⟩
theorem IE.mark{k:Nat}{n:N}(h:IE k n)(f:Int):IE k (kW n f).1:=by
 obtain⟨d,h1,h2,h3⟩:=h
 exact⟨d,h1,xH f h2,by rw[A6 f h2];exact h3⟩
end Go.Proofs.YtpjenciplibdnaaGreatDoor
namespace Aml
open Go Go.RowKit
theorem Ft{P:Program}{w0:W0}{f:FuncId}{args:List DV}{S:St}{r:DV}(h1:aa P w0 f args S (fun d S'=>oz S' d fun d S''=>Wk d r∧Sub S S'')):aa P w0 f args S (fun d S'=>d=r∧S'=S):=by
 intro g vs w k1 k2
 refine(h1 g vs w k1 k2).mono ?_
 rintro e w' ⟨v,g',d,S',q1,q2,q3,q4,q5⟩
 obtain⟨g2,d',S2,p1,p2,p3,p4,p5⟩:=sG q3 q4 q5
 exact⟨v,g2,r,S,q1,q2.trans p1,p2.forget p5.box p5.acc,p4 _ _ p3,rfl,rfl⟩
end Aml
namespace Go.Proofs.YtpjenciplibdnaaGreatDoor
open Aml Go
def DK(n:N):Prop:=∃d,Nd d n∧bd n≤131072
theorem LF(w0:W0)(n:N)(S:St)(h:DK n):aa Tryz.prog w0 98 [eT n] S (fun d S'=>d=dL (dO n)∧S'=S):=by
 obtain⟨d,hn,ht⟩:=h
 have h1:=E1 qN hn
 have h2:=Ee qN hn
 refine Ft ((Ve w0 n S (by omega) (by omega) (fun x hx=>Nat.le_trans (RS qN hn x hx) (by omega))).mono ?_)
 rintro d S' ⟨m,rfl,rfl⟩
 simp(maxDischargeDepth:=12) (maxSteps:=1000000) -implicitDefEqProofs only[go_sem,Nat.reduceAdd,Nat.reduceSub,Nat.reduceMul,Nat.reduceLeDiff,Nat.reduceEqDiff,Nat.reduceGT,Nat.reduceBEq,reduceCtorEq,↓reduceIte,Int.reduceToNat,Int.reduceLE,Int.reduceLT,Int.reduceNe,Int.reduceEq,dO,aN]
theorem K9(w0:W0)(n:N)(S:St)(h:DK n):aa Tryz.prog w0 180 [eT n] S (fun d S'=>d=dI (dg n)∧S'=S):=by
 obtain⟨d,hn,ht⟩:=h
 have h1:=E1 laidB hn
 have h2:=tF hn
 exact UA w0 n S (by omega) (by unfold dg at h2;omega) (fun x hx=>Nat.le_trans (RS laidB hn x hx) (by omega))
theorem DK.mark{n:N}(h:DK n)(f:Int):DK (kW n f).1:=by
 obtain⟨d,hn,ht⟩:=h
 exact⟨d,xH f hn,by rw[A6 f hn];exact ht⟩
theorem IY{d:Nat}{n:N}(h:Nd d n):dO n=bz (bX n):=(kM (nz d n h)).symm
end Go.Proofs.YtpjenciplibdnaaGreatDoor
namespace Go.Proofs.YtpjenciplibdnaaGreatDoor
open Aml Go
inductive nV:N→Prop
 |leaf (p:Int) (l:List C) (h:p≠0↔l≠[]) (hc:∀c,c∈l→c.ai.length=fH c.data.size):nV (.mk p true l)
 |br (p:Int) (l:List C) (h:p≠0) (hk:∀c,c∈l→∀k,c.kid=[k]→nV k):nV (.mk p false l)
inductive k7:N→Prop
 |mk (n:N) (h1:n.ak≠0→nV n) (h2:n.leaf=true→∀c,c∈n.l→c.ai=[]∨c.ai.length=fH c.data.size) (h3:n.leaf=false→∀c,c∈n.l→∀k,c.kid=[k]→k7 k):k7 n
def EK(b:Bool)(c:C):Prop:=if b then c.ai=[]∨c.ai.length=fH c.data.size else∀k,c.kid=[k]→k7 k
theorem vj:mb k7 EK where
 of:=fun b l h=> .mk _ (fun e=>absurd rfl e) (fun hb c hc=>by have:=h c hc;simp only[N.ny]at hb;subst hb;exact this) (fun hb c hc=>by have:=h c hc;simp only[N.ny]at hb;subst hb;exact this)
 to:=fun n h c hc=>by
  cases h with|mk _ h1 h2 h3=>
  unfold EK
  cases hb:n.leaf with
  |true=>rw[if_pos rfl];exact h2 hb c hc
  |false=>rw[if_neg (by simp)];exact h3 hb c hc
 kid:=fun c k hk h=>by unfold EK at h;rw[if_neg (by simp)]at h;exact h k hk
 cell:=fun c k hk _ h=>by unfold EK;rw[if_neg (by simp)];intro k' hk';rw[hk]at hk';cases hk';exact h
theorem vS:∀{d:Nat} {n:N},Nd d n→nV n→k7 n
 |0,n,hn,h=> .mk n (fun _=>h) (fun hb c hc=>by
  cases h with
  |leaf p l h hl=>exact .inr (hl c hc)
  |br p l h hk=>cases hb) (fun hb=>by rw[hn.1]at hb;cases hb)
 |d+1,n,hn,h=> .mk n (fun _=>h) (fun hb=>by rw[hn.1]at hb;cases hb) (fun hb c hc k hk=>by
  cases h with
  |leaf p l h hl=>cases hb
  |br p l h hkk=>
   obtain⟨_,k',hk',hnd⟩:=hn.2.2 c hc
   rw[hk]at hk';cases hk'
   exact vS hnd (hkk c hc k hk))
mutual
def tN:N→Nat
 | .mk _ b l=>if l=[]then 0 else 1+tCs b l
def tC(b:Bool):C→Nat
 | .mk _ d _ kid=>if b then fH d.size else tNs kid
def tCs(b:Bool):List C→Nat
 |[]=>0
 |c::l=>tC b c+tCs b l
def tNs:List N→Nat
 |[]=>0
 |n::_=>tN n
end
theorem ru{z:Nat}(h:z≤400):need (z:Int)=fH z:=by
 unfold need fH
 by_cases h16:16<z
 ·rw[if_pos (by omega),if_pos h16];omega
 ·rw[if_neg (by omega),if_neg h16]
theorem w9{d:Nat}{n:N}(hn:Nd d n)(h:nV n):n.ak≠0↔n.l≠[]:=by
 cases h with
 |leaf p l h hk=>exact h
 |br p l h hk=>
  cases d with
  |zero=>cases hn.1
  |succ d=>exact⟨fun _=>hn.2.1,fun _=>h⟩
structure RI(q:N×N):Prop where
 r1:gV q.1
 r2:gV q.2
 laid:k7 q.1
 sub:∀p,(bX q.1).count p≤(bX q.2).count p
 one:∀p,(bX q.2).count p≤1
theorem uB:k7 Vc:= .mk _ (fun e=>absurd rfl e) (fun _ c hc=>by cases hc) (fun _ c hc=>by cases hc)
theorem Bx{A B:List C}{b:C}{key val:ByteArray}(h:dj (A++b::B))(hb:b.key=key):cO (A++b::B) key val=A++ .mk key val [] []::B:=by
 unfold dj at h
 rw[eS,List.pairwise_cons]at h
 have h1:∀a,a∈A→cI a.key key=true:=fun a ha=>hb▸h.2.2 a ha b List.mem_cons_self
 have h2:∀x,x∈b::B→cI x.key key=false:=fun x hx=>by
  rcases List.mem_cons.1 hx with rfl|hx
  ·rw[hb];exact cK _
  ·exact fm (hb▸h.2.1.1 x hx)
 have hi:=pf h1 h2
 unfold cO
 simp only[hi]
 rw[List.getElem?_append_right (Nat.le_refl _),Nat.sub_self,List.getElem?_cons_zero]
 simp only
 rw[if_pos (cR.2 hb),gj]
 simp
theorem II{A B:List C}{key:ByteArray}{k:N}(h:Fits k):cC (.mk 0 false (A++af key k::B)) A.length= .mk 0 false (A++af key k::B):=by
 have e1:aV (.mk 0 false (A++af key k::B)) k A.length key=(.mk 0 false (A++af key k::B),false):=by
  unfold aV
  simp only[o7 h.2,if_true]
 have e2:ay (af key k)=k:=rfl
 have e3:(af key k).key=key:=rfl
 unfold cC
 simp only[N.eB,l3,e2,e3,e1]
 rw[if_neg (by simp),if_pos]
 unfold Dp
 have:=h.1
 simp;omega
theorem sJ(b:Bool)(l m:List C):gQ b (l++m)=gQ b l+gQ b m:=by unfold gQ;rw[List.map_append,List.sum_append]
theorem pD(b:Bool)(c:C)(l:List C):gQ b (c::l)=jP b c+gQ b l:=by unfold gQ;rw[List.map_cons,List.sum_cons]
theorem uH(b:Bool){A B:List C}{c c':C}(h:aX b c'=aX b c):(A++c'::B).map (aX b)=(A++c::B).map (aX b):=by rw[List.map_append,List.map_cons,List.map_append,List.map_cons,h]
theorem Kx{d:Nat}{b:Bool}{l:List C}(h:Nd d (.mk 0 b l))(hl:l≠[]):dg (.mk 0 b l)=1+gQ b l:=by
 have h1:¬((N.mk 0 b l).leaf=true∧(N.mk 0 b l).l=[]):=fun e=>hl e.2
 have h2:¬(N.mk 0 b l).ak≠0:=fun e=>e rfl
 rw[eQ h,if_neg h2,if_neg h1];rfl
end Go.Proofs.YtpjenciplibdnaaGreatDoor
namespace Go.Proofs.YtpjenciplibdnaaGreatDoor
open Aml Go
inductive kE(P:ByteArray→ByteArray→Prop):N→Prop
 |mk (n:N) (h1:n.ak≠0→∀e,e∈de n→P e.key e.data) (h3:n.leaf=false→∀c,c∈n.l→∀k,c.kid=[k]→kE P k):kE P n
def NL(P:ByteArray→ByteArray→Prop)(b:Bool)(c:C):Prop:=if b then True else∀k,c.kid=[k]→kE P k
theorem fG(P:ByteArray→ByteArray→Prop):mb (kE P) (NL P) where
 of:=fun b l h=> .mk _ (fun e=>absurd rfl e) (fun hb c hc=>by have:=h c hc;simp only[N.ny]at hb;subst hb;exact this)
 to:=fun n h c hc=>by
  cases h with|mk _ h1 h3=>
  unfold NL
  cases hb:n.leaf with
  |true=>rw[if_pos rfl];trivial
  |false=>rw[if_neg (by simp)];exact h3 hb c hc
 kid:=fun c k hk h=>by unfold NL at h;rw[if_neg (by simp)]at h;exact h k hk
 cell:=fun c k hk _ h=>by unfold NL;rw[if_neg (by simp)];intro k' hk';rw[hk]at hk';cases hk';exact h
section
variable {P P':ByteArray→ByteArray→Prop}
theorem kE.one{n:N}(h:kE P n):n.ak≠0→∀e,e∈de n→P e.key e.data:=by cases h with|mk _ h1 h3=>exact h1
theorem kE.kids{n:N}(h:kE P n):n.leaf=false→∀c,c∈n.l→∀k,c.kid=[k]→kE P k:=by cases h with|mk _ h1 h3=>exact h3
theorem kE.ak{n:N}(h:kE P n){e:C}(he:e∈de n)(hn:¬P e.key e.data):n.ak=0:=Classical.byContradiction fun z=>hn (h.one z e he)
theorem I7{d:Nat}{n:N}(hn:Nd (d+1) n){c:C}{k:N}(hc:c∈n.l)(hk:c.kid=[k]){e:C}(he:e∈de k):e∈de n:=by
 rw[ca,hn.1]
 exact List.mem_flatMap.2 ⟨c,hc,by rw[bc hk];exact he⟩
theorem nL:∀{d:Nat} {n:N},Nd d n→(∀e,e∈de n→P e.key e.data→P' e.key e.data)→kE P n→kE P' n
 |0,n,hn,hm,h=> .mk n (fun e x hx=>hm x hx (h.one e x hx)) (fun hb=>by rw[hn.1]at hb;cases hb)
 |d+1,n,hn,hm,h=> .mk n (fun e x hx=>hm x hx (h.one e x hx)) (fun hb c hc k hk=>by
  obtain⟨_,k',hk',hnd⟩:=hn.2.2 c hc
  rw[hk]at hk';cases hk'
  exact nL hnd (fun e he=>hm e (I7 hn hc hk he)) (h.kids hb c hc k hk))
theorem Ek:∀{d:Nat} {n:N},Nd d n→(∀e,e∈de n→P e.key e.data)→kE P n
 |0,n,hn,hm=> .mk n (fun _=>hm) (fun hb=>by rw[hn.1]at hb;cases hb)
 |d+1,n,hn,hm=> .mk n (fun _=>hm) (fun hb c hc k hk=>by
  obtain⟨_,k',hk',hnd⟩:=hn.2.2 c hc
  rw[hk]at hk';cases hk'
  exact Ek hnd fun e he=>hm e (I7 hn hc hk he))
theorem KC{key val:ByteArray}(hk:key.size≤16)(hv:val.size≤400):∀{d:Nat} {n:N},Good d n→kE P n→kE (fun k v=>P k v∧k≠key) (ct key val n)
 |0,n,h,hc=>by
  rw[fV _ _ _ h.1]
  exact(fG _).of _ _ fun c _=>by unfold NL;rw[if_pos rfl];trivial
 |d+1,n,h,hc=>by
  have hB:=h.2.2
  have hn:=aw h
  obtain⟨A,c,B,hl,hw,hA,hcc,hBk⟩:=jk hB h.2.1 key
  have hcl:n.l[fU n.l key]? =some c:=by
   rw[←hw]
   conv=>lhs;rw[hl]
   simp
  have hcm:=List.mem_of_getElem? hcl
  obtain⟨o1,o2,kid,hkid,o4,o5⟩:=hB.cell c hcm
  have hwl:=gN h.2.1 key
  have i1:=KC hk hv o4 (hc.kids h.1 c hcm kid hkid)
  have hnk:=gJ hk hv (aw o4)
  have h1:=il hn hwl 0 (m:=[af c.key (ct key val kid)]) (.inr (by simp)) fun c' hc'=>by
   rw[List.mem_singleton]at hc';subst hc';exact dG o1.1 hnk
  have h2:=cG (m:=[af c.key (ct key val kid)]) hwl
  rw[jZ _ _ _ h.1 hcl hkid]
  refine mW (fG _) (jJ (fG _) h1 (by simp only[N.eB,List.length_cons,List.length_nil]at *;omega) (fun x hx=>?_) rfl)
  have hx:x∈aE n.l (fU n.l key) [af c.key (ct key val kid)]:=hx
  have hsib:∀(x:C),x∈n.l→(∀e,e∈iU false x→e.key≠key)→NL (fun k v=>P k v∧k≠key) false x:=fun x hx he=>by
   unfold NL;rw[if_neg (by simp)]
   intro k hk
   obtain⟨_,k',hk',hnd⟩:=hn.2.2 x hx
   rw[hk]at hk';cases hk'
   exact nL hnd (fun e h1 h2=>⟨h2,he e (by rw[bc hk];exact h1)⟩) (hc.kids h.1 x hx k hk)
  have ew:aE n.l A.length [af c.key (ct key val kid)]=A++[af c.key (ct key val kid)]++B:=by
   rw[hl]
   exact gj _ _ _ _
  rw[←hw,ew]at hx
  rw[hl]at hB
  rcases List.mem_append.1 hx with hx|hx
  ·rcases List.mem_append.1 hx with hx|hx
   ·exact hsib x (by rw[hl];simp[hx]) fun e he=>bP (hA x hx e he)
   ·rw[List.mem_singleton]at hx;subst hx
    exact(fG _).cell _ _ rfl rfl i1
  ·exact hsib x (by rw[hl];simp[hx]) fun e he=>(bP (qW hB hBk e (List.mem_flatMap.2 ⟨x,hx,he⟩))).symm
theorem tD{key:ByteArray}:∀{d:Nat} {n:N},Good d n→kE P n→kE (fun k v=>P k v∧k≠key) (aD key n)
 |0,n,h,hc=>by
  rw[cn _ _ h.1]
  exact(fG _).of _ _ fun c _=>by unfold NL;rw[if_pos rfl];trivial
 |d+1,n,h,hc=>by
  have hB:=h.2.2
  have hn:=aw h
  obtain⟨A,c,B,hl,hw,hA,hcc,hBk⟩:=jk hB h.2.1 key
  have hcl:n.l[fU n.l key]? =some c:=by
   rw[←hw]
   conv=>lhs;rw[hl]
   simp
  have hcm:=List.mem_of_getElem? hcl
  obtain⟨o1,o2,kid,hkid,o4,o5⟩:=hB.cell c hcm
  obtain⟨hs,_⟩:=hn.2.2 c hcm
  have hwl:=gN h.2.1 key
  have i1:=tD (key:=key) o4 (hc.kids h.1 c hcm kid hkid)
  have h1:=qH hn hwl (c':= .mk c.key c.data c.ai [aD key kid]) ⟨⟨hs.1,hs.2.1,hs.2.2⟩,_,rfl,cL (aw o4)⟩
  rw[fk _ _ h.1 hcl hkid]
  refine mW (fG _) (jJ (fG _) h1 (by simp only[N.eB,List.length_set];exact hwl) (fun x hx=>?_) rfl)
  have hx:x∈n.l.set (fU n.l key) (.mk c.key c.data c.ai [aD key kid]):=hx
  have hsib:∀(x:C),x∈n.l→(∀e,e∈iU false x→e.key≠key)→NL (fun k v=>P k v∧k≠key) false x:=fun x hx he=>by
   unfold NL;rw[if_neg (by simp)]
   intro k hk
   obtain⟨_,k',hk',hnd⟩:=hn.2.2 x hx
   rw[hk]at hk';cases hk'
   exact nL hnd (fun e h1 h2=>⟨h2,he e (by rw[bc hk];exact h1)⟩) (hc.kids h.1 x hx k hk)
  have e:n.l.set (fU n.l key) (.mk c.key c.data c.ai [aD key kid])=A++(.mk c.key c.data c.ai [aD key kid])::B:=by
   rw[←hw]
   conv=>lhs;rw[hl]
   rw[List.set_append_right _ _ (Nat.le_refl _),Nat.sub_self,List.set_cons_zero]
  rw[e]at hx
  rw[hl]at hB
  rcases List.mem_append.1 hx with hx|hx
  ·exact hsib x (by rw[hl];simp[hx]) fun e he=>bP (hA x hx e he)
  ·rcases List.mem_cons.1 hx with rfl|hx
   ·exact(fG _).cell _ _ rfl (List.eq_nil_of_length_eq_zero (Nat.le_zero.1 hs.2.2)) i1
   ·exact hsib x (by rw[hl];simp[hx]) fun e he=>(bP (qW hB hBk e (List.mem_flatMap.2 ⟨x,hx,he⟩))).symm
theorem Ea{key val:ByteArray}(hk:key.size≤16)(hv:val.size≤400){d:Nat}{n:N}(h:Good d n)(hc:kE P n):kE (fun k v=>P k v∧k≠key) (ld key val n):=
 nA (fG _) (gJ hk hv (aw h)) (KC hk hv h hc)
theorem T0{key:ByteArray}{d:Nat}{n:N}(h:Good d n)(hc:kE P n):kE (fun k v=>P k v∧k≠key) (mg key n):=by
 unfold mg
 split
 ·exact nA (fG _) (cL (aw h)) (tD h hc)
 ·rename_i hf
  rw[nM key h]at hf
  refine nL (aw h) (fun e he hp=>⟨hp,fun z=>hf ?_⟩) hc
  rw[Option.isSome_map,List.find?_isSome]
  exact⟨e,he,cR.2 z⟩
theorem y8{key val:ByteArray}(hk:key.size≤16)(hv:val.size≤16):∀{d:Nat} {n:N} {x:C},Good d n→kE P n→x∈de n→x.key=key→¬P key x.data→x.data.size=val.size→
 ae (ct key val n)=ae n∧(ct key val n).leaf=n.leaf∧(ct key val n).l.length=n.l.length∧dg (ct key val n)=dg n∧bX (ct key val n)=bX n∧bd (ct key val n)=bd n∧(ct key val n).ak=n.ak
 |0,n,x,h,hc,hx,hxk,hxp,hxs=>by
  have hp0:n.ak=0:=hc.ak hx (by rw[hxk];exact hxp)
  rw[cm h.1]at hx
  obtain⟨A,B,hl⟩:=List.append_of_mem hx
  have hnd:=gJ hk (by omega:val.size≤400) (aw h)
  have hr:dj (A++x::B):=hl▸h.2.1
  have ep:ct key val n= .mk 0 true (A++ .mk key val [] []::B):=by rw[fV _ _ _ h.1,hl,Bx hr hxk]
  have hpg:x.ai=[]:=Classical.byContradiction fun z=>by have:=(h.2.2 x hx).2.2.2.1 z;omega
  have hne:n.l≠[]:=by rw[hl];simp
  rw[ep]at hnd ⊢
  have hz:¬(n.leaf=true∧n.l=[]):=fun e=>hne e.2
  refine⟨?_,h.1.symm,by rw[hl,N.eB];simp,?_,?_,?_,by rw[hp0];rfl⟩
  ·rw[cw,ox h.1,hl]
   refine uH true ?_
   unfold aX
   rw[C.lE,C.QW,hxs,hxk]
  ·rw[Kx hnd (by simp),eQ (aw h),if_neg (fun e=>e hp0),if_neg hz,h.1,hl,sJ,pD,sJ,pD]
   have:jP true (.mk key val [] [])=jP true x:=by
    show(if([]:List Int)=[]then need (val.size:Int)else 0)=(if x.ai=[]then need (x.data.size:Int)else 0)
    rw[if_pos rfl,if_pos hpg,hxs]
   rw[this]
  ·rw[fg,fg n,hp0,h.1,hl]
   show _++(A++C.mk key val [] []::B).flatMap (lR true)=_
   rw[List.flatMap_append,List.flatMap_append,List.flatMap_cons,List.flatMap_cons,iC,iC,hpg]
   rfl
  ·rw[aH,aH,hl]
   show kC (A++C.mk key val [] []::B)=_
   rw[jW,bh,jW,bh,eU,eU x,(h.2.2 x hx).2.2.2.2.2]
   rfl
 |d+1,n,x,h,hc,hx,hxk,hxp,hxs=>by
  have hp0:n.ak=0:=hc.ak hx (by rw[hxk];exact hxp)
  have hB:=h.2.2
  have hn:=aw h
  have hnd:=gJ hk (by omega:val.size≤400) hn
  obtain⟨A,c,B,hl,hw,hA,hcc,hBk⟩:=jk hB h.2.1 key
  have hcl:n.l[fU n.l key]? =some c:=by
   rw[←hw]
   conv=>lhs;rw[hl]
   simp
  have hcm:=List.mem_of_getElem? hcl
  obtain⟨o1,o2,kid,hkid,o4,o5⟩:=hB.cell c hcm
  have hen:de n=A.flatMap (iU false)++(de kid++B.flatMap (iU false)):=by rw[ca,h.1,hl,List.flatMap_append,List.flatMap_cons,bc hkid]
  rw[hl]at hB
  have hxk':x∈de kid:=by
   rw[hen]at hx
   rcases List.mem_append.1 hx with hx|hx
   ·obtain⟨a,ha,hx⟩:=List.mem_flatMap.1 hx
    exact absurd hxk (bP (hA a ha x hx))
   ·rcases List.mem_append.1 hx with hx|hx
    ·exact hx
    ·exact absurd hxk.symm (bP (qW hB hBk x hx))
  obtain⟨i1,i2,i3,i4,i5,i6,i7⟩:=y8 hk hv o4 (hc.kids h.1 c hcm kid hkid) hxk' hxk hxp hxs
  have hfit:Fits (ct key val kid):=by unfold Fits;rw[i1];exact o5
  have ep:ct key val n= .mk 0 false (A++af c.key (ct key val kid)::B):=by rw[jZ _ _ _ h.1 hcl hkid,←hw,hl,gj,List.append_assoc,List.singleton_append,II hfit]
  have hz:¬(n.leaf=true∧n.l=[]):=fun e=>h.2.1 e.2
  rw[ep]at hnd ⊢
  refine⟨?_,h.1.symm,by rw[hl,N.eB];simp,?_,?_,?_,by rw[hp0];rfl⟩
  ·rw[cw,lW h.1,hl]
   exact uH false rfl
  ·rw[Kx hnd (by simp),eQ hn,if_neg (fun e=>e hp0),if_neg hz,h.1,hl,sJ,pD,sJ,pD]
   have e1:jP false (af c.key (ct key val kid))=dg (ct key val kid):=rfl
   have e2:jP false c=dg kid:=by rw[←bl hkid];rfl
   rw[e1,e2,i4]
  ·rw[fg,fg n,hp0,h.1,hl]
   show _++(A++af c.key (ct key val kid)::B).flatMap (lR false)=_
   have o3:c.ai=[]:=List.eq_nil_of_length_eq_zero (Nat.le_zero.1 ((hn.2.2 c hcm).1.2.2))
   rw[List.flatMap_append,List.flatMap_append,List.flatMap_cons,List.flatMap_cons,lA,fy hkid,i5,o3]
   rfl
  ·rw[aH,aH,hl]
   show kC (A++af c.key (ct key val kid)::B)=_
   rw[jW,bh,jW,bh,cA (k:=ct key val kid) rfl,cA hkid,i6]
theorem LA{key val:ByteArray}(hk:key.size≤16)(hv:val.size≤16){d:Nat}{n:N}{x:C}(h:Good d n)(hs:(ae n).sum≤122)(h2:n.leaf=true∨2≤n.l.length)(hc:kE P n)(hx:x∈de n)(hxk:x.key=key)(hxp:¬P key x.data)(hxs:x.data.size=val.size):
 ld key val n=ct key val n∧dg (ld key val n)=dg n∧bX (ld key val n)=bX n∧bd (ld key val n)=bd n:=by
 obtain⟨i1,i2,i3,i4,i5,i6,i7⟩:=y8 hk hv h hc hx hxk hxp hxs
 have e:ld key val n=ct key val n:=by
  unfold ld
  rw[cW _ (by rw[i2,i3];exact h2.imp id fun h=>by omega),i1,if_pos (o7 hs)]
 rw[e]
 exact⟨rfl,i4,i5,i6⟩
end
end Go.Proofs.YtpjenciplibdnaaGreatDoor
namespace Go.Proofs.YtpjenciplibdnaaGreatDoor
open Aml Go
end Go.Proofs.YtpjenciplibdnaaGreatDoor
namespace Go.Proofs.YtpjenciplibdnaaGreatDoor
open Aml Go
def kJ:Nat→Int→Int
 |0,x=>x
 |i+1,x=>IntKind.u64.wrap ((kJ i x).tdiv 256)
def bF:Nat→Int→ByteArray
 |0,_=>aZ
 |i+1,x=>strOfNums [IntKind.u8.wrap (kJ i x)]++bF i x
theorem aC:∀(k:Nat) (x:Int),(bF k x).size=k
 |0,_=>bC
 |k+1,x=>by
  rw[bF,ByteArray.size_append,aC k x,strOfNums_size]
  simp;omega
def UD(x:Int):Int:=if x.tmod 2=1 then fD .xor .u32 (IntKind.u32.wrap (x.tdiv 2)) 3988292384 else IntKind.u32.wrap (x.tdiv 2)
def BL:Nat→Int→Int
 |0,x=>x
 |k+1,x=>UD (BL k x)
def nR(s:ByteArray):List Int:=s.data.toList.map fun c=>(c.toNat:Int)
theorem JD(s:ByteArray):(nR s).length=s.size:=by unfold nR;rw[List.length_map];rfl
def uu(l:List Int)(x:Int):Int:=l.foldl (fun x c=>BL 8 (fD .xor .u32 x (IntKind.u32.wrap c))) x
def JC(x:Int)(s:ByteArray):Int:=IntKind.u32.wrap (4294967295-uu (nR s) (IntKind.u32.wrap (4294967295-x)))
def l9(s:ByteArray):ByteArray:=bF 1 (IntKind.u64.wrap (s.size:Int))++s
theorem jF(s:ByteArray):(l9 s).size=1+s.size:=by unfold l9;rw[ByteArray.size_append,aC]
def db(l:List ByteArray):Nat:=(l.map fun s=>s.size+1).sum
theorem jj(l:List ByteArray)(k:Nat):db (l.take k)≤db l:=by
 have:=congrArg db (List.take_append_drop k l)
 simp only[db,List.map_append,List.sum_append]at this ⊢
 omega
theorem vL{l:List ByteArray}{k:Nat}{s:ByteArray}(h:l[k]? =some s):db (l.take (k+1))=db (l.take k)+s.size+1:=by
 unfold db
 rw[List.take_add_one,h];simp;omega
def cY:List ByteArray→ByteArray→ByteArray
 |[],b=>b
 |s::l,b=>cY l (s++b)
def jv:List ByteArray→ByteArray→ByteArray→ByteArray
 |[],_,s=>s
 |c::l,b,s=>jv l (c++b) (s++strOfNums [IntKind.u8.wrap (IntKind.i64.wrap (128-(((c++b).size:Nat):Int)))])
theorem BE(l m:List ByteArray)(b:ByteArray):cY (l++m) b=cY m (cY l b):=by
 induction l generalizing b with
 |nil=>rfl
 |cons a l ih=>exact ih _
theorem Mg(l m:List ByteArray)(b s:ByteArray):jv (l++m) b s=jv m (cY l b) (jv l b s):=by
 induction l generalizing b s with
 |nil=>rfl
 |cons a l ih=>exact ih _ _
theorem wv(l:List ByteArray)(b:ByteArray):(cY l b).size+l.length=b.size+db l:=by
 induction l generalizing b with
 |nil=>simp[cY,db]
 |cons a l ih=>
  have:=ih (a++b)
  rw[ByteArray.size_append]at this
  simp only[cY,db,List.map_cons,List.sum_cons,List.length_cons]at*
  omega
theorem vM(l:List ByteArray)(b s:ByteArray):(jv l b s).size=s.size+l.length:=by
 induction l generalizing b s with
 |nil=>rfl
 |cons a l ih=>
  rw[jv,ih,ByteArray.size_append,strOfNums_size]
  simp;omega
theorem xX(l:List ByteArray):l.length≤db l:=by
 induction l with
 |nil=>simp
 |cons a l ih=>simp only[db,List.map_cons,List.sum_cons,List.length_cons]at *;omega
def fI(kind:Int)(l:List ByteArray):ByteArray:=
 strOfNums [kind,IntKind.u8.wrap (l.length:Int)]++jv l aZ aZ++(strOfNums (List.replicate (122-db l) 0)++cY l aZ)
def gz(kind:Int)(l:List ByteArray):ByteArray:=bF 4 (IntKind.u64.wrap (JC 0 (fI kind l)))++fI kind l
theorem wJ(kind:Int){l:List ByteArray}(h:db l≤122):(fI kind l).size=124:=by
 unfold fI
 have h1:=wv l aZ
 have h2:=vM l aZ aZ
 have h3:=xX l
 rw[bC]at h1 h2
 simp only[ByteArray.size_append,strOfNums_size,List.length_replicate,List.length_cons,List.length_nil]
 omega
theorem jf(kind:Int){l:List ByteArray}(h:db l≤122):(gz kind l).size=128:=by
 unfold gz
 rw[ByteArray.size_append,aC,wJ kind h]
end Go.Proofs.YtpjenciplibdnaaGreatDoor
namespace Aml.Y
open Go Go.RowKit
def kY(op:Op):Nat:=match op with
 | .lookup ..=>1
 |op=>Z.kX op
def cls(gs ns:List Nat)(i:Nat)(op:Op):Nat:=if gs.contains i then 2 else if ns.contains i then 3 else match kY op with
 |0=>0
 |1=>1
 |2=>4
 |_=>3
def mZ(a b:Nat):Bool:=a==0||(a==1&&(decide (b<3)||b==4))||(a==4&&b==4)
structure xN(S T:St):Prop where
 box:S.box.Perm T.box
 acc:S.acc.Perm T.acc
theorem xN.refl(S:St):xN S S:=⟨.refl _,.refl _⟩
theorem xN.symm{S T:St}(h:xN S T):xN T S:=⟨h.box.symm,h.acc.symm⟩
theorem xN.trans{S T U:St}(h:xN S T)(k:xN T U):xN S U:=⟨h.box.trans k.box,h.acc.trans k.acc⟩
theorem xN.rel{w0:W0}{g:Gh}{S T:St}{w:World}(h:xN S T)(r:Rel w0 g S w):Rel w0 g T w:=
 ⟨r.below,r.bS,(h.box.map _).nodup_iff.1 r.nb,(h.acc.map _).nodup_iff.1 r.na,r.gB,r.fresh,fun l o ho=>r.top l o (h.acc.mem_iff.2 ho),let⟨ow,h1,h2⟩:=r.own
  ⟨ow,fun b ds hb=>h1 b ds (h.box.mem_iff.2 hb),fun l o hl=>h2 l o (h.acc.mem_iff.2 hl)⟩⟩
theorem j9{α:Type}:∀{l:List (Nat×α)} {b:Nat},iX l b→∀p,p∈l→p.1≠b
 |[],b,_,p,h=>by cases h
 |(k,x)::t,b,h,p,hp=>by
  rcases List.mem_cons.1 hp with rfl|hp
  ·exact h.1
  ·exact j9 h.2.2 p hp
theorem Nj{α:Type}(l:List (Nat×α)):∃b,iX l b:=by
 have:∃b,∀p,p∈l→p.1<b:=by
  induction l with
  |nil=>exact⟨0,fun p h=>by cases h⟩
  |cons a l ih=>
   obtain⟨b,hb⟩:=ih
   refine⟨a.1+b+1,fun p hp=>?_⟩
   rcases List.mem_cons.1 hp with rfl|hp
   ·omega
   ·have:=hb p hp;omega
 obtain⟨b,hb⟩:=this
 exact⟨b,di fun p hp e=>by have:=hb p hp;omega⟩
theorem xN.iX{S T:St}(h:xN S T){b:Nat}(k:iX S.box b):iX T.box b:=di fun p hp=>j9 k p (h.box.mem_iff.2 hp)
theorem xN.Mt{P:Program}{w0:W0}{o:Oper}{ρ:Operand→DV}{S T:St}{K:DV→St→Prop}(h:xN S T)(y:an P w0 o ρ S K):an P w0 o ρ T K:=
 fun g w r h1 h2 h3=>y g w r (h.symm.rel h1) h2 h3
structure Hm(X T:St):Prop where
 box:∀b x,lk X.box b=some x→(b,x)∈T.box
 acc:∀l o,lk X.acc l=some o→(l,o)∈T.acc
theorem Hm.of{X T:St}(h:Has X T):Hm X T:=⟨fun b x hb=>cz (h.box b x hb),fun l o hl=>cz (h.acc l o hl)⟩
theorem Hm.perm{X S T:St}(h:Hm X S)(k:xN S T):Hm X T:=⟨fun b x hb=>k.box.mem_iff.1 (h.box b x hb),fun l o hl=>k.acc.mem_iff.1 (h.acc l o hl)⟩
theorem Hm.has{X T:St}{w0:W0}{g:Gh}{w:World}(h:Hm X T)(r:Rel w0 g T w):Has X T:=⟨fun b x hb=>kP r.nb (h.box b x hb),fun l o hl=>kP r.na (h.acc l o hl)⟩
def PC(F:List DV→St→Prop)(fr:List DV)(S:St):Prop:=∃T,xN T S∧F fr T
theorem PC.mono{F G:List DV→St→Prop}(h:∀fr S,F fr S→G fr S){fr:List DV}{S:St}(k:PC F fr S):PC G fr S:=let⟨T,a,b⟩:=k;⟨T,a,h _ _ b⟩
def NP(K:List DV→St→Prop):Prop:=∀fr S T,xN S T→K fr S→K fr T
theorem PC.ZS(F:List DV→St→Prop):NP (PC F):=fun _ _ _ h ⟨U,a,b⟩=>⟨U,a.trans h,b⟩
def nm(P:Program)(w0:W0)(S0:St)(c:Nat)(o:Oper)(fr:List DV)(S:St)(K:List DV→St→Prop):Prop:=
 (c=0∧∃d,(∀S',QY P w0 S' o fr d)∧K (pt fr o.dst d) S)∨
 (c=1∧Hm S0 S∧∃d,(∀S',Hm S0 S'→QY P w0 S' o fr d)∧K (pt fr o.dst d) S)∨
 (c=2∧an P w0 o (ev fr) S fun d S'=>Hm S0 S'∧K (pt fr o.dst d) S')∨
 (c=3∧an P w0 o (ev fr) S fun d S'=>K (pt fr o.dst d) S')∨
 (c=4∧Hm S0 S∧∃t,o.op= .alloc t∧eK (zD P t)=true∧∀b,iX S.box b→K (pt fr o.dst (.v (.pointer (some ⟨b,0,none⟩)))) ⟨(b,cd (zD P t))::S.box,S.acc⟩)
def iJ(P:Program)(w0:W0)(S0:St)(c:Nat)(ops:Array Oper)(o:Oper)(fr:List DV)(S:St)(K:List DV→St→Prop):Prop:=
 (dz ops fr o.guard=some true∧nm P w0 S0 c o fr S K)∨(dz ops fr o.guard=some false∧K (pt fr o.dst ud) S)
section
variable {P:Program} {w0:W0} {S0:St} {ops:Array Oper} {md:Region.Mode}
theorem s9{c:Nat}{o:Oper}{fr:List DV}{S:St}{K K':List DV→St→Prop}(h:∀fr S,K fr S→K' fr S)(b:nm P w0 S0 c o fr S K):nm P w0 S0 c o fr S K':=by
 rcases b with⟨c,d,q,k⟩|⟨c,hS,d,q,k⟩|⟨c,q⟩|⟨c,q⟩|⟨c,hS,t,ht,hz,k⟩
 ·exact .inl ⟨c,d,q,h _ _ k⟩
 ·exact .inr (.inl ⟨c,hS,d,q,h _ _ k⟩)
 ·exact .inr (.inr (.inl ⟨c,aS (fun d S hk=>⟨hk.1,h _ _ hk.2⟩) q⟩))
 ·exact .inr (.inr (.inr (.inl ⟨c,aS (fun d S hk=>h _ _ hk) q⟩)))
 ·exact .inr (.inr (.inr (.inr ⟨c,hS,t,ht,hz,fun b hb=>h _ _ (k b hb)⟩)))
theorem kS{c:Nat}{o:Oper}{fr:List DV}{S:St}{K K':List DV→St→Prop}(h:∀fr S,K fr S→K' fr S)(b:iJ P w0 S0 c ops o fr S K):iJ P w0 S0 c ops o fr S K':=
 b.imp (fun⟨a,b⟩=>⟨a,s9 h b⟩) fun⟨a,b⟩=>⟨a,h _ _ b⟩
theorem JL{c:Nat}{o:Oper}{K:List DV→St→Prop}(hK:NP K):NP fun fr S=>iJ P w0 S0 c ops o fr S K:=fun fr S T hp h=>by
 rcases h with⟨g,b⟩|⟨g,k⟩
 ·refine .inl ⟨g,?_⟩
  rcases b with⟨c,d,q,k⟩|⟨c,hS,d,q,k⟩|⟨c,q⟩|⟨c,q⟩|⟨c,hS,t,ht,hz,k⟩
  ·exact .inl ⟨c,d,q,hK _ _ _ hp k⟩
  ·exact .inr (.inl ⟨c,hS.perm hp,d,q,hK _ _ _ hp k⟩)
  ·exact .inr (.inr (.inl ⟨c,hp.Mt q⟩))
  ·exact .inr (.inr (.inr (.inl ⟨c,hp.Mt q⟩)))
  ·exact .inr (.inr (.inr (.inr ⟨c,hS.perm hp,t,ht,hz,fun b hb=>hK _ ⟨(b,cd (zD P t))::S.box,S.acc⟩ _ ⟨hp.box.cons _,hp.acc⟩ (k b (hp.symm.iX hb))⟩)))
 ·exact .inr ⟨g,hK _ _ _ hp k⟩
theorem GG{c:Nat}{o:Oper}{fr:List DV}{S:St}{K:List DV→St→Prop}{dst:Option Tmp}{e:DV}(h1:∀t,dst=some t→t∉o.looksAt ops)(h2:∀t,dst=some t→o.dst≠some t):
 nm P w0 S0 c o (pt fr dst e) S K↔nm P w0 S0 c o fr S fun fr' S'=>K (pt fr' dst e) S':=by
 have hq:∀S d,QY P w0 S o (pt fr dst e) d↔QY P w0 S o fr d:=fun S d=>
  ⟨aQ (fun x hx=>fb (ops:=ops) h1 x hx),aQ (fun x hx=>(fb (ops:=ops) h1 x hx).symm)⟩
 have hc:∀d,pt (pt fr dst e) o.dst d=pt (pt fr o.dst d) dst e:=fun d=>jV fr e d h2
 have hy:∀K,an P w0 o (ev (pt fr dst e)) S K↔an P w0 o (ev fr) S K:=fun K=>
  ⟨aQ (fun x hx=>fb (ops:=ops) h1 x hx),aQ (fun x hx=>(fb (ops:=ops) h1 x hx).symm)⟩
 unfold nm
 simp only[hq,hc,hy]
theorem jM{c:Nat}{o:Oper}{fr:List DV}{S:St}{K:List DV→St→Prop}{dst:Option Tmp}{e:DV}(h1:∀t,dst=some t→t∉o.looksAt ops)(h2:∀t,dst=some t→o.dst≠some t):
 iJ P w0 S0 c ops o (pt fr dst e) S K↔iJ P w0 S0 c ops o fr S fun fr' S'=>K (pt fr' dst e) S':=by
 unfold iJ
 rw[ix h1,GG h1 h2,jV fr e ud h2]
theorem BA{c:Nat}{o:Oper}{fr:List DV}{S:St}{K K':List DV→St→Prop}(h:∀e S,K (pt fr o.dst e) S→K' (pt fr o.dst e) S)(b:nm P w0 S0 c o fr S K):nm P w0 S0 c o fr S K':=by
 rcases b with⟨c,d,q,k⟩|⟨c,hS,d,q,k⟩|⟨c,q⟩|⟨c,q⟩|⟨c,hS,t,ht,hz,k⟩
 ·exact .inl ⟨c,d,q,h _ _ k⟩
 ·exact .inr (.inl ⟨c,hS,d,q,h _ _ k⟩)
 ·exact .inr (.inr (.inl ⟨c,aS (fun d S hk=>⟨hk.1,h _ _ hk.2⟩) q⟩))
 ·exact .inr (.inr (.inr (.inl ⟨c,aS (fun d S hk=>h _ _ hk) q⟩)))
 ·exact .inr (.inr (.inr (.inr ⟨c,hS,t,ht,hz,fun b hb=>h _ _ (k b hb)⟩)))
theorem uQ{c:Nat}{o:Oper}{fr:List DV}{S:St}{K K':List DV→St→Prop}(h:∀e S,K (pt fr o.dst e) S→K' (pt fr o.dst e) S)(b:iJ P w0 S0 c ops o fr S K):iJ P w0 S0 c ops o fr S K':=
 b.imp (fun⟨a,b⟩=>⟨a,BA h b⟩) fun⟨a,b⟩=>⟨a,h _ _ b⟩
theorem Hm.cons{X S:St}(h:Hm X S){b:Nat}(v:List DV):Hm X ⟨(b,v)::S.box,S.acc⟩:=⟨fun c x hc=>List.mem_cons_of_mem _ (h.box c x hc),fun l o hl=>h.acc l o hl⟩
theorem Cr{cx cy:Nat}{x y:Oper}(hap:x.apart ops y=true)(hk:mZ cx cy=true){fr:List DV}{S:St}{K:List DV→St→Prop}(hK:NP K)(h:iJ P w0 S0 cx ops x fr S fun fr S=>iJ P w0 S0 cy ops y fr S K):
 iJ P w0 S0 cy ops y fr S fun fr S=>iJ P w0 S0 cx ops x fr S K:=by
 obtain⟨b1,b2,b3⟩:=Oper.apart_spec hap
 have hw:∀e,dz ops (pt fr y.dst e) x.guard=dz ops fr x.guard:=fun e=>ix b3
 have hq:∀{S d e},QY P w0 S x fr d→QY P w0 S x (pt fr y.dst e) d:=fun{S d e} q=>aQ (fun z hz=>(fb (ops:=ops) b3 z hz).symm) q
 rcases h with⟨hg,hb⟩|⟨hg,hb⟩
 ·rcases hb with⟨c,d,q,k⟩|⟨c,hS,d,q,k⟩|⟨c, -⟩|⟨c, -⟩|⟨c,hS,t,ht,hz,k⟩
  ·rw[jM b1 b2]at k
   exact uQ (fun e S' hk=> .inl ⟨by rw[hw];exact hg,.inl ⟨c,d,fun S''=>hq (q S''),hk⟩⟩) k
  ·rw[jM b1 b2]at k
   rcases k with⟨g2,k⟩|⟨g2,k⟩
   ·rcases k with⟨c2,d2,q2,k⟩|⟨c2,hS2,d2,q2,k⟩|⟨c2,q2⟩|⟨c2, -⟩|⟨c2,hS2,t2,ht2,hz2,k2⟩
    ·exact .inl ⟨g2,.inl ⟨c2,d2,q2,.inl ⟨by rw[hw];exact hg,.inr (.inl ⟨c,hS,d,fun S' h'=>hq (q S' h'),k⟩)⟩⟩⟩
    ·exact .inl ⟨g2,.inr (.inl ⟨c2,hS2,d2,q2,.inl ⟨by rw[hw];exact hg,.inr (.inl ⟨c,hS,d,fun S' h'=>hq (q S' h'),k⟩)⟩⟩)⟩
    ·exact .inl ⟨g2,.inr (.inr (.inl ⟨c2,aS (fun e S' h'=>⟨h'.1,.inl ⟨by rw[hw];exact hg,.inr (.inl ⟨c,h'.1,d,fun S'' h''=>hq (q S'' h''),h'.2⟩)⟩⟩) q2⟩))⟩
    ·rw[c,c2]at hk;exact absurd hk (by decide)
    ·exact .inl ⟨g2,.inr (.inr (.inr (.inr ⟨c2,hS2,t2,ht2,hz2,fun b hb=> .inl ⟨by rw[hw];exact hg,.inr (.inl ⟨c,Hm.cons hS _,d,fun S'' h''=>hq (q S'' h''),k2 b hb⟩)⟩⟩)))⟩
   ·exact .inr ⟨g2,.inl ⟨by rw[hw];exact hg,.inr (.inl ⟨c,hS,d,fun S' h'=>hq (q S' h'),k⟩)⟩⟩
  ·rw[c]at hk;simp[mZ]at hk
  ·rw[c]at hk;simp[mZ]at hk
  ·have hc2:cy=4:=by rw[c]at hk;simpa[mZ]using hk
   subst hc2
   rcases Classical.em (dz ops fr y.guard=some true)with g2|g2
   ·refine .inl ⟨g2,.inr (.inr (.inr (.inr ⟨rfl,hS,?_⟩)))⟩
    obtain⟨a0,ha0⟩:=Nj S.box
    have k0:iJ P w0 S0 4 ops y (pt fr x.dst (.v (.pointer (some ⟨a0,0,none⟩)))) ⟨(a0,cd (zD P t))::S.box,S.acc⟩ K:=k a0 ha0
    rw[jM b1 b2]at k0
    have gen:∀a,iX S.box a→∃t2,y.op= .alloc t2∧eK (zD P t2)=true∧∀b,iX ((a,cd (zD P t))::S.box) b→K (pt (pt fr y.dst (.v (.pointer (some ⟨b,0,none⟩)))) x.dst (.v (.pointer (some ⟨a,0,none⟩)))) ⟨(b,cd (zD P t2))::(a,cd (zD P t))::S.box,S.acc⟩:=fun a ha=>by
     have k1:iJ P w0 S0 4 ops y (pt fr x.dst (.v (.pointer (some ⟨a,0,none⟩)))) ⟨(a,cd (zD P t))::S.box,S.acc⟩ K:=k a ha
     rw[jM b1 b2]at k1
     rcases k1 with⟨-,b⟩|⟨g3, -⟩
     ·rcases b with⟨c2, -⟩|⟨c2, -⟩|⟨c2, -⟩|⟨c2, -⟩|⟨c2, -,t2,ht2,hz2,k2⟩
      ·cases c2
      ·cases c2
      ·cases c2
      ·cases c2
      ·exact⟨t2,ht2,hz2,fun b hb=>k2 b hb⟩
     ·rw[g2]at g3;cases g3
    obtain⟨t2,ht2,hz2, -⟩:=gen a0 ha0
    refine⟨t2,ht2,hz2,fun b hb=> .inl ⟨by rw[hw];exact hg,.inr (.inr (.inr (.inr ⟨c,Hm.cons hS _,t,ht,hz,fun a ha=>?_⟩)))⟩⟩
    obtain⟨t3,ht3, -,k3⟩:=gen a ha.2.2
    rw[ht2]at ht3;cases ht3
    exact hK _ ⟨(b,cd (zD P t2))::(a,cd (zD P t))::S.box,S.acc⟩ _ ⟨.swap _ _ _,.refl _⟩ (k3 b ⟨fun e=>ha.2.1 e,fun e=>ha.1 e,hb⟩)
   ·obtain⟨a0,ha0⟩:=Nj S.box
    have k0:iJ P w0 S0 4 ops y (pt fr x.dst (.v (.pointer (some ⟨a0,0,none⟩)))) ⟨(a0,cd (zD P t))::S.box,S.acc⟩ K:=k a0 ha0
    rw[jM b1 b2]at k0
    rcases k0 with⟨g3, -⟩|⟨g3, -⟩
    ·exact absurd g3 g2
    ·refine .inr ⟨g3,.inl ⟨by rw[hw];exact hg,.inr (.inr (.inr (.inr ⟨c,hS,t,ht,hz,fun a ha=>?_⟩)))⟩⟩
     have k1:iJ P w0 S0 4 ops y (pt fr x.dst (.v (.pointer (some ⟨a,0,none⟩)))) ⟨(a,cd (zD P t))::S.box,S.acc⟩ K:=k a ha
     rw[jM b1 b2]at k1
     rcases k1 with⟨g4, -⟩|⟨g4,k1⟩
     ·exact absurd g4 g2
     ·exact k1
 ·rw[jM b1 b2]at hb
  exact uQ (fun e S' hk=> .inr ⟨by rw[hw];exact hg,hk⟩) hb
theorem HK{cx cy:Nat}{x y:Oper}(hap:x.apart ops y=true)(hk:mZ cx cy=true){fr:List DV}{S:St}{K:List DV→St→Prop}(h:iJ P w0 S0 cx ops x fr S (PC fun fr S=>iJ P w0 S0 cy ops y fr S (PC K))):
 iJ P w0 S0 cy ops y fr S (PC fun fr S=>iJ P w0 S0 cx ops x fr S (PC K)):=
 kS (fun fr S h=>⟨S,.refl S,h⟩) (Cr hap hk (PC.ZS K) (kS (fun fr S ⟨T,hp,h⟩=>JL (PC.ZS K) _ _ _ hp h) h))
def lh(P:Program)(w0:W0)(S0:St)(gs ns:List Nat)(ops:Array Oper)(i:Nat)(fr:List DV)(S:St)(K:List DV→St→Prop):Prop:=match ops[i]? with
 |none=>K fr S
 |some o=>iJ P w0 S0 (cls gs ns i o.op) ops o fr S K
def Vo(P:Program)(w0:W0)(S0:St)(gs ns:List Nat)(md:Region.Mode)(ops:Array Oper)(K:List DV→St→Prop):Nat→Array Bool→List DV→St→Prop
 |0,listed,fr,S=>Region.ready md ops listed=[]∧K fr S
 |fuel+1,listed,fr,S=>(Region.ready md ops listed=[]→K fr S)∧∀i∈Region.ready md ops listed,lh P w0 S0 gs ns ops i fr S (PC (Vo P w0 S0 gs ns md ops K fuel (listed.setIfInBounds i true)))
theorem HW{gs ns D:List Nat}{K:List DV→St→Prop}{i:Nat}{oi:Oper}(hi:ops[i]? =some oi):
 ∀(fuel:Nat) (listed:Array Bool) (fr:List DV) (S:St),
  (∀j,j∈D→listed.getD j true=false∧∃oj,ops[j]? =some oj∧∃e∈oj.after,Region.binds md e=true∧(e.on=i∨e.on∈D))→
  (∀j oj,ops[j]? =some oj→j≠i→listed.getD j true=false→j∉D→oi.apart ops oj=true∧mZ (cls gs ns i oi.op) (cls gs ns j oj.op)=true)→
  (∀l:List Nat,l.Nodup→(∀k,k∈l→listed.getD k true=false)→l.length≤fuel+1)→
  i∈Region.ready md ops listed→iJ P w0 S0 (cls gs ns i oi.op) ops oi fr S (PC (Vo P w0 S0 gs ns md ops K fuel (listed.setIfInBounds i true)))→Vo P w0 S0 gs ns md ops K (fuel+1) listed fr S:=by
 intro fuel
 induction fuel with
 |zero=>
  intro listed fr S _ _ hcnt hr H
  refine⟨fun h=>(by rw[h]at hr;cases hr),fun j hj=>?_⟩
  by_cases hji:j=i
  ·subst hji;unfold lh;simp only[hi];exact H
  ·exfalso
   have:=hcnt [i,j] (by simp[Ne.symm hji]) fun k hk=>by
    simp only[List.mem_cons,List.not_mem_nil,or_false]at hk
    rcases hk with rfl|rfl
    ·exact(mem_ready.1 hr).1
    ·exact(mem_ready.1 hj).1
   simp at this
 |succ fuel ih=>
  intro listed fr S hD hfree hcnt hr H
  refine⟨fun h=>(by rw[h]at hr;cases hr),fun j hj=>?_⟩
  by_cases hji:j=i
  ·subst hji;unfold lh;simp only[hi];exact H
  ·obtain⟨hjun,oj,hoj,hall⟩:=mem_ready.1 hj
   have hlis:∀e∈oj.after,Region.binds md e=true→listed.getD e.on true=false→False:=fun e he hb h0=>by
    have h1:=hall e he hb
    rcases Nat.lt_or_ge e.on listed.size with h'|h'
    ·simp[h']at h0 h1;rw[h0]at h1;cases h1
    ·simp[Array.getElem?_eq_none h']at h1
   have hjD:j∉D:=fun hjD=>by
    obtain⟨_,oj',ho,e,he,hb,hor⟩:=hD j hjD
    rw[hoj]at ho;cases ho
    rcases hor with h|h
    ·exact hlis e he hb (by rw[h];exact(mem_ready.1 hr).1)
    ·exact hlis e he hb (hD _ h).1
   have h1:iJ P w0 S0 (cls gs ns i oi.op) ops oi fr S (PC fun fr S=>iJ P w0 S0 (cls gs ns j oj.op) ops oj fr S (PC (Vo P w0 S0 gs ns md ops K fuel ((listed.setIfInBounds i true).setIfInBounds j true)))):=
    kS (fun fr S h=>PC.mono (fun fr S h=>by
     have:=h.2 j (ready_mono hj hji)
     unfold lh at this;simp only[hoj]at this;exact this) h) H
   have hc:=hfree j oj hoj hji hjun hjD
   have h2:=HK hc.1 hc.2 h1
   have hfree':∀k ok,ops[k]? =some ok→k≠i→(listed.setIfInBounds j true).getD k true=false→k∉D→oi.apart ops ok=true∧mZ (cls gs ns i oi.op) (cls gs ns k ok.op)=true:=fun k ok hk hki hun hno=>by
    refine hfree k ok hk hki ?_ hno
    by_cases hjk:j=k
    ·subst hjk;exact hjun
    ·rw[getD_set_ne true hjk]at hun;exact hun
   have hD':∀k,k∈D→(listed.setIfInBounds j true).getD k true=false∧∃ok,ops[k]? =some ok∧∃e∈ok.after,Region.binds md e=true∧(e.on=i∨e.on∈D):=fun k hk=>by
    refine⟨?_,(hD k hk).2⟩
    rw[getD_set_ne true (show j≠k from fun e=>hjD (by rw[e];exact hk))];exact(hD k hk).1
   unfold lh
   simp only[hoj]
   have hcnt':∀l:List Nat,l.Nodup→(∀k,k∈l→(listed.setIfInBounds j true).getD k true=false)→l.length≤fuel+1:=by
    intro l hn hl
    have hjs:j<listed.size:=by
     rcases Nat.lt_or_ge j listed.size with h|h
     ·exact h
     ·rw[Array.getD_eq_getD_getElem?,Array.getElem?_eq_none h]at hjun;cases hjun
    have hjl:j∉l:=fun hj=>by
     have:=hl j hj
     rw[Array.getD_eq_getD_getElem?,Array.getElem?_setIfInBounds]at this
     simp[hjs]at this
    have:=hcnt (j::l) (List.nodup_cons.2 ⟨hjl,hn⟩) fun k hk=>by
     rcases List.mem_cons.1 hk with rfl|hk
     ·exact hjun
     ·have:=hl k hk
      rw[getD_set_ne true (show j≠k from fun e=>hjl (e▸hk))]at this
      exact this
    simp at this;omega
   refine kS (fun fr S h=>PC.mono (fun fr S h=>ih (listed.setIfInBounds j true) fr S hD' hfree' hcnt' (ready_mono hr (Ne.symm hji)) ?_) h) h2
   rw[Array.setIfInBounds_comm _ _ hji]
   exact h
def Zg(md:Region.Mode)(ops:Array Oper)(listed:Array Bool)(i:Nat):List Nat:=(List.range ops.size).foldl (fun D j=>match ops[j]? with
 |some oj=>if !(j==i)&&!listed.getD j true&&oj.after.any (fun e=>Region.binds md e&&(e.on==i||D.contains e.on))then j::D else D
 |none=>D) []
def BG(gs ns:List Nat)(md:Region.Mode)(ops:Array Oper)(listed:Array Bool)(i:Nat)(D:List Nat):Bool:=(D.all fun j=>!listed.getD j true&&match ops[j]? with
 |some oj=>oj.after.any (fun e=>Region.binds md e&&(e.on==i||D.contains e.on))
 |none=>false)&&(List.range ops.size).all fun j=>match ops[i]?,ops[j]? with
 |some oi,some oj=>j==i||listed.getD j true||D.contains j||(oi.apart ops oj&&mZ (cls gs ns i oi.op) (cls gs ns j oj.op))
 |_,_=>false
def XN(gs ns:List Nat)(md:Region.Mode)(ops:Array Oper)(listed:Array Bool)(i:Nat):Bool:=BG gs ns md ops listed i (Zg md ops listed i)
def HH(gs ns:List Nat)(md:Region.Mode)(ops:Array Oper):List Nat→Array Bool→Bool
 |[],listed=>(Region.ready md ops listed).isEmpty
 |k::ks,listed=>(Region.ready md ops listed).contains k&&XN gs ns md ops listed k&&HH gs ns md ops ks (listed.setIfInBounds k true)
theorem Gm{gs ns D:List Nat}{listed:Array Bool}{i:Nat}(h:BG gs ns md ops listed i D=true):∀j,j∈D→listed.getD j true=false∧∃oj,ops[j]? =some oj∧∃e∈oj.after,Region.binds md e=true∧(e.on=i∨e.on∈D):=by
 intro j hj
 simp only[BG,Bool.and_eq_true]at h
 have:=List.all_eq_true.1 h.1 j hj
 simp only[Bool.and_eq_true,Bool.not_eq_true']at this
 refine⟨this.1,?_⟩
 obtain⟨-,h2⟩:=this
 split at h2
 ·rename_i oj ho
  obtain⟨e,he,h3⟩:=Array.any_eq_true'.1 h2
  simp only[Bool.and_eq_true,Bool.or_eq_true,beq_iff_eq,List.contains_iff_mem]at h3
  exact⟨oj,ho,e,he,h3⟩
 ·cases h2
theorem Dy{gs ns D:List Nat}{listed:Array Bool}{i:Nat}{oi:Oper}(hi:ops[i]? =some oi)(h:BG gs ns md ops listed i D=true):∀j oj,ops[j]? =some oj→j≠i→listed.getD j true=false→j∉D→oi.apart ops oj=true∧mZ (cls gs ns i oi.op) (cls gs ns j oj.op)=true:=by
 intro j oj hj hji hun hno
 simp only[BG,Bool.and_eq_true]at h
 have hlt:j<ops.size:=(Array.getElem?_eq_some_iff.1 hj).1
 have:=List.all_eq_true.1 h.2 j (List.mem_range.2 hlt)
 simp only[hi,hj,hun,Bool.or_false,Bool.or_eq_true,beq_iff_eq,Bool.and_eq_true,List.contains_iff_mem]at this
 rcases this with(h|h)|h
 ·exact absurd h hji
 ·exact absurd h hno
 ·exact h
def LO(P:Program)(w0:W0)(S0:St)(gs ns:List Nat)(ops:Array Oper)(K:List DV→St→Prop):List Nat→List DV→St→Prop
 |[],fr,S=>K fr S
 |i::is,fr,S=>match ops[i]? with
  |none=>False
  |some o=>iJ P w0 S0 (cls gs ns i o.op) ops o fr S (LO P w0 S0 gs ns ops K is)
theorem Fh{gs ns:List Nat}{K:List DV→St→Prop}:∀(l:List Nat) (listed:Array Bool) (fr:List DV) (S:St),
 (∀l':List Nat,l'.Nodup→(∀k,k∈l'→listed.getD k true=false)→l'.length≤l.length)→
 HH gs ns md ops l listed=true→LO P w0 S0 gs ns ops K l fr S→Vo P w0 S0 gs ns md ops K l.length listed fr S
 |[],_,_,_,_,hB,h=>⟨by simpa[HH]using hB,h⟩
 |k::l,listed,fr,S,hcnt,hB,h=>by
  simp only[List.length_cons,HH,Bool.and_eq_true]at hB
  obtain⟨⟨hr,hf⟩,hB'⟩:=hB
  have hr':k∈Region.ready md ops listed:=by simpa using hr
  have hun:=(mem_ready.1 hr').1
  unfold LO at h
  split at h
  ·exact h.elim
  rename_i o h0
  refine HW h0 l.length listed fr S (Gm hf) (Dy h0 hf) (by simpa using hcnt) hr' ?_
  refine kS (fun fr S h=>⟨S,.refl S,Fh l _ fr S ?_ hB' h⟩) h
  intro l' hn hl'
  have hks:k<listed.size:=by
   rcases Nat.lt_or_ge k listed.size with h|h
   ·exact h
   ·rw[Array.getD_eq_getD_getElem?,Array.getElem?_eq_none h]at hun;cases hun
  have hkl:k∉l':=fun hk=>by
   have:=hl' k hk
   rw[Array.getD_eq_getD_getElem?,Array.getElem?_setIfInBounds]at this
   simp[hks]at this
  have:=hcnt (k::l') (List.nodup_cons.2 ⟨hkl,hn⟩) fun m hm=>by
   rcases List.mem_cons.1 hm with rfl|hm
   ·exact hun
   ·have:=hl' m hm
    rw[getD_set_ne true (show k≠m from fun e=>hkl (e▸hm))]at this
    exact this
  simp at this;omega
theorem yV{c:Nat}{o:Oper}{fr:List DV}{S:St}{K:List DV→St→Prop}(h:nm P w0 S0 c o fr S K):an P w0 o (ev fr) S fun d S'=>K (pt fr o.dst d) S':=by
 rcases h with⟨c,d,q,k⟩|⟨c,hS,d,q,k⟩|⟨c,q⟩|⟨c,q⟩|⟨c,hS,t,ht,hz,k⟩
 ·exact aS (fun d' S' h=>by rw[h.1,h.2];exact k) (q S)
 ·exact aS (fun d' S' h=>by rw[h.1,h.2];exact k) (q S hS)
 ·exact aS (fun d' S' h=>h.2) q
 ·exact q
 ·exact sn ht ⟨hz,k⟩
theorem lP{gs ns:List Nat}{ro:Option Nat}{g0:Gh}{Q:Exit→List DV→St→Prop}:∀(fuel:Nat) (listed:Array Bool) (fr:List DV) (S:St) (g:Gh) (a:Act) (w:World),g0.le g→Rel w0 g S w→aj g fr a.tmps.toList→Dk w0 g.obj a w→
 Vo P w0 S0 gs ns md ops (fun fr S=>Q .normal fr S) fuel listed fr S→wpAnyIn (fz ro) 0 P md ops (Good w0 g0 Q) fuel listed a w
 |0,listed,fr,S,g,a,w,k,h1,h2,h3,h=>⟨h.1,k.kd h3,g,fr,S,k,h1,h2,h.2⟩
 |fuel+1,listed,fr,S,g,a,w,k,h1,h2,h3,h=>by
  refine⟨fun h0=>⟨k.kd h3,g,fr,S,k,h1,h2,h.1 h0⟩,fun i hi=>?_⟩
  have hq:=h.2 i hi
  unfold lh at hq
  unfold wpOpIn
  split
  ·rename_i ho;simp only[ho]at hq;obtain⟨T,hp,hq⟩:=hq;exact lP fuel _ fr T g a w k (hp.symm.rel h1) h2 h3 hq
  ·rename_i o ho
   simp only[ho]at hq
   rcases hq with⟨hw,hb⟩|⟨hw,hk⟩
   ·have hw':=eE (o:=o) h2 hw
    rw[if_pos hw']
    refine dQ (yV hb) h1 (fun x _=>nr h2 x) h3 fun g' d' u S' w' k1 k2 k3 k4 k5=>?_
    obtain⟨T,hp,k4⟩:=k4
    exact lP fuel _ _ _ g' _ _ (k.trans k1) (hp.symm.rel k2) (dq (h2.mono k1) _ k3) (k1.dk k5) k4
   ·have hw':=eE (o:=o) h2 hw
    rw[if_neg (by simp[hw'])]
    obtain⟨T,hp,hk⟩:=hk;exact⟨fun _ _=>trivial,lP fuel _ _ _ g _ _ k (hp.symm.rel h1) (dq h2 _ (jL g)) (h3.keep (put_defers _ _ _) fun _ _ h _=>h) hk⟩
theorem qX{id:Nat}{l:List Oper}{gs ns ord:List Nat}{fr:List DV}{S:St}{Q:Exit→List DV→St→Prop}(hm:P.follows .mixedOrders=true)(hB:HH gs ns .any l.toArray ord (Array.replicate l.length false)=true)(hO:ord.length=l.length)(h:LO P w0 S0 gs ns l.toArray (fun fr S=>Q .normal fr S) ord fr S):fW P w0 (.region id l.toArray true) fr S Q:=by
 intro g a w h1 h2 h3
 refine gx hm fun ro=>?_
 have hR:Rel w0 g S {w with drawn:=w.drawn+1}:=h1.grow (l5 w)
 have hcnt:∀l':List Nat,l'.Nodup→(∀k,k∈l'→(Array.replicate l.length false).getD k true=false)→l'.length≤ord.length:=by
  intro l' hn hl
  have hsub:∀k,k∈l'→k∈List.range l.length:=fun k hk=>by
   have:=hl k hk
   rw[List.mem_range]
   rcases Nat.lt_or_ge k l.length with h|h
   ·exact h
   ·rw[Array.getD_eq_getD_getElem?,Array.getElem?_eq_none (by simpa using h)]at this;cases this
  have:=hn.length_le_of_subset (l₂:=List.range l.length) hsub
  rw[hO];simpa using this
 have:=Fh (P:=P) (w0:=w0) (S0:=S0) (md:= .any) (ops:=l.toArray) ord (Array.replicate l.length false) fr S hcnt hB h
 have:=lP (ro:=ro) (g0:=g) (Q:=Q) _ _ fr S g a _ (.refl g) hR h2 (h3.keep rfl fun _ _ h _=>h) this
 rw[hO]at this
 simpa using this
theorem Cm{m:Option (KK×DV)}{S T:St}{x y:DV}{ok:Bool}{K:DV→Prop}(hT:Has S T)(h:dv m S x y ok K):dv m T x y ok K:=by
 unfold dv at*
 cases m with
 |none=>exact h.elim
 |some p=>
  obtain⟨h1,h2⟩:=h
  refine⟨h1,?_⟩
  cases hk:ry y with
  |none=>rw[hk]at h2;exact h2.elim
  |some k=>
   rw[hk]at h2
   obtain⟨h3,h4⟩:=h2
   refine⟨h3,?_⟩
   cases x with
   |mp l=>
    simp only at h4 ⊢
    cases hl:lk S.acc l with
    |none=>rw[hl]at h4;exact h4.elim
    |some o=>rw[hT.acc _ _ hl];rw[hl]at h4;exact h4
   |v u=>
    cases u with
    |map o=>cases o <;>exact h4
    |_=>exact h4
   |_=>exact h4
theorem Jf{k:TK}{S T:St}{x:DV}{K:DV→Prop}(hT:Has S T)(h:bR k S x K):bR k T x K:=by
 unfold bR at*
 split at h
 ·split at h
  ·rename_i ds hb
   simp only[hT.box _ _ hb]
   exact h
  ·exact h.elim
 ·exact h
 ·split at h
  ·rename_i hb
   simp only[hT.acc _ _ hb]
   exact h
  ·rename_i hb
   simp only[hT.acc _ _ hb]
   exact h
  ·exact h.elim
 ·exact h.elim
end
def QO(P:Program)(w0:W0)(S0:St)(f:FuncId)(ds:List DV)[K:Cn (DV→Prop)]:Prop:=∃d,(∀T,Has S0 T→aa P w0 f ds T fun d' S'=>d'=d∧S'=T)∧K.k d
def qp(P:Program)(w0:W0)(S0:St)(cal:DV)(ds:List DV)(K:DV→Prop):Prop:=match cal with
 | .v (.func (.func f) a cap)=>a.size=0∧okF P f=true∧cap.toList.all (fun u=>u.oneCell')=true∧ds.all gu=true∧@QO P w0 S0 f (ds++cap.toList.map .v) ⟨K⟩
 |_=>False
def vE(P:Program)(w0:W0)(S0:St)(op:Op)(fr:List DV)(S:St)(K:DV→St→Prop):Prop:=match op with
 | .load t x=>Has S0 S∧bR (tk P t) S0 (ev fr x) (K · S)
 | .call ⟨.value cal,args,_⟩=>Has S0 S∧qp P w0 S0 (ev fr cal) (args.toList.map (ev fr)) (K · S)
 | .alloc t=>Has S0 S∧eK (zD P t)=true∧EJ S (zD P t) K
 | .lookup t x y ok=>Has S0 S∧dv (sk P t) S0 (ev fr x) (ev fr y) ok (K · S)
 |op=>eO (Z.kX op==0) (BW P w0 op fr S (K · S)) (aJ P w0 op fr S K)
def Wq(P:Program)(w0:W0)(S0:St)(gs ns:List Nat)(i:Nat)(op:Op)(fr:List DV)(S:St)(K:DV→St→Prop):Prop:=
 eO (gs.contains i) (aJ P w0 op fr S fun d S'=>Has S0 S'∧K d S') (eO (ns.contains i) (aJ P w0 op fr S K) (vE P w0 S0 op fr S K))
def wg(P:Program)(w0:W0)(S0:St)(gs ns:List Nat)(ops:Array Oper)(K:List DV→St→Prop)(oo:Option Oper)(i:Nat)(fr:List DV)(S:St):Prop:=match oo with
 |none=>False
 |some o=>cj ops fr o.guard (fun fr=>Wq P w0 S0 gs ns i o.op fr S fun d S'=>K (pt fr o.dst d) S') (fun fr=>K (pt fr o.dst ud) S)
def yG(P:Program)(w0:W0)(S0:St)(gs ns:List Nat)(ops:Array Oper)(K:List DV→St→Prop):List Nat→List DV→St→Prop
 |[],fr,S=>K fr S
 |i::is,fr,S=>wg P w0 S0 gs ns ops (yG P w0 S0 gs ns ops K is) ops[i]? i fr S
section
variable {P:Program} {w0:W0} {S0:St} {ops:Array Oper} {md:Region.Mode}
theorem KU{S0:St}{o:Oper}{fr:List DV}{d:DV}(q:∀T,Has S0 T→QY P w0 T o fr d)(T:St)(hT:Hm S0 T):QY P w0 T o fr d:=fun g w ρ r=>q T (hT.has r) g w ρ r
theorem F7{gs ns:List Nat}{i:Nat}{o:Oper}{fr:List DV}{S:St}{K:List DV→St→Prop}(hs:hJ o.op=true)(h:Wq P w0 S0 gs ns i o.op fr S fun d S'=>K (pt fr o.dst d) S'):nm P w0 S0 (cls gs ns i o.op) o fr S K:=by
 unfold Wq at h
 cases hg:gs.contains i with
 |true=>
  rw[hg]at h
  have hc:cls gs ns i o.op=2:=by unfold cls;rw[if_pos hg]
  rw[hc]
  have h':aJ P w0 o.op fr S fun d S'=>Has S0 S'∧K (pt fr o.dst d) S':=h
  exact .inr (.inr (.inl ⟨rfl,aS (fun d S' hk=>⟨.of hk.1,hk.2⟩) (bH hs h')⟩))
 |false=>
  rw[hg]at h
  cases hn:ns.contains i with
  |true=>
   rw[hn]at h
   have hc:cls gs ns i o.op=3:=by unfold cls;rw[if_neg (by rw[hg];simp),if_pos hn]
   rw[hc]
   exact .inr (.inr (.inr (.inl ⟨rfl,bH hs h⟩)))
  |false=>
   rw[hn]at h
   have hc:cls gs ns i o.op=(match kY o.op with|0=>0|1=>1|2=>4|_=>3):=by unfold cls;rw[if_neg (by rw[hg];simp),if_neg (by rw[hn];simp)]
   rw[hc]
   replace h:vE P w0 S0 o.op fr S fun d S'=>K (pt fr o.dst d) S':=h
   have gen:∀(h:eO (Z.kX o.op==0) (BW P w0 o.op fr S fun d=>K (pt fr o.dst d) S) (aJ P w0 o.op fr S fun d S'=>K (pt fr o.dst d) S')),Z.kX o.op=0∨Z.kX o.op=3→kY o.op=Z.kX o.op→nm P w0 S0 (match kY o.op with|0=>0|1=>1|2=>4|_=>3) o fr S K:=by
    intro h hk hkk
    rw[hkk]
    rcases hk with hk|hk
    ·rw[hk]at h ⊢
     obtain⟨d,q1,q2⟩:=Z.wP hk (show BW P w0 o.op fr S fun d=>K (pt fr o.dst d) S from h)
     exact .inl ⟨rfl,d,fun S'=>by
      obtain⟨d',k1,k2⟩:=wN hs (q1 S')
      subst k2;exact k1,q2⟩
    ·rw[hk]at h ⊢
     exact .inr (.inr (.inr (.inl ⟨rfl,bH hs h⟩)))
   cases hop:o.op with
   |load t x=>
    rw[hop]at h hs
    obtain⟨hS,h⟩:=h
    obtain⟨d,q1,q2⟩:=pa (show bR (tk P t) S0 (ev fr x) (fun d=>K (pt fr o.dst d) S)from h)
    refine .inr (.inl ⟨rfl,.of hS,d,KU fun T hT=>?_,q2⟩)
    exact bH (by rw[hop];exact hs) (by rw[hop];simpa[aJ]using Jf hT q1)
   |alloc t=>
    rw[hop]at h
    exact .inr (.inr (.inr (.inr ⟨rfl,.of h.1,t,hop,h.2.1,h.2.2⟩)))
   |call c=>
    obtain⟨callee,args,ts⟩:=c
    cases callee with
    |value cal=>
     rw[hop]at h hs
     obtain⟨hS,h⟩:=h
     simp only[qp]at h
     split at h
     ·rename_i f a cap hcal
      obtain⟨h1,h2,h3,h4,d,h5,h6⟩:=h
      refine .inr (.inl ⟨rfl,.of hS,d,KU fun T hT=>?_,h6⟩)
      exact bH (by rw[hop];exact hs) (by rw[hop];simp only[aJ,hcal];exact o8 h1 h3 (by rw[h2,Le];exact mP h4 (h5 T hT)))
     ·exact h.elim
    |builtin b=>
     rw[←hop]
     refine gen (by rw[hop]at h ⊢;exact h) ?_ (by rw[hop];rfl)
     rw[hop]
     cases b <;>first|exact .inl rfl|exact .inr rfl
    |invoke r m=>
     rw[←hop]
     refine gen (by rw[hop]at h ⊢;exact h) ?_ (by rw[hop];rfl)
     rw[hop];exact .inr rfl
   |lookup t x y ok=>
    rw[hop]at h hs
    obtain⟨hS,h⟩:=h
    obtain⟨d,q1,q2⟩:=uT (show dv (sk P t) S0 (ev fr x) (ev fr y) ok (fun d=>K (pt fr o.dst d) S)from h)
    refine .inr (.inl ⟨rfl,.of hS,d,KU fun T hT=>?_,q2⟩)
    exact bH (by rw[hop];exact hs) (by rw[hop];simpa[aJ]using Cm hT q1)
   |_=>rw[←hop];refine gen (by rw[hop]at h ⊢;exact h) ?_ (by rw[hop];rfl);rw[hop];first|exact .inl rfl|exact .inr rfl
theorem jI{gs ns:List Nat}{K:List DV→St→Prop}(hs:∀(i:Nat) (o:Oper),ops[i]? =some o→hJ o.op=true):∀(l:List Nat) {fr:List DV} {S:St},yG P w0 S0 gs ns ops K l fr S→LO P w0 S0 gs ns ops K l fr S
 |[],fr,S,h=>h
 |i::is,fr,S,h=>by
  unfold yG wg at h
  unfold LO
  cases ho:ops[i]? with
  |none=>rw[ho]at h;exact h
  |some o=>
   rw[ho]at h
   simp only at h ⊢
   rcases j8 h with⟨hw,ha⟩|⟨hw,hb⟩
   ·exact .inl ⟨hw,s9 (fun fr S h=>jI hs is h) (F7 (hs i o ho) ha)⟩
   ·exact .inr ⟨hw,jI hs is hb⟩
def Vu(l:List Oper)(gs ns ord:List Nat):Bool:=l.all (fun o=>hJ o.op)&&HH gs ns .any l.toArray ord (Array.replicate l.length false)&&(ord.length==l.length)
theorem mn(gs ns ord:List Nat){id:Nat}{l:List Oper}{fr:List DV}{S:St}{Q:Exit→List DV→St→Prop}(hm:P.follows .mixedOrders=true)(hB:Vu l gs ns ord=true)(h:yG P w0 S gs ns l.toArray (fun fr S=>jx fr fun fr=>Q .normal fr S) ord fr S):fW P w0 (.region id l.toArray true) fr S Q:=by
 simp only[Vu,Bool.and_eq_true,beq_iff_eq]at hB
 refine qX hm hB.1.2 hB.2 (jI (fun i o ho=>?_) ord h)
 have:l[i]? =some o:=by simpa using ho
 exact List.all_eq_true.1 hB.1.1 o (List.mem_of_getElem? this)
def IM:List Nat→Nat→Prop
 |[],_=>False
 |a::L,b=>a=b∨IM L b
noncomputable def NM(L:List Nat)(S:St):St:=⟨S.box.filter fun p=>@decide (¬IM L p.1) (Classical.propDecidable _),S.acc⟩
theorem tK{L:List Nat}{S:St}{b:Nat}(h:¬IM L b):lk (NM L S).box b=lk S.box b:=by
 obtain⟨B,A⟩:=S
 show lk (B.filter _) b=lk B b
 induction B with
 |nil=>rfl
 |cons p B ih=>
  obtain⟨k,x⟩:=p
  rw[List.filter_cons]
  split
  ·simp only[lk,ih]
  ·rename_i hn
   have hk:¬k=b:=fun e=>hn (by subst e;exact @decide_eq_true _ (Classical.propDecidable _) h)
   rw[ih];simp only[lk,if_neg hk]
theorem nD{L:List Nat}{S:St}{b:Nat}(h:IM L b):lk (NM L S).box b=none:=by
 obtain⟨B,A⟩:=S
 show lk (B.filter _) b=none
 induction B with
 |nil=>rfl
 |cons p B ih=>
  obtain⟨k,x⟩:=p
  rw[List.filter_cons]
  split
  ·rename_i hn
   have hk:¬k=b:=fun e=>by
    subst e
    exact(@of_decide_eq_true _ (Classical.propDecidable _) hn) h
   simp only[lk,if_neg hk];exact ih
  ·exact ih
theorem Ql(L:List Nat)(S:St):Has (NM L S) S:=⟨fun b x hb=>by
 by_cases h:IM L b
 ·rw[nD h]at hb;cases hb
 ·rwa [tK h]at hb,fun l o hl=>hl⟩
theorem T7(L gs ns ord:List Nat){id:Nat}{l:List Oper}{fr:List DV}{S:St}{Q:Exit→List DV→St→Prop}(hm:P.follows .mixedOrders=true)(hB:Vu l gs ns ord=true)(h:yG P w0 (NM L S) gs ns l.toArray (fun fr S=>jx fr fun fr=>Q .normal fr S) ord fr S):fW P w0 (.region id l.toArray true) fr S Q:=by
 simp only[Vu,Bool.and_eq_true,beq_iff_eq]at hB
 refine qX hm hB.1.2 hB.2 (jI (fun i o ho=>?_) ord h)
 have:l[i]? =some o:=by simpa using ho
 exact List.all_eq_true.1 hB.1.1 o (List.mem_of_getElem? this)
theorem uO{f:FuncId}{args args':List DV}{K:DV→Prop}{r:DV}(h:∀T,Has S0 T→aa P w0 f args' T (fun d S'=>d=r∧S'=T))(hk:K r)(ha:gk args args':=by exact gk.refl _):@QO P w0 S0 f args ⟨K⟩:=
 ⟨r,fun T hT=>kR (h T hT) ha ⟨rfl,rfl⟩,hk⟩
end
section
variable {P:Program} {w0:W0} {S0:St} {gs ns:List Nat} {ops:Array Oper} {fr:List DV} {S:St} {dst:Option Tmp} {op:Op} {ty:TypeId} {pos:String} {aft:Array Edge}
section
variable {K:List DV→St→Prop}
theorem Wn:yG P w0 S0 gs ns ops K [] fr S=K fr S:=rfl
theorem Td(i:Nat)(is:List Nat):yG P w0 S0 gs ns ops K (i::is) fr S=wg P w0 S0 gs ns ops (yG P w0 S0 gs ns ops K is) ops[i]? i fr S:=rfl
@[congr] theorem XZ {oo oo':Option Oper} {i:Nat} (h:oo=oo'):wg P w0 S0 gs ns ops K oo i fr S=wg P w0 S0 gs ns ops K oo' i fr S:=by cases h;rfl
theorem Su(i:Nat):wg P w0 S0 gs ns ops K (some ⟨dst,op,ty,pos,aft,none⟩) i fr S=Wq P w0 S0 gs ns i op fr S fun d S'=>K (pt fr dst d) S':=rfl
end
variable {K:DV→St→Prop}
theorem ZE(i:Nat):Wq P w0 S0 gs ns i op fr S K=eO (gs.contains i) (aJ P w0 op fr S fun d S'=>Has S0 S'∧K d S') (eO (ns.contains i) (aJ P w0 op fr S K) (vE P w0 S0 op fr S K)):=rfl
theorem UT(t:TypeId)(x:Operand):vE P w0 S0 (.load t x) fr S K=(Has S0 S∧bR (tk P t) S0 (ev fr x) (K · S)):=rfl
theorem Q1(t:TypeId):vE P w0 S0 (.alloc t) fr S K=(Has S0 S∧eK (zD P t)=true∧EJ S (zD P t) K):=rfl
theorem Us(cal:Operand)(a:List Operand)(ts:Array TypeId):vE P w0 S0 (.call ⟨.value cal,a.toArray,ts⟩) fr S K=(Has S0 S∧qp P w0 S0 (ev fr cal) (a.map (ev fr)) (K · S)):=rfl
theorem OI(f:FuncId)(a cap:Array Value)(ds:List DV)(K:DV→Prop):qp P w0 S0 (.v (.func (.func f) a cap)) ds K=(a.size=0∧okF P f=true∧cap.toList.all (fun u=>u.oneCell')=true∧ds.all gu=true∧@QO P w0 S0 f (ds++cap.toList.map .v) ⟨K⟩):=rfl
@[congr] theorem Xw {cal cal':DV} {ds ds':List DV} {K:DV→Prop} (h1:cal=cal') (h2:ds=ds'):qp P w0 S0 cal ds K=qp P w0 S0 cal' ds' K:=by cases h1;cases h2;rfl
theorem SU(x:Operand):vE P w0 S0 (.move x) fr S K=aF P w0 (.move x) fr S (K · S):=rfl
theorem I8(x:Operand):vE P w0 S0 (.assign x) fr S K=aF P w0 (.assign x) fr S (K · S):=rfl
theorem zK(t:TypeId)(x:Operand)(f:Nat):vE P w0 S0 (.fieldAddr t x f) fr S K=aF P w0 (.fieldAddr t x f) fr S (K · S):=rfl
theorem A4(t:TypeId)(x i:Operand):vE P w0 S0 (.indexAddr t x i) fr S K=aF P w0 (.indexAddr t x i) fr S (K · S):=rfl
theorem HG(x:Operand)(i:Nat):vE P w0 S0 (.extract x i) fr S K=aF P w0 (.extract x i) fr S (K · S):=rfl
theorem C7(x:Operand):vE P w0 S0 (.nilCheck x) fr S K=aF P w0 (.nilCheck x) fr S (K · S):=rfl
theorem Oh(b:BinOp)(t:TypeId)(x y:Operand)(t':TypeId):vE P w0 S0 (.binOp b t x y t') fr S K=aF P w0 (.binOp b t x y t') fr S (K · S):=rfl
theorem CH(fn:Fn)(a b:Array Operand):vE P w0 S0 (.makeFunc fn a b) fr S K=aF P w0 (.makeFunc fn a b) fr S (K · S):=rfl
theorem Qa(t:TypeId)(x:Operand)(lo hi mx:Option Operand):vE P w0 S0 (.slice t x lo hi mx) fr S K=aF P w0 (.slice t x lo hi mx) fr S (K · S):=rfl
theorem Ri(t:TypeId)(parts:Array (Nat×Operand)):vE P w0 S0 (.build t parts) fr S K=aF P w0 (.build t parts) fr S (K · S):=rfl
theorem yo(t:TypeId)(len:Nat)(parts:Array (Nat×Operand)):vE P w0 S0 (.buildSlice t len parts) fr S K=aF P w0 (.buildSlice t len parts) fr S (K · S):=rfl
theorem Oe(t:TypeId)(x y:Operand):vE P w0 S0 (.store t x y) fr S K=aJ P w0 (.store t x y) fr S K:=rfl
theorem Ou(a:Array Operand)(ts:Array TypeId):vE P w0 S0 (.call ⟨.builtin .len,a,ts⟩) fr S K=aF P w0 (.call ⟨.builtin .len,a,ts⟩) fr S (K · S):=rfl
theorem QD(a:Array Operand)(ts:Array TypeId):vE P w0 S0 (.call ⟨.builtin .max,a,ts⟩) fr S K=aF P w0 (.call ⟨.builtin .max,a,ts⟩) fr S (K · S):=rfl
theorem JU(S:St):Has S S=True:=eq_true (.refl S)
theorem Qv{S0:St}{B:List (Nat×List DV)}{A:List (Nat×Ob)}(b:Nat)(v:List DV)(hb:lk S0.box b=none)(h:Has S0 ⟨B,A⟩):Has S0 ⟨(b,v)::B,A⟩=True:=eq_true ⟨fun c x hc=>by
 have h1:=h.box c x hc
 show lk ((b,v)::B) c=some x
 rw[pQ (fun e=>by rw[←e,hb]at hc;cases hc)];exact h1,h.acc⟩
theorem OM{S0:St}{B:List (Nat×List DV)}{A:List (Nat×Ob)}(l:Nat)(v:Ob)(hb:lk S0.acc l=none)(h:Has S0 ⟨B,A⟩):Has S0 ⟨B,(l,v)::A⟩=True:=eq_true ⟨h.box,fun c x hc=>by
 have h1:=h.acc c x hc
 show lk ((l,v)::A) c=some x
 rw[pQ (fun e=>by rw[←e,hb]at hc;cases hc)];exact h1⟩
theorem O8(b:Nat):IM [] b=False:=rfl
theorem JN(a:Nat)(L:List Nat)(b:Nat):IM (a::L) b=(a=b∨IM L b):=rfl
theorem IQ(L:List Nat)(S:St):Has (NM L S) S=True:=eq_true (Ql L S)
theorem MM{L:List Nat}{B B':List (Nat×List DV)}{A A':List (Nat×Ob)}(h:Has (NM L ⟨B,A⟩) ⟨B',A'⟩){c:Nat}{x:List DV}(hc:¬IM L c)(hx:lk B c=some x):lk B' c=some x:=
 h.box c x (by rw[tK hc];exact hx)
theorem KP{L:List Nat}{B B':List (Nat×List DV)}{A A':List (Nat×Ob)}(b:Nat)(v:List DV)(h:Has (NM L ⟨B,A⟩) ⟨B',A'⟩):Has (NM L ⟨(b,v)::B,A⟩) ⟨(b,v)::B',A'⟩=True:=eq_true ⟨fun c x hc=>by
 by_cases hL:IM L c
 ·rw[nD hL]at hc;cases hc
 ·rw[tK hL]at hc
  show lk ((b,v)::B') c=some x
  simp only[lk]at hc ⊢
  split
  ·rename_i e;rw[if_pos e]at hc;exact hc
  ·rename_i e;rw[if_neg e]at hc;exact MM h hL hc,h.acc⟩
theorem GS{L:List Nat}{B B':List (Nat×List DV)}{A A':List (Nat×Ob)}(b:Nat)(v w:List DV)(hi:IM L b)(h:Has (NM L ⟨B,A⟩) ⟨B',A'⟩):Has (NM L ⟨(b,v)::B,A⟩) ⟨(b,w)::B',A'⟩=True:=eq_true ⟨fun c x hc=>by
 by_cases hL:IM L c
 ·rw[nD hL]at hc;cases hc
 ·rw[tK hL]at hc
  have hne:¬b=c:=fun e=>hL (e▸hi)
  show lk ((b,w)::B') c=some x
  simp only[lk,if_neg hne]at hc ⊢
  exact MM h hL hc,h.acc⟩
def Yk{α:Type}(l' l:List (Nat×α)):Prop:=∃p,l=p++l'
theorem MS{α:Type}(l:List (Nat×α)):Yk l l=True:=eq_true ⟨[],rfl⟩
theorem Ks{α:Type}(x:Nat×α)(l' l:List (Nat×α))(h:Yk l' l):Yk l' (x::l)=True:=eq_true (let⟨p,e⟩:=h;⟨x::p,by rw[e];rfl⟩)
theorem UZ{α:Type}{l' l:List (Nat×α)}(b:FN l)(h:Yk l' l):lk l' b.n=none:=by
 obtain⟨p,e⟩:=h
 subst e
 refine ng (di fun q hq=>j9 b.h q (List.mem_append_right _ hq))
end
attribute [go_sem ↓] Wn Td ZE UT Q1 Us OI SU I8 zK A4 HG C7 Oh CH Qa Ri yo Oe Ou QD
attribute [go_sem] Su JU Qv OM MS Ks UZ O8 JN IQ KP GS tK nD
end Aml.Y
