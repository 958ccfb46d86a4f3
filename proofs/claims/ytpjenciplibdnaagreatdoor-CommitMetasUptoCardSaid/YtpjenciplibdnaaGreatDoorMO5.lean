/-
  Putting and deleting keep trees that may be; their entries are the old ones with one more, or less: plain laws; Trees marked as laid, and as the program has them; walked; Trees, as the program has them; Trees of the program, and the iterator over their nodes; DERIVED: THE SHELF's CONTRACTS AT THIS DUMP, IN PLAIN WORDS (tools/lay-plain.mjs out of 'TryzShelf.lean', which tools/lay-shelf.mjs wrote): THE SAME DECLARATIONS UNDER THE SAME NAMES: 'import', 'namespace', 'open', 'def', 'theorem' AND NOTHING ELSE: no command of the shelf's: FOR A HAND-IN. Each laying: the table of numbers ('.._ren') and one theorem, a field a fact of the dump's own or the kernel's comparison; each contract: ONE APPLICATION; The library's sort of ints, as the walk speaks; How many pages a tree takes, and which it has: the program; Which pages a tree has lost: the program; Trees as the program has them; the laws of marked ones; What the functions of pools compute; Rows of pages; rooms; what is the same; Numbers put together, in order; Numbers in order, as the document has them; the plain laws of order; What the reference tells of a tree's pages; What trees keep when they are mended: whatever cells tell; pages are never new: plain laws; What the reference tells of a tree's pages, and of lost ones; The trees of steps, by the references; The example of the statement is as it says; Marked trees: their pages, and how many are taken: plain laws; What the trees of steps are: plain laws; A value of the same size is put: plain laws; What is laid holds clean entries alone, and the way to an entry that isn't clean is fresh: plain laws; Entries from a key on, by a stack of nodes and places; Numbers, sums and pages as texts: what the reference computes; Statements whose order is open, walked in an order of one's own: what looks at no store, what reads the store of the beginning, what keeps it, what else there is; An own row as a box, and back; Entries of the model: strings compared, rows that lie apart. By an AI agent.
-/
import Derived.Test.YtpjenciplibdnaaGreatDoorMO4
import Derived.Shelf.Small.Bits
import Derived.Shelf.Strconv.Itoa0
import Derived.Shelf.Sort.Plain
import Derived.Ground.Names2Prog
import Derived.Shelf.Slices.SearchI
import Derived.Shelf.Slices.In.SortNone
import Derived.Shelf.Slices.Empties
import Derived.Test.YtpjenciplibdnaaGreatDoorProg
import Derived.Test.YtpjenciplibdnaaGreatDoorMO3
import Derived.Sort.Grow
import Derived.Lib.Bytealg
import Derived.Lib.Overlaps
set_option linter.unusedVariables false
set_option linter.unusedSimpArgs false
set_option maxRecDepth 100000
set_option maxHeartbeats 16000000
namespace Go.Proofs.YtpjenciplibdnaaGreatDoor
open Aml Go
def pI(key val:ByteArray)(l:List C):List C:=l.filter (fun c=>cH c.key key)++ .mk key val [] []::l.filter (fun c=>cH key c.key)
def Bh(key:ByteArray)(l:List C):List C:=l.filter fun c=>!eS c.key key
theorem eQ{p:C→Bool}{l:List C}(h:∀a,a∈l→p a=true):l.filter p=l:=List.filter_eq_self.2 h
theorem jG{p:C→Bool}{l:List C}(h:∀a,a∈l→p a=false):l.filter p=[]:=List.filter_eq_nil_iff.2 fun a ha=>by rw[h a ha];simp
theorem qI(key:ByteArray):∀{l:List C},dm l→∃A B,l=A++B∧(∀a,a∈A→cH a.key key=true)∧∀b,b∈B→cH b.key key=false
 |[],_=>⟨[],[],rfl,fun a h=>(by cases h),fun a h=>(by cases h)⟩
 |c::l,h=>by
  unfold dm at h
  rw[List.pairwise_cons]at h
  cases hc:cH c.key key with
  |true=>
   obtain⟨A,B,rfl,h1,h2⟩:=qI key h.2
   exact⟨c::A,B,rfl,fun a ha=>by
    rcases List.mem_cons.1 ha with rfl|ha
    ·exact hc
    ·exact h1 a ha,h2⟩
  |false=>
   refine⟨[],c::l,rfl,fun a h=>(by cases h),fun b hb=>?_⟩
   rcases List.mem_cons.1 hb with rfl|hb
   ·exact hc
   ·cases hb2:cH b.key key with
    |false=>rfl
    |true=>rw[fO (h.1 b hb) hb2]at hc;cases hc
theorem pV{A B:List C}{key:ByteArray}(h1:∀a,a∈A→cH a.key key=true)(h2:∀b,b∈B→cH b.key key=false):bd (A++B) key=A.length:=by
 unfold bd
 rw[List.takeWhile_append_of_pos h1]
 cases B with
 |nil=>simp
 |cons b B=>rw[List.takeWhile_cons,h2 b List.mem_cons_self];simp
theorem Dt{l:List C}(h:dm l)(key val:ByteArray):cO l key val=pI key val l∧((cO l key val).map (aW true)).sum≤(l.map (aW true)).sum+aW true (.mk key val [] [])-(if(l.any fun c=>eS c.key key)then((l.filter fun c=>eS c.key key).map (aW true)).sum else 0):=by
 obtain⟨A,B,rfl,h1,h2⟩:=qI key h
 have hA:(A.any fun c=>eS c.key key)=false:=List.any_eq_false.2 fun a ha=>by
  have:=bH (h1 a ha)
  rw[←dc]at this
  rw[this];simp
 have hA2:(A.filter fun c=>eS c.key key)=[]:=jG fun a ha=>by rw[dc];exact bH (h1 a ha)
 have hi:=pV h1 h2
 unfold cO pI
 simp only[hi]
 rw[List.filter_append,List.filter_append,eQ h1,jG h2,jG (l:=A) fun a ha=>fk (h1 a ha),List.append_nil,List.nil_append,List.any_append,hA,Bool.false_or,List.filter_append,hA2,List.nil_append]
 cases B with
 |nil=>simp
 |cons b B=>
  have hb:∀b',b'∈B→cH b.key b'.key=true:=by
   unfold dm at h
   rw[eO,List.pairwise_cons]at h
   exact h.2.1.1
  have hge:=h2 b List.mem_cons_self
  rw[List.getElem?_append_right (Nat.le_refl _),Nat.sub_self,List.getElem?_cons_zero]
  simp only
  by_cases e:b.key=key
  ·rw[if_pos (cN.2 e),fP]
   have hB:∀b',b'∈B→cH key b'.key=true:=fun b' hb'=>e▸hb b' hb'
   have hB2:(B.filter fun c=>eS c.key key)=[]:=jG fun a ha=>by rw[dc];exact(bH (hB a ha)).symm
   rw[List.filter_cons,e,cI,if_neg (by simp),eQ hB,List.any_cons,cN.2 e,Bool.true_or,if_pos rfl,List.filter_cons,if_pos (cN.2 e),hB2]
   refine⟨by simp,?_⟩
   simp only[List.map_append,List.sum_append,List.map_cons,List.map_nil,List.sum_cons,List.sum_nil]
   omega
  ·rw[if_neg (by rw[cN];exact e)]
   have hlt:cH key b.key=true:=by
    rcases nu key b.key with h|h|h
    ·exact h
    ·exact absurd h.symm e
    ·rw[hge]at h;cases h
   have hB:∀b',b'∈b::B→cH key b'.key=true:=fun b' hb'=>by
    rcases List.mem_cons.1 hb' with rfl|hb'
    ·exact hlt
    ·exact fO hlt (hb b' hb')
   have hany:((b::B).any fun c=>eS c.key key)=false:=List.any_eq_false.2 fun a ha=>by
    have:=(bH (hB a ha)).symm
    rw[←dc]at this
    rw[this];simp
   rw[List.take_left',List.drop_left',eQ hB,hany]
   ·refine⟨by simp,?_⟩
    simp only[List.map_append,List.sum_append,List.map_cons,List.map_nil,List.sum_cons,List.sum_nil,Bool.false_eq_true,if_false]
    omega
   ·rfl
   ·rfl
theorem mM{l:List C}(h:dm l)(p:C→Bool):dm (l.filter p):=List.Pairwise.filter p h
theorem J6{l:List C}(h:dm l)(key val:ByteArray):dm (pI key val l):=by
 unfold pI dm
 rw[eO,List.pairwise_cons]
 refine⟨mM h _,⟨fun b hb=>?_,mM h _⟩,fun a ha b hb=>?_⟩
 ·exact(List.mem_filter.1 hb).2
 ·have h1:cH a.key key=true:=(List.mem_filter.1 ha).2
  rcases List.mem_cons.1 hb with rfl|hb
  ·exact h1
  ·exact fO h1 (List.mem_filter.1 hb).2
theorem EY{key val:ByteArray}{l:List C}{x:C}(h:x∈pI key val l):x∈l∨x= .mk key val [] []:=by
 rcases List.mem_append.1 h with h|h
 ·exact .inl (List.mem_filter.1 h).1
 ·rcases List.mem_cons.1 h with h|h
  ·exact .inr h
  ·exact .inl (List.mem_filter.1 h).1
theorem OD{key val:ByteArray}{A B M:List C}(h1:∀a,a∈A→cH a.key key=true)(h2:∀b,b∈B→cH key b.key=true):pI key val (A++M++B)=A++pI key val M++B:=by
 unfold pI
 rw[List.filter_append,List.filter_append,List.filter_append,List.filter_append,eQ h1,jG (l:=B) fun b hb=>fk (h2 b hb),jG (l:=A) fun a ha=>fk (h1 a ha),eQ h2]
 simp
theorem OM{key:ByteArray}{A B M:List C}(h1:∀a,a∈A→cH a.key key=true)(h2:∀b,b∈B→cH key b.key=true):Bh key (A++M++B)=A++Bh key M++B:=by
 unfold Bh
 rw[List.filter_append,List.filter_append,eQ (l:=A) fun a ha=>by rw[dc.2 (bH (h1 a ha))];rfl,eQ (l:=B) fun b hb=>by rw[dc.2 (bH (h2 b hb)).symm];rfl]
theorem vH(l:List C)(key:ByteArray):∀i,i<l.length→(l6 l key i=0∨∃c,l[l6 l key i]? =some c∧mg c.key key=true)∧∀j c,l6 l key i<j→j≤i→l[j]? =some c→mg c.key key=false
 |0,_=>⟨.inl rfl,fun j c h1 h2=>by simp only[l6]at h1;omega⟩
 |i+1,hi=>by
  obtain⟨h1,h2⟩:=vH l key i (by omega)
  have hx:l[i+1]? =some l[i+1]:=List.getElem?_eq_getElem hi
  cases hle:mg l[i+1].key key with
  |true=>
   have e:l6 l key (i+1)=i+1:=by simp only[l6,hx,hle,if_true]
   rw[e]
   exact⟨.inr ⟨_,hx,hle⟩,fun j c h3 h4=>by omega⟩
  |false=>
   have e:l6 l key (i+1)=l6 l key i:=by simp only[l6,hx,hle,Bool.false_eq_true,if_false]
   rw[e]
   refine⟨h1,fun j c h3 h4 hc=>?_⟩
   rcases Nat.lt_or_ge i j with h|h
   ·have:j=i+1:=by omega
    subst this
    rw[hx]at hc;cases hc;exact hle
   ·exact h2 j c h3 h hc
theorem iZ{G:N→Prop}{l:List C}(h:QQ G l)(hn:l≠[])(key:ByteArray):∃A c B,l=A++c::B∧A.length=fQ l key∧(∀a,a∈A→∀x,x∈ja false a→cH x.key key=true)∧mg c.key key=true∧∀b,b∈B→cH key b.key=true:=by
 have hpos:=List.length_pos_iff.2 hn
 have hw:=gm hn key
 obtain⟨h1,h2⟩:=vH l key (l.length-1) (by omega)
 have hwd:fQ l key=l6 l key (l.length-1):=rfl
 rw[←hwd]at h1 h2
 have hsp:l=l.take (fQ l key)++l[fQ l key]::l.drop (fQ l key+1):=by
  rw[←List.drop_eq_getElem_cons hw,List.take_append_drop]
 have hle:mg l[fQ l key].key key=true:=by
  rcases h1 with h1|⟨c,hc,h1⟩
  ·have hk:=h.k0
   have:l[fQ l key].key=aJ:=by
    rw[←hk]
    cases l with
    |nil=>exact absurd rfl hn
    |cons a t=>simp[h1,keyOf]
   rw[this];exact ot _
  ·rw[List.getElem?_eq_getElem hw]at hc
   cases hc;exact h1
 have hpw:=h.pw
 rw[hsp,eO]at hpw
 refine⟨_,_,_,hsp,by rw[List.length_take];omega,fun a ha x hx=>im ((hpw.2.2 a ha _ List.mem_cons_self).2 x hx) hle,hle,fun b hb=>?_⟩
 obtain⟨j,hj⟩:=List.mem_iff_getElem?.1 hb
 rw[List.getElem?_drop]at hj
 exact tr.1 (h2 _ b (by omega) (by have:=(List.getElem?_eq_some_iff.1 hj).1;omega) hj)
theorem qR{d:Nat}{A B:List C}{c:C}(h:QQ (Good d) (A++c::B)){key:ByteArray}(hB:∀b,b∈B→cH key b.key=true):∀x,x∈B.flatMap (ja false)→cH key x.key=true:=fun x hx=>by
 obtain⟨b,hb,hx⟩:=List.mem_flatMap.1 hx
 exact im (hB b hb) ((h.cell b (by simp[hb])).2.1 x hx)
theorem tF{d:Nat}{k:N}(h:Good d k)(hf:Fits k):k.leaf=true∨2≤k.l.length:=by
 cases d with
 |zero=>exact .inl h.1
 |succ d=>
  refine .inr ?_
  have hs:=gV h
  rw[if_neg (by omega)]at hs
  have h30:=hf.1
  unfold ae at hs h30
  match hl:k.l,hs,h30 with
  |[],_,h30=>simp at h30
  |[c],hs,h30=>
   have:=hs (aW k.leaf c) (by simp)
   simp at h30;omega
  |_::_::_,_,_=>simp
theorem Fu{d:Nat}{A B:List C}{c:C}{kid:N}(h:QQ (Good d) (A++c::B))(k':N)(hg:Good d k')(hs:(ae k').sum≤167)(hk:c.kid=[kid])(hlo:∀x,x∈di k'→mg c.key x.key=true)(hup:∀x,x∈di k'→∀b,b∈B→cH x.key b.key=true):Uq d A (af c.key k') B:=by
 obtain⟨p1,p2,p3⟩:=eO.1 h.pw
 rw[List.pairwise_cons]at p2
 refine⟨?_,eO.2 ⟨p1,List.pairwise_cons.2 ⟨fun b hb=>⟨(p2.1 b hb).1,fun x hx=>?_⟩,p2.2⟩,fun a ha b hb=>?_⟩,fun x hx=>h.cell x (by simp[hx]),fun x hx=>h.cell x (by simp[hx]),⟨(h.cell c (by simp)).1.1,rfl,rfl⟩,fun x hx=>?_,k',rfl,hg,hs⟩
 ·rw[←h.k0];exact qP rfl (by simp) (by simp)
 ·rw[db]at hx;exact hup x hx b hb
 ·rcases List.mem_cons.1 hb with rfl|hb
  ·exact p3 a ha c List.mem_cons_self
  ·exact p3 a ha b (List.mem_cons_of_mem _ hb)
 ·rw[db]at hx;exact hlo x hx
theorem xA.V8{d:Nat}{L:List C}{m:N}(h:xA d L m):Good (d+1) m:=⟨h.leaf,h.ne,h.br⟩
theorem n0{n:N}(h:n.leaf=true):ae n=n.l.map (aW true):=by unfold ae;rw[h]
theorem lF{n:N}(h:n.leaf=false):ae n=n.l.map (aW false):=by unfold ae;rw[h]
theorem Ab{A B:List C}{c:C}(h:2≤(A++c::B).length):A≠[]∨B≠[]:=by
 rcases A with _|⟨a,A⟩
 ·right;rintro rfl;simp at h
 ·exact .inl (by simp)
theorem A1{key val:ByteArray}(hk0:key≠aJ)(hk:key.size≤16)(hv:val.size≤400):∀{d:Nat} {n:N},Good d n→(ae n).sum≤122→n.leaf=true∨2≤n.l.length→Good d (cj key val n)∧(ae (cj key val n)).sum≤157∧di (cj key val n)=pI key val (di n)
 |0,n,h,hs,h2=>by
  rw[fZ _ _ _ h.1,cM h.1,fG,fR,cq]
  rw[n0 h.1]at hs
  obtain⟨e1,e2⟩:=Dt h.2.1 key val
  have h35:=(size_leaf (c:= .mk key val [] []) ⟨hk,hv⟩).2
  refine⟨⟨rfl,?_,fun c hc=>?_⟩,?_,e1⟩
  ·show dm (cO n.l key val)
   rw[e1];exact J6 h.2.1 key val
  ·rcases j3 hc with hc|rfl
   ·exact h.2.2 c hc
   ·exact⟨hk0,hk,hv,fun e=>absurd rfl e,by simp[C.ak],rfl⟩
  ·have hpos:0≤((n.l.filter fun c=>eS c.key key).map (aW true)).sum:=EU fun x hx=>by
    obtain⟨c,hc,rfl⟩:=List.mem_map.1 hx
    obtain⟨_,w2,w3,_⟩:=h.2.2 c (List.mem_filter.1 hc).1
    exact(size_leaf ⟨w2,w3⟩).1
   split at e2 <;>omega
 |d+1,n,h,hs,h2=>by
  have hB:=h.2.2
  have h2:=h2.resolve_left (by rw[h.1];simp)
  obtain⟨A,c,B,hl,hw,hA,hc,hBk⟩:=iZ hB h.2.1 key
  have hcl:n.l[fQ n.l key]? =some c:=by rw[←hw];conv=>lhs;rw[hl]
                                        simp
  have hcm:c∈n.l:=List.mem_of_getElem? hcl
  obtain⟨o1,o2,kid,hkid,o4,o5⟩:=hB.cell c hcm
  obtain⟨g1,g2,g3⟩:=A1 hk0 hk hv o4 o5.2 (tF o4 o5)
  rw[jQ _ _ _ h.1 hcl hkid,←hw]
  rw[lF h.1]at hs
  have hen:di n=A.flatMap (ja false)++di kid++B.flatMap (ja false):=by rw[cF,h.1,hl,List.flatMap_append,List.flatMap_cons,bf hkid,List.append_assoc]
  rw[hl]at hB hs h2 ⊢
  rw[fP,List.append_assoc,List.singleton_append]
  rw[bf hkid]at o2
  obtain⟨p1,p2,p3⟩:=eO.1 hB.pw
  rw[List.pairwise_cons]at p2
  have hP:=Fu hB (cj key val kid) g1 (by omega) hkid (fun x hx=>by
   rw[g3]at hx
   rcases EY hx with hx|rfl
   ·exact o2 x hx
   ·exact hc) fun x hx b hb=>by
   rw[g3]at hx
   rcases EY hx with hx|rfl
   ·exact(p2.1 b hb).2 x (by rw[bf hkid];exact hx)
   ·exact hBk b hb
  have hm:=EK hP (Ab h2)
  refine⟨hm.V8,?_,?_⟩
  ·have:=hm.sum
   simp only[List.map_append,List.map_cons,List.sum_append,List.sum_cons,fF,af,C.lN]at this hs
   simp only[af]
   omega
  ·rw[hm.en,hen,OD,List.flatMap_append,List.flatMap_cons,db,g3,List.append_assoc]
   ·intro a ha
    obtain⟨a',ha',hx⟩:=List.mem_flatMap.1 ha
    exact hA a' ha' a hx
   ·exact qR hB hBk
theorem pj{key:ByteArray}:∀{d:Nat} {n:N},Good d n→(ae n).sum≤122→n.leaf=true∨2≤n.l.length→Good d (aD key n)∧(ae (aD key n)).sum≤142∧di (aD key n)=Bh key (di n)
 |0,n,h,hs,h2=>by
  rw[cb _ _ h.1,cM h.1,fG,fR,cq]
  rw[n0 h.1]at hs
  refine⟨⟨rfl,mM h.2.1 _,fun c hc=>h.2.2 c (List.mem_filter.1 hc).1⟩,?_,rfl⟩
  have:∀l:List C,(∀c,c∈l→YN c)→((l.filter fun c=>!eS c.key key).map (aW true)).sum≤(l.map (aW true)).sum:=by
   intro l
   induction l with
   |nil=>intro _;exact Int.le_refl _
   |cons c l ih=>
    intro hl
    have h1:=ih fun c hc=>hl c (List.mem_cons_of_mem _ hc)
    obtain⟨_,w2,w3,_⟩:=hl c List.mem_cons_self
    have:=(size_leaf ⟨w2,w3⟩).1
    rw[List.filter_cons,List.map_cons,List.sum_cons]
    split
    ·rw[List.map_cons,List.sum_cons];omega
    ·omega
  have:=this n.l h.2.2
  omega
 |d+1,n,h,hs,h2=>by
  have hB:=h.2.2
  have h2:=h2.resolve_left (by rw[h.1];simp)
  obtain⟨A,c,B,hl,hw,hA,hc,hBk⟩:=iZ hB h.2.1 key
  have hcl:n.l[fQ n.l key]? =some c:=by rw[←hw];conv=>lhs;rw[hl]
                                        simp
  have hcm:c∈n.l:=List.mem_of_getElem? hcl
  obtain⟨o1,o2,kid,hkid,o4,o5⟩:=hB.cell c hcm
  obtain⟨g1,g2,g3⟩:=pj (key:=key) o4 o5.2 (tF o4 o5)
  rw[fb _ _ h.1 hcl hkid,←hw]
  rw[lF h.1]at hs
  have hen:di n=A.flatMap (ja false)++di kid++B.flatMap (ja false):=by rw[cF,h.1,hl,List.flatMap_append,List.flatMap_cons,bf hkid,List.append_assoc]
  rw[hl]at hB hs h2 ⊢
  have dE:(A++c::B).set A.length (.mk c.key c.data c.ak [aD key kid])=A++af c.key (aD key kid)::B:=by
   rw[List.set_append_right _ _ (Nat.le_refl _),Nat.sub_self,List.set_cons_zero,o1.2.1,o1.2.2];rfl
  rw[dE]
  rw[bf hkid]at o2
  obtain⟨p1,p2,p3⟩:=eO.1 hB.pw
  rw[List.pairwise_cons]at p2
  have hP:=Fu hB (aD key kid) g1 (by omega) hkid (fun x hx=>by
   rw[g3]at hx
   exact o2 x (List.mem_filter.1 hx).1) fun x hx b hb=>by
   rw[g3]at hx
   exact(p2.1 b hb).2 x (by rw[bf hkid];exact(List.mem_filter.1 hx).1)
  have hm:=EK hP (Ab h2)
  refine⟨hm.V8,?_,?_⟩
  ·have:=hm.sum
   simp only[List.map_append,List.map_cons,List.sum_append,List.sum_cons,fF,af,C.lN]at this hs
   simp only[af]
   omega
  ·rw[hm.en,hen,OM,List.flatMap_append,List.flatMap_cons,db,g3,List.append_assoc]
   ·intro a ha
    obtain⟨a',ha',hx⟩:=List.mem_flatMap.1 ha
    exact hA a' ha' a hx
   ·exact qR hB hBk
def gQ(n:N):Prop:=∃d,Good d n∧(ae n).sum≤122∧(n.leaf=true∨2≤n.l.length)
theorem AM:∀{d:Nat} {n:N},Good d n→(ae n).sum≤167→gQ (jN n)∧di (jN n)=di n:=by
 have one:∀{d:Nat} {n:N},Good d n→(ae n).sum≤167→n.leaf=true∨n.l.length≠1→gQ (jN n)∧di (jN n)=di n:=by
  intro d n h hs h1
  rw[cV _ h1]
  have hP:Uq d [] (af aJ n) []:=⟨rfl,List.pairwise_singleton _ _,fun x hx=>(by cases hx),fun x hx=>(by cases hx),⟨by show aJ.size≤16;rw[bk];omega,rfl,rfl⟩,fun x hx=>ot _,n,rfl,h,hs⟩
  rcases rj (p:=0) hP (kid:=n) rfl (m:=aU (.mk 0 false [af aJ n]) n 0 aJ) rfl with⟨q1,q2,q3⟩|⟨q1,q2,q3,q4,q5,q6,q7⟩
  ·rw[if_pos (pc q3)]
   refine⟨⟨d,h,q3,?_⟩,rfl⟩
   rcases h1 with h1|h1
   ·exact .inl h1
   ·cases hl:n.leaf with
    |true=>exact .inl rfl
    |false=>
     refine .inr ?_
     cases d with
     |zero=>have:=h.1;rw[hl]at this;cases this
     |succ d=>have:=List.length_pos_iff.2 h.2.1;omega
  ·have hne:atR (ae n)≠0:=by
    intro e
    unfold aU at q1
    simp only[e,if_true]at q1
    cases q1
   rw[if_neg hne]
   have hmd:cC (.mk 0 false [af aJ n]) 0=(aU (.mk 0 false [af aJ n]) n 0 aJ).1:=by
    have e1:cellAt [af aJ n] 0=af aJ n:=rfl
    have e2:aA (af aJ n)=n:=rfl
    have e3:(af aJ n).key=aJ:=rfl
    unfold cC
    simp only[N.eo,e1,e2,e3]
    rw[if_pos q1]
   rw[hmd]
   have he:di (aU (.mk 0 false [af aJ n]) n 0 aJ).1=di n:=by
    have:=q5
    simp only[List.nil_append,List.flatMap_cons,List.flatMap_nil,List.append_nil,db]at this
    exact this
   have hlen:(aU (.mk 0 false [af aJ n]) n 0 aJ).1.l.length=2:=by simpa using q3
   refine⟨⟨d+1,⟨q2,by intro e;rw[e]at hlen;simp at hlen,q4⟩,?_,.inr (by omega)⟩,he⟩
   have:(ae (aU (.mk 0 false [af aJ n]) n 0 aJ).1).sum≤(([]++af aJ n::[]).map (aW false)).sum+20:=q7
   have e4:(([]++af aJ n::[]).map (aW false)).sum=4:=by
    simp only[List.nil_append,List.map_cons,List.map_nil,List.sum_cons,List.sum_nil,fF,af,C.lN,bk];omega
   omega
 intro d
 induction d with
 |zero=>intro n h hs;exact one h hs (.inl h.1)
 |succ d ih=>
  intro n h hs
  by_cases h1:n.l.length=1
  ·obtain⟨c,hc⟩:=List.length_eq_one_iff.1 h1
   obtain⟨_,_,k,hk,hg,hf⟩:=h.2.2.cell c (by rw[hc];exact List.mem_singleton_self c)
   rw[ku n h.1 hc hk]
   obtain⟨i1,i2⟩:=ih hg (by have:=hf.2;omega)
   refine⟨i1,?_⟩
   rw[i2,cF n,h.1,hc,List.flatMap_cons,List.flatMap_nil,bf hk,List.append_nil]
  ·exact one h hs (.inr h1)
theorem kJ{key val:ByteArray}(hk0:key≠aJ)(hk:key.size≤16)(hv:val.size≤400){n:N}(h:gQ n):gQ (k7 key val n)∧di (k7 key val n)=pI key val (di n):=by
 obtain⟨d,h1,h2,h3⟩:=h
 obtain⟨g1,g2,g3⟩:=A1 hk0 hk hv h1 h2 h3
 obtain⟨t1,t2⟩:=AM g1 (by omega)
 exact⟨t1,t2.trans g3⟩
theorem nm(key:ByteArray):∀{d:Nat} {n:N},Good d n→cw key n=((di n).find? fun c=>eS c.key key).map C.data
 |0,n,h=>by rw[oD _ _ h.1,cM h.1]
 |d+1,n,h=>by
  have hB:=h.2.2
  obtain⟨A,c,B,hl,hw,hA,hc,hBk⟩:=iZ hB h.2.1 key
  have hcl:n.l[fQ n.l key]? =some c:=by rw[←hw];conv=>lhs;rw[hl]
                                        simp
  obtain⟨o1,o2,kid,hkid,o4,o5⟩:=hB.cell c (List.mem_of_getElem? hcl)
  have hen:di n=A.flatMap (ja false)++(di kid++B.flatMap (ja false)):=by rw[cF,h.1,hl,List.flatMap_append,List.flatMap_cons,bf hkid]
  rw[sQ _ _ h.1 hcl hkid,nm key o4,hen,List.find?_append,List.find?_append]
  rw[hl]at hB
  have f1:(A.flatMap (ja false)).find? (fun c=>eS c.key key)=none:=List.find?_eq_none.2 fun x hx=>by
   obtain⟨a,ha,hx⟩:=List.mem_flatMap.1 hx
   rw[dc.2 (bH (hA a ha x hx))];simp
  have f2:(B.flatMap (ja false)).find? (fun c=>eS c.key key)=none:=List.find?_eq_none.2 fun x hx=>by
   rw[dc.2 (bH (qR hB hBk x hx)).symm];simp
  rw[f1,f2]
  cases(di kid).find? fun c=>eS c.key key <;>rfl
theorem tq{key:ByteArray}{l:List C}(h:(l.find? fun c=>eS c.key key)=none):Bh key l=l:=eQ fun a ha=>by
 have:=List.find?_eq_none.1 h a ha
 simpa using this
theorem pn(key:ByteArray){n:N}(h:gQ n):gQ (l9 key n)∧di (l9 key n)=Bh key (di n):=by
 obtain⟨d,h1,h2,h3⟩:=h
 unfold l9
 have hf:=nm key h1
 split
 ·obtain⟨g1,g2,g3⟩:=pj (key:=key) h1 h2 h3
  obtain⟨t1,t2⟩:=AM g1 (by omega)
  exact⟨t1,t2.trans g3⟩
 ·rename_i hn
  refine⟨⟨d,h1,h2,h3⟩,(tq ?_).symm⟩
  rw[hf]at hn
  cases hx:(di n).find? fun c=>eS c.key key with
  |none=>rfl
  |some c=>rw[hx]at hn;simp at hn
def qj(from_:Int)(n:Nat):List Int:=(List.range n).map fun(i:Nat)=>from_+i
def fA(z:Nat):Nat:=if 16<z then(z+118)/119 else 0
mutual
def kF:N→Int→N×Int
 | .mk p b l,f=>
  let r:=gx b l f
  if l=[]then(.mk 0 b r.1,r.2)else(.mk r.2 b r.1,r.2+1)
def uw(b:Bool):C→Int→C×Int
 | .mk k d ps kid,f=>if b then(.mk k d (if 16<d.size then qj f (fA d.size)else ps) kid,f+fA d.size)else
  let r:=Jz kid f
  (.mk k d ps r.1,r.2)
def gx(b:Bool):List C→Int→List C×Int
 |[],f=>([],f)
 |c::l,f=>
  let r:=uw b c f
  let q:=gx b l r.2
  (r.1::q.1,q.2)
def Jz:List N→Int→List N×Int
 |[],f=>([],f)
 |n::l,f=>([(kF n f).1],(kF n f).2)
end
theorem uY(b:Bool):∀(l:List C) (f:Int),(gx b l f).1.length=l.length
 |[],_=>rfl
 |a::l,f=>by simp only[gx,List.length_cons,uY b l]
theorem y6(n:N)(f:Int):kF n f=if n.l=[]then(.mk 0 n.leaf (gx n.leaf n.l f).1,(gx n.leaf n.l f).2)else(.mk (gx n.leaf n.l f).2 n.leaf (gx n.leaf n.l f).1,(gx n.leaf n.l f).2+1):=by
 cases n;simp only[kF,N.leaf,N.l];rfl
theorem uR(c:C)(f:Int):uw true c f=(.mk c.key c.data (if 16<c.data.size then qj f (fA c.data.size)else c.ak) c.kid,f+fA c.data.size):=by
 cases c;simp only[uw,if_true,C.key,C.data,C.ak,C.kid];rfl
theorem zR{c:C}{k:N}(h:c.kid=[k])(f:Int):uw false c f=(.mk c.key c.data c.ak [(kF k f).1],(kF k f).2):=by
 cases c with|mk ck cd cp cr=>
 simp only[C.kid]at h;subst h
 simp only[uw,Bool.false_eq_true,if_false,Jz,C.key,C.data,C.ak]
theorem LC{z:Nat}(h:z≤400):fA z≤4:=by unfold fA;split <;>omega
theorem Dv(f:Int)(q:Nat):(qj f q).length=q:=by unfold qj;simp
def aN(n:N):List N:=if n.leaf then []else n.l.flatMap fun c=>c.kid.take 1
@[go_sem] def fS (c:C):DV:= .agg [dS c.data,.sl 1 false (c.ak.map dI)]
mutual
def dT:N→DV
 | .mk p b l=> .agg [dI p,dB b,.sl 1 false (l.map fun c=>dS c.key),.sl 2 false ((if b then l else []).map fS),.sl 5 false (if b then []else Jx l)]
def Zs:C→List DV
 | .mk _ _ _ kid=>PF kid
def Jx:List C→List DV
 |[]=>[]
 |c::l=>Zs c++Jx l
def PF:List N→List DV
 |[]=>[]
 |n::_=>[dT n]
end
theorem NY:∀l,PF l=(l.take 1).map dT
 |[]=>by simp[PF]
 |n::l=>by simp[PF]
theorem Fe:∀l,Jx l=(l.flatMap fun c=>c.kid.take 1).map dT
 |[]=>by simp[Jx]
 |c::l=>by
  cases c
  simp only[Jx,Zs,NY,Fe l,List.flatMap_cons,List.map_append,C.uC]
@[go_sem] def eT (n:N):DV:= .agg [dI n.aq,dB n.leaf,.sl 1 false (n.l.map fun c=>dS c.key),.sl 2 false ((if n.leaf then n.l else []).map fS),.sl 5 false ((aN n).map dT)]
@[go_sem] theorem jT (n:N):dT n=eT n:=by
 cases n with|mk p b l=>
 simp only[dT,eT,N.E9,N.nq,N.eo,aN]
 cases b <;>simp[Fe]
def cT(n:N):List DV:=[dI n.aq,dB n.leaf,.sl 1 false (n.l.map fun c=>dS c.key),.sl 2 false ((if n.leaf then n.l else []).map fS),.sl 5 false ((aN n).map dT)]
theorem fW{n:N}(h:n.leaf=true):aN n=[]:=by unfold aN;rw[h];rfl
theorem F4{n:N}(h:n.leaf=false):aN n=n.l.flatMap fun c=>c.kid.take 1:=by unfold aN;rw[h];rfl
theorem zT{l:List C}(h:∀c,c∈l→∃k,c.kid=[k]):(l.flatMap fun c=>c.kid.take 1)=l.map aA:=by
 induction l with
 |nil=>rfl
 |cons c l ih=>
  obtain⟨k,hk⟩:=h c List.mem_cons_self
  rw[List.flatMap_cons,ih fun c hc=>h c (List.mem_cons_of_mem _ hc),hk,List.map_cons,bx hk];rfl
theorem po{d:Nat}{n:N}(h:Nd (d+1) n):aN n=n.l.map aA:=by
 rw[F4 h.1]
 exact zT fun c hc=>by obtain⟨_,k,hk,_⟩:=h.2.2 c hc;exact⟨k,hk⟩
theorem Ap(w0:W0)(z:Int)(S:St):aa Tryz.prog w0 218 [dI z] S (fun d S'=>d=dI (need z)∧S'=S):=by
 refine aZ [] mx Tryz.func218 rfl rfl (by kernel_rfl) ?_;(refine @ab _ ?_;refine an @Tryz.ntmps218 ?_)
 unfold need
 refine⟨fun h=>by rw[if_neg (by omega)];rfl,fun h1=>⟨fun h=>by rw[if_neg (by omega)];rfl,fun h2=>?_⟩⟩
 rw[if_pos (by omega),aX (n:=z+119) (by omega) (by omega),aX (n:=z+119-1) (by omega) (by omega),Int.tdiv_eq_ediv_of_nonneg (by omega),aX (by omega) (by omega)]
 omega
mutual
def dj(ends:N→Bool):N→List N
 | .mk p b l=> .mk p b l::(if ends (.mk p b l)then []else if b then []else A5 ends l)
def Vp(ends:N→Bool):C→List N
 | .mk _ _ _ kid=>ER ends kid
def A5(ends:N→Bool):List C→List N
 |[]=>[]
 |c::l=>A5 ends l++Vp ends c
def ER(ends:N→Bool):List N→List N
 |[]=>[]
 |n::_=>dj ends n
end
theorem KP(ends:N→Bool):∀l,ER ends l=(l.take 1).flatMap (dj ends)
 |[]=>by simp[ER]
 |n::l=>by simp[ER]
theorem Bv(ends:N→Bool):∀l,A5 ends l=(l.flatMap fun c=>c.kid.take 1).reverse.flatMap (dj ends)
 |[]=>by simp[A5]
 |c::l=>by
  cases c with|mk k d ps kid=>
  have hr:(kid.take 1).reverse=kid.take 1:=by cases kid <;>rfl
  simp only[A5,Vp,KP,Bv ends l,List.flatMap_cons,List.reverse_append,List.flatMap_append,C.uC,hr]
theorem lK(ends:N→Bool)(n:N):dj ends n=n::(if ends n then []else(aN n).reverse.flatMap (dj ends)):=by
 cases n with|mk p b l=>
 simp only[dj,aN,N.nq,N.eo,Bv]
 cases b <;>simp
def vt(ends:N→Bool)(s:List N):List N:=s.reverse.flatMap (dj ends)
theorem H6(ends:N→Bool)(s:List N)(x:N):vt ends (s++[x])=x::vt ends (s++if ends x then []else aN x):=by
 unfold vt
 rw[List.reverse_append,List.reverse_cons,List.reverse_nil,List.nil_append,List.flatMap_append,List.flatMap_cons,List.flatMap_nil,List.append_nil,lK,List.cons_append]
 congr 1
 cases ends x <;>simp[List.reverse_append,List.flatMap_append]
theorem Ml(w0:W0)(n:N)(fe:FuncId)(S:St):aa Tryz.prog w0 150 [eT n,.v (.func (.func fe) #[] #[])] S (fun d S'=>∃(b:FN S.box) (c:FN ((b.n,cT n)::S.box)),d= .v (.func (.func 207) #[] #[.pointer (some ⟨b.n,0,none⟩),.pointer (some ⟨c.n,0,none⟩)])∧S'=⟨(c.n,[.v (.func (.func fe) #[] #[])])::(b.n,cT n)::S.box,S.acc⟩):=by
 refine mf [] mx Tryz.func150 rfl rfl (by kernel_rfl) ?_;(refine @ab _ ?_;refine an @Tryz.ntmps150 ?_)
 exact fun b c=>⟨b,c,rfl,rfl⟩
theorem Qy{α:Type}(f:α→DV)(l:List α){d:DV}(ho:eL d=true)(F:DV→Prop):Ev (l.map f++[d]) l.length F=F d:=by
 unfold Ev
 have h:(l.map f++[d])[l.length]? =some d:=by rw[List.getElem?_append_right (by simp)];simp
 simp[h]
 exact fun _=>ho
theorem vq{α:Type}(f:α→DV)(l:List α)(d:DV):(l.map f++[d]).take l.length=l.map f:=by
 rw[List.take_append_of_le_length (by rw[List.length_map];exact Nat.le_refl _)]
 exact List.take_of_length_le (by rw[List.length_map];exact Nat.le_refl _)
theorem DO{L:List (Nat×Ob)}{w m:Nat}{o o':Ob}(h:lk L w=some o')(hm:jD L m):lk (rB L w (m,o)) m=some o:=by
 induction L with
 |nil=>cases h
 |cons p t ih=>
  obtain⟨k,x⟩:=p
  simp only[lk]at h
  simp only[rB]
  split
  ·simp[lk]
  ·rename_i hne
   rw[if_neg hne]at h
   have hk:¬k=m:=fun e=>by have:=mD hm;rw[←e]at this;simp[lk]at this
   have hm':jD t m:=hm.2.2
   simp only[lk,if_neg hk]
   exact ih h hm'
theorem Eh{L:List (Nat×Ob)}{w m c:Nat}{o:Ob}(h1:c≠w)(h2:c≠m):lk (rB L w (m,o)) c=lk L c:=by
 induction L with
 |nil=>rfl
 |cons p t ih=>
  obtain⟨k,x⟩:=p
  simp only[rB]
  split
  ·rename_i e;subst e;simp only[lk];rw[if_neg (fun e=>h2 e.symm),if_neg (fun e=>h1 e.symm)]
  ·simp only[lk,ih]
theorem KC{α:Type}:∀{L L':List (Nat×α)} {n:Nat},L.map (·.1)=L'.map (·.1)→lk L n=none→lk L' n=none
 |[],[],_,_,_=>rfl
 |[],_::_,_,h,_=>by simp at h
 |_::_,[],_,h,_=>by simp at h
 |(k,x)::t,(k',x')::t',n,h,hn=>by
  simp only[List.map_cons,List.cons.injEq]at h
  obtain⟨e,h⟩:=h
  subst e
  simp only[lk]at hn ⊢
  split at hn
  ·cases hn
  ·rename_i hne;rw[if_neg hne];exact KC h hn
theorem L8(ends:N→Bool)(s:List N):s.length≤(vt ends s).length:=by
 unfold vt
 rw[←List.length_reverse]
 induction s.reverse with
 |nil=>exact Nat.le_refl 0
 |cons x t ih=>rw[List.flatMap_cons,lK];simp only[List.length_append,List.length_cons];omega
theorem Rc(L:List (Nat×List DV))(b c:Nat)(v:List DV):lk (up L b v) c=if b=c then(lk L c).map (fun _=>v)else lk L c:=by
 split
 ·rename_i e;subst e;exact ax _ _ _
 ·rename_i e;exact aM e _ _
theorem xJ{X T:St}{b:Nat}(h:Has X T)(v:List DV):Has ⟨up X.box b v,X.acc⟩ ⟨up T.box b v,T.acc⟩:=⟨fun c x hc=>by
 simp only[Rc]at hc ⊢
 split at hc
 ·rename_i e
  obtain⟨y,hy,rfl⟩:=Option.map_eq_some_iff.1 hc
  rw[h.box _ _ hy,if_pos e];rfl
 ·rename_i e
  rw[if_neg e];exact h.box _ _ hc,h.acc⟩
theorem Fg{α:Type}{L:List (Nat×α)}{b:Nat}{v:α}(h:lk L b=some v):up L b v=L:=by
 induction L with
 |nil=>rfl
 |cons p t ih=>
  obtain⟨k,x⟩:=p
  simp only[lk]at h
  simp only[up]
  split
  ·rename_i e;rw[if_pos e]at h;cases h;rfl
  ·rename_i e;rw[if_neg e]at h;rw[ih h]
theorem Sq(L:List (Nat×Ob))(b c:Nat)(v:Ob):lk (up L b v) c=if b=c then(lk L c).map (fun _=>v)else lk L c:=by
 split
 ·rename_i e;subst e;exact ax _ _ _
 ·rename_i e;exact aM e _ _
theorem Bn{X T:St}{b l:Nat}(h:Has X T)(v:List DV)(o:Ob):Has ⟨up X.box b v,up X.acc l o⟩ ⟨up T.box b v,up T.acc l o⟩:=⟨(xJ h v).box,fun c x hc=>by
 simp only[Sq]at hc ⊢
 split at hc
 ·rename_i e
  obtain⟨y,hy,rfl⟩:=Option.map_eq_some_iff.1 hc
  rw[h.acc _ _ hy,if_pos e];rfl
 ·rename_i e
  rw[if_neg e];exact h.acc _ _ hc⟩
theorem Kr{X T:St}{b l:Nat}{v:List DV}{o:Ob}(hb:¬lk X.box b=none)(hl:¬lk X.acc l=none):Kp X T ⟨up T.box b v,up T.acc l o⟩:=⟨fun c x hc hx=>by
 show lk (up T.box b v) c=some x
 rw[aM (fun e=>hb (by rw[e];exact hc))];exact hx,fun c x hc hx=>by
 show lk (up T.acc l o) c=some x
 rw[aM (fun e=>hl (by rw[e];exact hc))];exact hx⟩
structure Wk1 where
 T:St
 w:Nat
 pre:List N
 s:List N
theorem Q7(w0:W0)(l b2 b3:Nat)(n:N)(ends:N→Bool)(fe:FuncId)(X:List N→St)(B:Nat)(hB:(dj ends n).length≤B)(hB2:B≤1048576)
 (h2:∀pre,lk (X pre).box b2=some (cT n)) (h3:∀pre,lk (X pre).box b3=some [.v (.func (.func fe) #[] #[])]) (hfe:okF Tryz.prog fe=true)
 (hend:∀x T,aa Tryz.prog w0 fe [eT x] T (fun d T'=>d=dB (ends x)∧T'=T))
 (hdb:∀pre,(X pre).box.map (·.1)=(X []).box.map (·.1)) (hda:∀pre,(X pre).acc.map (·.1)=(X []).acc.map (·.1))
 (hy:YK Tryz.prog w0 l X (fun x=>[eT x]) (dj ends n)):∀T,Has (X []) T→aa Tryz.prog w0 207 [.v (.func (.yield l) #[] #[]),.v (.pointer (some ⟨b2,0,none⟩)),.v (.pointer (some ⟨b3,0,none⟩))] T (fun _ T'=>Has (X (dj ends n)) T'):=by
 intro T hT
 have t2:lk T.box b2=some (cT n):=hT.box _ _ (h2 [])
 have t3:lk T.box b3=some [.v (.func (.func fe) #[] #[])]:=hT.box _ _ (h3 [])
 refine mf [0] mx Tryz.func207 rfl rfl (by kernel_rfl) ?_;simp only[Tryz.ntmps207,List.length_cons,List.length_nil,Nat.reduceAdd,Nat.reduceSub,List.reduceReplicate,List.cons_append,List.nil_append];(refine @ab _ ?_;refine eW @Tryz.ntmps207 @t2 @t3 ?_)
 refine YR (by kernel_rfl) ?_
 simp(maxDischargeDepth:=12) (maxSteps:=1000000) -implicitDefEqProofs only[go_sem,Nat.reduceAdd,Nat.reduceSub,Nat.reduceMul,Nat.reduceLeDiff,Nat.reduceEqDiff,Nat.reduceGT,Nat.reduceBEq,reduceCtorEq,↓reduceIte,Int.reduceToNat,Int.reduceLE,Int.reduceLT,Int.reduceNe,Int.reduceEq,t2,t3,cT]
 intro lb
 refine jR [] [0,2,4] (fun s:Wk1=>[(4,.acc s.w s.s.length)]) (fun s=>s.T) (fun s=>Has (X s.pre) s.T∧lk s.T.acc s.w=some (.arr 5 (s.s.map dT))∧lk (X s.pre).acc s.w=none∧s.pre++vt ends s.s=dj ends n) (fun s=>(dj ends n).length-s.pre.length) ⟨⟨T.box,(lb.n,.arr 5 [dT n])::T.acc⟩,lb.n,[],[n]⟩ mx (by kernel_rfl) ?_ ?_
 ·have hnone:lk T.acc lb.n=none:=jt lb
  refine⟨⟨⟨hT.box,fun l' o ho=>?_⟩,by simp[lk],?_,?_⟩,?_,?_⟩
  ·have:=hT.acc _ _ ho
   show lk ((lb.n,_)::T.acc) l'=_
   simp only[lk]
   rw[if_neg (fun e=>by rw[e,this]at hnone;cases hnone)];exact this
  ·show lk (X []).acc lb.n=none
   cases hx:lk (X []).acc lb.n with
   |none=>rfl
   |some o=>rw[hT.acc _ _ hx]at hnone;cases hnone
  ·show []++vt ends [n]=dj ends n
   simp[vt]
  ·(refine @ab _ ?_;exact aV)
  ·(refine @ab _ ?_;exact aV)
 ·rintro⟨T,w,pre,st⟩ ⟨hT',hw,hwX,hV⟩
  simp only at hT' hw hwX hV
  have t2:lk T.box b2=some (cT n):=hT'.box _ _ (h2 pre)
  have t3:lk T.box b3=some [.v (.func (.func fe) #[] #[])]:=hT'.box _ _ (h3 pre)
  rcases List.eq_nil_or_concat st with rfl|⟨st,x,rfl⟩
  ·have hV':pre=dj ends n:=by simpa[vt]using hV
   (refine @ab _ ?_;refine ba @t3 @hw ?_)
   rw[←hV']
   exact⟨fun h=>absurd h (by omega),fun _=>hT'⟩
  ·rw[List.concat_eq_append]at hw hV ⊢
   rw[H6]at hV
   have hlen:(st++[x]).length=st.length+1:=by simp
   have hw2:lk T.acc w=some (.arr 5 (st.map dT++[eT x])):=by rw[hw,List.map_append,List.map_cons,List.map_nil,jT]
   have hsl:=L8 ends (st++if ends x then []else aN x)
   have hVl:pre.length+(1+(vt ends (st++if ends x then []else aN x)).length)≤B:=by rw[←hV]at hB;simp only[List.length_append,List.length_cons]at hB;omega
   rw[List.length_append]at hsl
   have ewrap:IntKind.i64.wrap (((st.length+1:Nat):Int)-1)=(st.length:Int):=by rw[aX] <;>omega
   (refine @ab _ ?_;refine DD @t3 @hw2 @hlen @ewrap @Qy @vq ?_)
   refine⟨fun _ b5=> .inl ⟨.inr (by omega),⟨_,_,_,rfl⟩,fun m=>?_⟩,fun h=>absurd (by omega) h⟩
   have hbn:lk T.box b5.n=none:=jt b5
   have hmn:lk T.acc m.n=none:=jt m
   have hXb:lk (X pre).box b5.n=none:=by
    cases hx:lk (X pre).box b5.n with
    |none=>rfl
    |some o=>rw[hT'.box _ _ hx]at hbn;cases hbn
   have hXm:lk (X pre).acc m.n=none:=by
    cases hx:lk (X pre).acc m.n with
    |none=>rfl
    |some o=>rw[hT'.acc _ _ hx]at hmn;cases hmn
   have hmw:m.n≠w:=by rintro e;rw[e,hw]at hmn;cases hmn
   have hT1:Has (X pre) ⟨(b5.n,cT x)::T.box,rB T.acc w (m.n,.arr 5 (st.map dT))⟩:=⟨fun c y hc=>by
    simp only[lk]
    rw[if_neg (fun e=>by rw[←e,hXb]at hc;cases hc)];exact hT'.box c y hc,fun c o hc=>by
    rw[Eh (fun e=>by rw[e,hwX]at hc;cases hc) (fun e=>by rw[e,hXm]at hc;cases hc)];exact hT'.acc c o hc⟩
   have hpre:(pre++[x]) <+: dj ends n:=⟨_,by rw[List.append_assoc];exact hV⟩
   refine Ki (hy pre x _ hpre hT1) ?_
   rintro d T2 ⟨rfl,hT2,hK⟩
   have u5:lk T2.box b5.n=some (cT x):=hK.box _ _ hXb (by simp only[lk,if_true];rfl)
   have um:lk T2.acc m.n=some (.arr 5 (st.map dT)):=hK.acc _ _ hXm (DO hw m.h)
   have u3:lk T2.box b3=some [.v (.func (.func fe) #[] #[])]:=hT2.box _ _ (h3 _)
   have hX2m:lk (X (pre++[x])).acc m.n=none:=KC ((hda _).trans (hda _).symm) hXm
   have hmeas:(dj ends n).length-(pre++[x]).length<(dj ends n).length-pre.length:=by
    have:=hpre.length_le
    rw[List.length_append]at this ⊢
    simp only[List.length_cons,List.length_nil]at*
    omega
   simp(maxDischargeDepth:=12) (maxSteps:=1000000) -implicitDefEqProofs only[go_sem,Nat.reduceAdd,Nat.reduceSub,Nat.reduceMul,Nat.reduceLeDiff,Nat.reduceEqDiff,Nat.reduceGT,Nat.reduceBEq,reduceCtorEq,↓reduceIte,Int.reduceToNat,Int.reduceLE,Int.reduceLT,Int.reduceNe,Int.reduceEq,u5,um,u3,cT,hfe]
   refine ao (hend x _) ?_
   simp(maxDischargeDepth:=12) (maxSteps:=1000000) -implicitDefEqProofs only[go_sem,Nat.reduceAdd,Nat.reduceSub,Nat.reduceMul,Nat.reduceLeDiff,Nat.reduceEqDiff,Nat.reduceGT,Nat.reduceBEq,reduceCtorEq,↓reduceIte,Int.reduceToNat,Int.reduceLE,Int.reduceLT,Int.reduceNe,Int.reduceEq,u5,um,u3,cT]
   have hlV:(st.length+(aN x).length)*88≤140737488355328∧st.length+(aN x).length≤maxLen∨ends x=true:=by
    cases he:ends x
    ·rw[he]at hsl hVl
     simp only[Bool.false_eq_true,if_false]at hsl hVl
     refine .inl ⟨by omega,?_⟩
     have:maxLen=9223372036854775807:=rfl
     omega
    ·exact .inr rfl
   refine⟨fun he=>?_,fun he=>?_⟩
   ·rw[he,if_pos rfl,List.append_nil]at hV
    refine⟨⟨T2,m.n,pre++[x],st⟩,⟨hT2,um,hX2m,by rw[List.append_assoc];exact hV⟩,hmeas,.refl _,.refl _⟩
   ·rw[he,if_neg (by simp)]at hV
    obtain⟨q1,q2⟩:=hlV.resolve_right (by rw[he];simp)
    refine⟨q1,q2,⟨⟨T2.box,up T2.acc m.n (.arr 5 ((st++aN x).map dT))⟩,m.n,pre++[x],st++aN x⟩,⟨⟨hT2.box,fun l o hl=>?_⟩,?_,hX2m,by rw[List.append_assoc];exact hV⟩,hmeas,Wk.eq (by rw[List.length_append]),.refl _⟩
    ·show lk (up T2.acc m.n _) l=some o
     rw[aM (fun e=>by rw[←e,hX2m]at hl;cases hl)]
     exact hT2.acc l o hl
    ·show lk (up T2.acc m.n _) m.n=_
     rw[ax,um];rfl
end Go.Proofs.YtpjenciplibdnaaGreatDoor
namespace Go.Proofs
open Go.Shelf
def Tryz.zK:Go.Shelf.Ren:=⟨fun|189=>51|125=>101|257=>100|128=>161|129=>162|294=>152|295=>153|296=>154|297=>155|298=>156|299=>157|216=>158|300=>159|301=>160|328=>208|329=>209|330=>210|331=>211|332=>212|215=>213|343=>241|n=>n,fun|28=>37|3=>3|46=>194|0=>0|51=>197|53=>26|4=>4|183=>249|182=>248|131=>151|5=>5|9=>9|218=>295|222=>299|228=>325|229=>326|n=>n,fun|n=>n⟩
theorem Tryz.Ff:Go.Proofs.Lays.n189 Tryz.prog Tryz.zK:={
 mixed:=by kernel_rfl
 f125:=Tryz.func101.trans (congrArg some (by kernel_rfl))
 f128:=Tryz.func161.trans (congrArg some (by kernel_rfl))
 f129:=Tryz.func162.trans (congrArg some (by kernel_rfl))
 f189:=Tryz.func51.trans (congrArg some (by kernel_rfl))
 f215:=Tryz.func213.trans (congrArg some (by kernel_rfl))
 f216:=Tryz.func158.trans (congrArg some (by kernel_rfl))
 f257:=Tryz.func100.trans (congrArg some (by kernel_rfl))
 f294:=Tryz.func152.trans (congrArg some (by kernel_rfl))
 f295:=Tryz.func153.trans (congrArg some (by kernel_rfl))
 f296:=Tryz.func154.trans (congrArg some (by kernel_rfl))
 f297:=Tryz.func155.trans (congrArg some (by kernel_rfl))
 f298:=Tryz.func156.trans (congrArg some (by kernel_rfl))
 f299:=Tryz.func157.trans (congrArg some (by kernel_rfl))
 f300:=Tryz.func159.trans (congrArg some (by kernel_rfl))
 f301:=Tryz.func160.trans (congrArg some (by kernel_rfl))
 f328:=Tryz.func208.trans (congrArg some (by kernel_rfl))
 f329:=Tryz.func209.trans (congrArg some (by kernel_rfl))
 f330:=Tryz.func210.trans (congrArg some (by kernel_rfl))
 f331:=Tryz.func211.trans (congrArg some (by kernel_rfl))
 f332:=Tryz.func212.trans (congrArg some (by kernel_rfl))
 f343:=Tryz.func241.trans (congrArg some (by kernel_rfl))
 t0:=Tryz.underlying0
 a0:=Tryz.isAgg0
 z0:=Tryz.sizeOf0
 v0:=Tryz.zeroValue0
 t3:=Tryz.underlying3
 a3:=Tryz.isAgg3
 z3:=Tryz.sizeOf3
 v3:=Tryz.zeroValue3
 t4:=Tryz.underlying4
 a4:=Tryz.isAgg4
 z4:=Tryz.sizeOf4
 v4:=Tryz.zeroValue4
 t5:=Tryz.underlying5
 a5:=Tryz.isAgg5
 z5:=Tryz.sizeOf5
 v5:=Tryz.zeroValue5
 t9:=Tryz.underlying9
 a9:=Tryz.isAgg9
 z9:=Tryz.sizeOf9
 v9:=Tryz.zeroValue9
 t28:=Tryz.underlying37
 a28:=Tryz.isAgg37
 z28:=Tryz.sizeOf37
 v28:=Tryz.zeroValue37
 t46:=Tryz.underlying194
 a46:=Tryz.isAgg194
 z46:=Tryz.sizeOf194
 v46:=Tryz.zeroValue194
 t51:=Tryz.underlying197
 a51:=Tryz.isAgg197
 z51:=Tryz.sizeOf197
 v51:=Tryz.zeroValue197
 t53:=Tryz.underlying26
 a53:=Tryz.isAgg26
 z53:=Tryz.sizeOf26
 v53:=Tryz.zeroValue26
 t131:=Tryz.underlying151
 a131:=Tryz.isAgg151
 z131:=Tryz.sizeOf151
 v131:=Tryz.zeroValue151
 t182:=Tryz.underlying248
 a182:=Tryz.isAgg248
 z182:=Tryz.sizeOf248
 v182:=Tryz.zeroValue248
 t183:=Tryz.underlying249
 a183:=Tryz.isAgg249
 z183:=Tryz.sizeOf249
 v183:=Tryz.zeroValue249
 t218:=Tryz.underlying295
 a218:=Tryz.isAgg295
 z218:=Tryz.sizeOf295
 v218:=Tryz.zeroValue295
 t222:=Tryz.underlying299
 a222:=Tryz.isAgg299
 z222:=Tryz.sizeOf299
 v222:=Tryz.zeroValue299
 t228:=Tryz.underlying325
 a228:=Tryz.isAgg325
 z228:=Tryz.sizeOf325
 v228:=Tryz.zeroValue325
 t229:=Tryz.underlying326
 a229:=Tryz.isAgg326
 z229:=Tryz.sizeOf326
 v229:=Tryz.zeroValue326}
open Go.Sort Go.RowKit in
theorem Tryz.slices_Sort_int(blk off cap:Nat)(zs:List Int)(w:World)(hH:Holds (Value.int .i64) w blk off zs.toArray)(hblk:blk<w.heap.size)(hsz:zs.length<4611686018427387904):
 Calls Tryz.prog 51 #[.slice (some ⟨blk,off,none⟩) zs.length cap] w fun e w'=>
  e= .returned (.tuple #[])∧∃n os,w'=grow (putRow (Value.int .i64) (Sort.ahead w n) blk off (zs.mergeSort fun x y=>decide (x≤y)).toArray) os:=Any.slices_Sort_int Tryz.Ff blk off cap zs w hH hblk hsz
open Go.RowKit Go.Sort in
theorem Tryz.slices_Sort_int_none(p:Option Addr)(cap:Nat)(w:World):
 Calls Tryz.prog 51 #[.slice p 0 cap] w fun e w'=>e= .returned (.tuple #[])∧w'=w:=Any.slices_Sort_int_none Tryz.Ff p cap w
end Go.Proofs
namespace Go.Proofs.YtpjenciplibdnaaGreatDoor
open Aml Go
def dh(l:List Int):List Int:=l.mergeSort fun x y=>decide (x≤y)
theorem bc(l:List Int):(dh l).length=l.length:=List.length_mergeSort l
theorem Au{l:List Int}{j:Nat}{a:Int}(h:l[j]? =some a):l.toArray[j]! =a:=by
 obtain⟨hlt,rfl⟩:=List.getElem?_eq_some_iff.1 h
 rw[getElem!_pos l.toArray j (by simpa using hlt)]
 simp
theorem zc{w:World}{n b e:Nat}{cs:Array Value}{zs:List Int}{os:Array Obj}(hb:w.heap[b]? =some (.cells cs e (0,0)))(hn:zs.length≤cs.size):
 ∃cs',(Go.Sort.grow (Go.Sort.putRow (Value.int .i64) (Go.Sort.ahead w n) b 0 zs.toArray) os).heap[b]? =some (.cells cs' e (0,0))∧cs'.size=cs.size∧(∀(i:Nat) (a:Int),zs[i]? =some a→cs'[i]? =some (.int .i64 a))∧∀x,x∈cs'.toList→x∈cs.toList∨∃a,x= .int .i64 a:=by
 refine⟨Go.Sort.putCells (Value.int .i64) 0 zs.toArray cs,?_,by simp[Go.Sort.putCells],fun i a hi=>?_,fun x hx=>?_⟩
 ·rw[Go.Sort.heap_grow_old _ _ (by have:=(Array.getElem?_eq_some_iff.1 hb).1;simpa using this)]
  simp only[Go.Sort.putRow,Go.Sort.mapBlock,Go.Sort.heap_ahead,Array.getElem?_modify,if_true,hb,Option.map_some,Go.Sort.onCells]
 ·have hlt:i<zs.length:=(List.getElem?_eq_some_iff.1 hi).1
  have hc:cs[i]? =some cs[i]:=Array.getElem?_eq_getElem (by omega)
  simp only[Go.Sort.putCells,Array.getElem?_mapIdx,hc,Option.map_some]
  rw[if_pos (by simp;omega)]
  simp only[Nat.sub_zero]
  rw[Au hi]
 ·obtain⟨i,hi⟩:=List.mem_iff_getElem?.1 hx
  rw[Array.getElem?_toList]at hi
  simp only[Go.Sort.putCells,Array.getElem?_mapIdx,Option.map_eq_some_iff]at hi
  obtain⟨y,hy,rfl⟩:=hi
  split
  ·exact .inr ⟨_,rfl⟩
  ·exact .inl (Array.mem_toList_iff.2 (Array.mem_of_getElem? hy))
theorem mS(w0:W0){l:Nat}{zs:List Int}{S:St}(hl:lk S.acc l=some (.arr 1 (zs.map dI)))(hsz:zs.length<4611686018427387904):
 aa Tryz.prog w0 51 [.acc l zs.length] S (fun d S'=>d= .bD []∧S'=⟨S.box,up S.acc l (.arr 1 ((dh zs).map dI))⟩):=by
 intro g vs w h1 h2
 obtain⟨u,us,hvs,hr,h3⟩:=h2.bP
 have hus:us=[]:=List.eq_nil_of_length_eq_zero (by have:=h3.len;simpa using this.symm)
 subst hus
 have hvs':vs= #[u]:=by rw[←Array.toArray_toList (xs:=vs),hvs]
 subst hvs'
 obtain⟨o,c,hv,ha⟩:=ie hr
 subst hv
 by_cases hz:zs=[]
 ·subst hz
  refine(Tryz.slices_Sort_int_none o c w).mono ?_
  rintro e w' ⟨rfl,rfl⟩
  refine⟨_,g,.bD [],_,rfl,.refl g,?_,.bD [] [] rfl (by intro i d u h;simp at h),rfl,rfl⟩
  have:dh []=[]:=by simp[dh]
  rw[this,Fm hl]
  exact h1
 ·have hpos:0<zs.length:=List.length_pos_iff.2 hz
  obtain⟨ow,hO⟩:=h1.open_
  obtain⟨hs,⟨he,o2,_⟩|⟨b,c2,cs,e,q1,q2,q3,q4,q5,q6,q7,q8,q8x,us,q9,q10,q11,q12⟩⟩:=hO.acc l _ (cn hl)
  ·exact absurd (by simpa using he) hz
  ·rw[List.length_map]at q1 q7
   have q1':=q1
   rw[ha]at q1
   simp only[Option.some.injEq,Value.slice.injEq,true_and]at q1
   obtain⟨rfl,rfl⟩:=q1
   rw[Nat.mul_one]at q6
   have hul:us.length=zs.length:=by have:=q9.len;simpa using this.symm
   have hus:∀(i:Nat) (a:Int),zs[i]? =some a→us[i]? =some (.int .i64 a):=by
    intro i a hi
    have hlt:i<us.length:=by rw[hul];exact(List.getElem?_eq_some_iff.1 hi).1
    have hu:us[i]? =some us[i]:=List.getElem?_eq_getElem hlt
    have:=q9.at_ i (dI a) _ (by simp[hi]) hu
    have:=ay this
    rw[hu,this]
   have hcs:∀(i:Nat) (a:Int),zs[i]? =some a→cs[i]? =some (.int .i64 a):=by
    intro i a hi
    have:=q12 i _ 0 _ (hus i a hi) (show(Value.int IntKind.i64 a).cells[0]? =some (.int .i64 a)by rfl)
    simpa using this
   have hH:Go.Sort.Holds (Value.int .i64) w b 0 zs.toArray:=by
    intro j hj
    have hj':j<zs.length:=by simpa using hj
    have hi:zs[j]? =some zs[j]:=List.getElem?_eq_getElem hj'
    constructor
    ·rw[cL q5,Nat.zero_add,hcs j _ hi,Au hi]
    ·simp[World.frozen?,q5]
   refine(Tryz.slices_Sort_int b 0 c zs w hH (da q5) hsz).mono ?_
   rintro ex w' ⟨rfl,n,os,rfl⟩
   obtain⟨cs',h5,h6,h7,h8⟩:=zc (n:=n) (os:=os) (zs:=dh zs) q5 (by rw[bc];omega)
   refine⟨_,g,.bD [],_,rfl,.refl g,?_,.bD [] [] rfl (by intro i d u h;simp at h),rfl,rfl⟩
   refine h1.I7 (us:=(dh zs).map fun a=>Value.int .i64 a) (b:=b) (c:=c) (e:=e) (cs:=cs') hl (by rw[List.length_map];exact ha) (by simp[bc]) (by omega) h5 (by omega) ?_ (by simp) ?_ ?_ ?_ ?_ ?_ fun x hx=>(h8 x hx).elim (q8x x) fun⟨a,e⟩=>by rw[e];rfl
   ·refine h1.below.step ⟨rfl,rfl,rfl,by simp,fun k hk=>?_,Nat.le_add_right _ _⟩ b (mq q5) fun k hk hne=>?_
    ·rw[Go.Sort.heap_grow_old _ _ (by simp;exact Nat.lt_of_lt_of_le hk h1.below.size)]
     have:b≠k:=by omega
     simp[Go.Sort.putRow,Go.Sort.mapBlock,Array.getElem?_modify,this]
    ·rw[Go.Sort.heap_grow_old _ _ (by simp;exact hk)]
     have:b≠k:=fun e=>hne e.symm
     simp[Go.Sort.putRow,Go.Sort.mapBlock,Array.getElem?_modify,this]
   ·intro k hk hne
    rw[Go.Sort.heap_grow_old _ _ (by simp;exact hk)]
    have:b≠k:=fun e=>hne e.symm
    simp[Go.Sort.putRow,Go.Sort.mapBlock,Array.getElem?_modify,this]
   ·exact⟨by simp,fun i d u a1 a2=>by
     simp only[List.getElem?_map,Option.map_eq_some_iff]at a1 a2
     obtain⟨x,hx,rfl⟩:=a1
     obtain⟨y,hy,rfl⟩:=a2
     rw[hx]at hy;cases hy
     exact .v _ rfl⟩
   ·intro i u hi
    simp only[List.getElem?_map,Option.map_eq_some_iff]at hi
    obtain⟨x,_,rfl⟩:=hi;rfl
   ·intro u hu x hx
    obtain⟨a,_,rfl⟩:=List.mem_map.1 hu
    simp[Value.cells]at hx
    subst hx;rfl
   ·intro i u j x hi hj
    simp only[List.getElem?_map,Option.map_eq_some_iff]at hi
    obtain⟨a,ha',rfl⟩:=hi
    have hj0:j=0:=by have:=(Array.getElem?_eq_some_iff.1 hj).1;simp[Value.cells]at this;exact this
    subst hj0
    simp[Value.cells]at hj
    subst hj
    simpa using h7 i a ha'
theorem QG(w0:W0)(x:N)(S:St):aa Tryz.prog w0 225 [eT x] S (fun d S'=>d=dB (decide (x.aq≠0))∧S'=S):=by
 refine aZ [] mx Tryz.func225 rfl rfl (by kernel_rfl) ?_;(refine @ab _ ?_;exact mc @Tryz.ntmps225)
theorem Ut(w0:W0)(x:N)(S:St):aa Tryz.prog w0 151 [eT x] S (fun d S'=>d=dB false∧S'=S):=by
 refine aZ [] mx Tryz.func151 rfl rfl (by kernel_rfl) ?_;(refine @ab _ ?_;exact mc @Tryz.ntmps151)
def Uv(c:C):Nat:=if c.ak=[]then need (c.data.size:Int)else 0
def wx(l:List C):Nat:=(l.map Uv).sum
def D9(x:N):Nat:=if x.aq≠0 then 0 else if x.leaf=true∧x.l=[]then 0 else 1+wx (if x.leaf then x.l else [])
theorem Ag{l:List C}{k:Nat}{c:C}(h:l[k]? =some c):wx (l.take (k+1))=wx (l.take k)+Uv c:=by
 unfold wx
 rw[List.take_add_one,h];simp
theorem Bb(l:List C)(k:Nat):wx (l.take k)≤wx l:=by
 have:=congrArg wx (List.take_append_drop k l)
 simp only[wx,List.map_append,List.sum_append]at this ⊢
 omega
def yC(l:List N):Nat:=(l.map D9).sum
theorem I5(l:List N)(x:N):yC (l++[x])=yC l+D9 x:=by simp[yC]
theorem NO{l m:List N}(h:l <+: m):yC l≤yC m:=by
 obtain⟨t,rfl⟩:=h
 simp[yC]
def laidB(x:N):Bool:=decide (x.aq≠0)
theorem TI(w0:W0)(n:N)(S:St)(hV:(dj laidB n).length≤1048576)(hF:yC (dj laidB n)≤1099511627776)(hl:∀x,x∈dj laidB n→x.l.length≤1048576):
 aa Tryz.prog w0 180 [eT n] S (fun d S'=>d=dI (yC (dj laidB n))∧S'=S):=by
 refine aZ [] mx Tryz.func180 rfl rfl (by kernel_rfl) ?_;(refine @ab _ ?_;refine an @Tryz.ntmps180 ?_)
 intro b b1 b2
 refine bA (Ml w0 n 225 _) ?_
 rintro d S' ⟨b3,b4,rfl,rfl⟩
 (refine @ab _ ?_;refine au ?_)
 refine qp [11] (fun pre=>⟨(b4.n,[.v (.func (.func 225) #[] #[])])::(b3.n,cT n)::(b2.n,[dI (yC pre)])::(b1.n,[.v (.func (.func 225) #[] #[])])::(b.n,cT n)::S.box,S.acc⟩) (fun x=>[eT x]) (dj laidB n) mx (by kernel_rfl) rfl rfl rfl (fun _=>rfl) (fun _=>rfl) (fun _=>rfl) ?_ ?_ ?_
 ·intro l w1 hy T hT
  exact Q7 w1 l b3.n b4.n n laidB 225 _ _ hV (Nat.le_refl _) (fun _=>by(refine @ab _ ?_;exact aV)) (fun _=>by(refine @ab _ ?_;exact aV)) (by simp only[go_sem]) (fun x T=>QG w1 x T) (fun _=>rfl) (fun _=>rfl) hy T hT
 ·intro pre x T hp hT
  have t2:lk T.box b2.n=some [dI (yC pre)]:=hT.box _ _ (by(refine @ab _ ?_;exact aV))
  have t1:lk T.box b1.n=some [.v (.func (.func 225) #[] #[])]:=hT.box _ _ (by(refine @ab _ ?_;exact aV))
  simp only[ji]
  (refine @ab _ ?_;refine ba @t1 @t2 ?_)
  intro b5
  refine ao (QG w0 x _) ?_
  have hfr:=I5 pre x
  have hfp:=Nat.le_trans (NO hp) hF
  have hxl:=hl x (by obtain⟨t,ht⟩:=hp;rw[←ht];simp)
  have hb5:¬b5.n=b2.n:=fun e=>by have:=jt b5;rw[e,t2]at this;cases this
  have h1:D9 x=if x.aq≠0 then 0 else if x.leaf=true∧x.l=[]then 0 else 1+wx (if x.leaf then x.l else []):=rfl
  have hH:∀v,v=(yC (pre++[x]):Int)→Has _ ⟨up T.box b2.n [dI v],T.acc⟩:=fun v hv=>by rw[hv];exact xJ hT _
  have hu:∀v:Int,up ((b4.n,[.v (.func (.func 225) #[] #[])])::(b3.n,cT n)::(b2.n,[dI (yC pre)])::(b1.n,[.v (.func (.func 225) #[] #[])])::(b.n,cT n)::S.box) b2.n [dI v]=(b4.n,[.v (.func (.func 225) #[] #[])])::(b3.n,cT n)::(b2.n,[dI v])::(b1.n,[.v (.func (.func 225) #[] #[])])::(b.n,cT n)::S.box:=fun v=>by(refine @ab _ ?_;exact aV)
  have hK:∀v,Kp ⟨(b4.n,[.v (.func (.func 225) #[] #[])])::(b3.n,cT n)::(b2.n,[dI (yC pre)])::(b1.n,[.v (.func (.func 225) #[] #[])])::(b.n,cT n)::S.box,S.acc⟩ T ⟨up T.box b2.n v,T.acc⟩:=fun v=>Kp.up (by(refine @ab _ ?_;exact aV))
  simp only[hu]at hH
  (refine @ab _ ?_;refine ba @t1 @t2 ?_)
  refine⟨fun hp0=>?_,fun hp0=>⟨fun hlf=>⟨fun hl0=>?_,fun hl0=>?_⟩,fun hlf=>?_⟩⟩
  ·rw[if_pos hp0]at h1
   rw[h1]at hfr
   rw[hfr]
   exact⟨hT.bu b5 _ rfl,(Kp.refl _ _).bu b5 _ rfl⟩
  ·have hl1:x.l=[]:=List.eq_nil_of_length_eq_zero (by omega)
   rw[if_neg hp0,if_pos ⟨hlf,hl1⟩]at h1
   rw[h1]at hfr
   rw[hfr]
   exact⟨hT.bu b5 _ rfl,(Kp.refl _ _).bu b5 _ rfl⟩
  all_goals
   have hlL:(if x.leaf=true then x.l else []).length≤1048576:=by split <;>first|exact hxl|exact Nat.zero_le _
   generalize hL:(if x.leaf=true then x.l else [])=L at*
   have h1:D9 x=1+wx L:=by
    rw[h1,if_neg hp0,if_neg (fun e=>by simp_all)]
   refine aF [11] L.length [3,4,11,28,29,30] (fun k=>[(30,dI k)]) (fun k=>⟨up T.box b2.n [dI ((yC pre+1+wx (L.take k):Nat):Int)],T.acc⟩) (fun _=>True) mx (by kernel_rfl) ?_ ?_
   ·(refine @ab _ ?_;refine au ?_)
    refine .bu ?_
    rw[show IntKind.i64.wrap ((yC pre:Int)+1)=((yC pre+1+wx []:Nat):Int)from by rw[aX (by omega) (by omega)];simp[wx]]
    exact .refl _
   ·intro k hk _
    have e2:∀z:List DV,lk (up T.box b2.n z) b2.n=some z:=fun z=>by rw[ax,t2];rfl
    have hle:=Bb L k
    (refine @ab _ ?_;refine ba @t1 @t2 ?_)
    refine⟨fun hlt=>⟨hlt,fun c hc b6=>⟨fun hp0=>?_,fun hp0=>⟨hlt,by rw[aX (by omega) (by omega)];omega,.bu ?_⟩⟩⟩,fun hge=>?_⟩
    ·have hne:¬b6.n=b2.n:=fun e=>by have:=jt b6;rw[e,e2]at this;cases this
     have hpl:c.ak=[]:=List.eq_nil_of_length_eq_zero (by omega)
     refine P1 mx (by kernel_rfl) ?_
     (refine @ab _ ?_;refine ba @e2 @hne ?_)
     refine N1 (fun B hB=>Ap w0 _ _) ?_
     have hc1:Uv c=need (c.data.size:Int):=if_pos hpl
     have hs:=Ag hc
     have hle':=Bb L (k+1)
     (refine @ab _ ?_;refine eW @e2 @hne @rE ?_)
     refine⟨hlt,by rw[aX (by omega) (by omega)];omega,.bu ?_⟩
     rw[show IntKind.i64.wrap (((yC pre+1+wx (L.take k):Nat):Int)+(need (c.data.size:Int):Int))=((yC pre+1+wx (L.take (k+1)):Nat):Int)from by rw[aX (by omega) (by omega)];omega]
     exact .refl _
    ·rw[Ag hc,show Uv c=0 from if_neg fun e=>by rw[e]at hp0;exact hp0 rfl]
     exact .refl _
    ·have hkL:k=L.length:=by omega
     rw[hkL,List.take_length]
     exact⟨hH _ (by omega),hK _⟩
 ·(refine @ab _ ?_;exact aV)
def KD(x:N):List Int:=(if x.aq≠0 then [x.aq]else [])++(if x.leaf then x.l else []).flatMap C.ak
def me(l:List N):List Int:=l.flatMap KD
theorem zn(l:List N)(x:N):me (l++[x])=me l++KD x:=by simp[me]
theorem OX{l m:List N}(h:l <+: m):(me l).length≤(me m).length:=by
 obtain⟨t,rfl⟩:=h
 simp[me]
def qC(x:N):Bool:=false
theorem RK(w0:W0)(n:N)(S:St)(hV:(dj qC n).length≤1048576)(hF:(me (dj qC n)).length≤1073741824)(hl:∀x,x∈dj qC n→x.l.length≤1048576):
 aa Tryz.prog w0 98 [eT n] S (fun d S'=>∃m:FN S.acc,d= .acc m.n (me (dj qC n)).length∧S'=⟨S.box,(m.n,.arr 1 ((dh (me (dj qC n))).map dI))::S.acc⟩):=by
 refine vF [] mx Tryz.func98 rfl rfl (by kernel_rfl) ?_;(refine @ab _ ?_;refine an @Tryz.ntmps98 ?_)
 intro b b1
 refine bA (Ml w0 n 151 _) ?_
 rintro d S' ⟨b3,b4,rfl,rfl⟩
 (refine @ab _ ?_;refine au ?_)
 refine ib b1.n 0 1 (by omega) (ds:=[.sl 0 true []]) (by(refine @ab _ ?_;exact aV)) rfl fun lb=>?_
 (refine @ab _ ?_;refine au ?_)
 refine qp [] (fun pre=>⟨(b4.n,[.v (.func (.func 151) #[] #[])])::(b3.n,cT n)::(b1.n,[.acc lb.n (me pre).length])::(b.n,cT n)::S.box,(lb.n,.arr 1 ((me pre).map dI))::S.acc⟩) (fun x=>[eT x]) (dj qC n) mx (by kernel_rfl) rfl rfl rfl (fun _=>rfl) (fun _=>rfl) (fun _=>rfl) ?_ ?_ ?_
 ·intro l w1 hy T hT
  exact Q7 w1 l b3.n b4.n n qC 151 _ _ hV (Nat.le_refl _) (fun _=>by(refine @ab _ ?_;exact aV)) (fun _=>by(refine @ab _ ?_;exact aV)) (by simp only[go_sem]) (fun x T=>Ut w1 x T) (fun _=>rfl) (fun _=>rfl) hy T hT
 ·intro pre x T hp hT
  have t1:lk T.box b1.n=some [.acc lb.n (me pre).length]:=hT.box _ _ (by(refine @ab _ ?_;exact aV))
  have u1:lk T.acc lb.n=some (.arr 1 ((me pre).map dI)):=hT.acc _ _ (by(refine @ab _ ?_;exact aV))
  have hxl:=hl x (by obtain⟨t,ht⟩:=hp;rw[←ht];simp)
  have hpl:=Nat.le_trans (OX hp) hF
  rw[zn]at hpl
  have h1:KD x=(if x.aq≠0 then [x.aq]else [])++(if x.leaf then x.l else []).flatMap C.ak:=rfl
  rw[List.length_append]at hpl
  have hH:∀l:List Int,l=me (pre++[x])→Has _ ⟨up T.box b1.n [.acc lb.n l.length],up T.acc lb.n (.arr 1 (l.map dI))⟩:=fun v hv=>by rw[hv];exact Bn hT _ _
  have hu:∀(l:List Int),(⟨up ((b4.n,[.v (.func (.func 151) #[] #[])])::(b3.n,cT n)::(b1.n,[.acc lb.n (me pre).length])::(b.n,cT n)::S.box) b1.n [.acc lb.n l.length],up ((lb.n,.arr 1 ((me pre).map dI))::S.acc) lb.n (.arr 1 (l.map dI))⟩:St)=⟨(b4.n,[.v (.func (.func 151) #[] #[])])::(b3.n,cT n)::(b1.n,[.acc lb.n l.length])::(b.n,cT n)::S.box,(lb.n,.arr 1 (l.map dI))::S.acc⟩:=fun v=>by(refine @ab _ ?_;exact aV)
  have hK:∀v o,Kp ⟨(b4.n,[.v (.func (.func 151) #[] #[])])::(b3.n,cT n)::(b1.n,[.acc lb.n (me pre).length])::(b.n,cT n)::S.box,(lb.n,.arr 1 ((me pre).map dI))::S.acc⟩ T ⟨up T.box b1.n v,up T.acc lb.n o⟩:=fun v o=>Kr (by(refine @ab _ ?_;exact aV)) (by(refine @ab _ ?_;exact aV))
  simp only[hu]at hH
  simp only[ji]
  (refine @ab _ ?_;refine ba @t1 @u1 ?_)
  intro b5
  have hb5:¬b5.n=b1.n:=fun e=>by have:=jt b5;rw[e,t1]at this;cases this
  have hm8:maxLen=9223372036854775807:=rfl
  refine⟨fun hp0=>⟨by omega,by omega,?_⟩,fun hp0=>?_⟩
  all_goals
   have hlL:(if x.leaf=true then x.l else []).length≤1048576:=by split <;>first|exact hxl|exact Nat.zero_le _
   generalize hL:(if x.leaf=true then x.l else [])=L at*
   obtain⟨P0,hP0⟩:∃P0,P0=me pre++(if x.aq≠0 then [x.aq]else []):=⟨_,rfl⟩
   have hx:me (pre++[x])=P0++L.flatMap C.ak:=by rw[zn,h1,hP0,List.append_assoc]
   have hxlen:P0.length+(L.flatMap C.ak).length≤1073741824:=by
    rw[h1]at hpl
    rw[hP0]
    simp only[List.length_append]at hpl ⊢
    omega
   have htk:∀k,((L.take k).flatMap C.ak).length≤(L.flatMap C.ak).length:=fun k=>by
    have:=congrArg (List.flatMap C.ak) (List.take_append_drop k L)
    have:=congrArg List.length this
    simp only[List.flatMap_append,List.length_append]at this
    omega
   refine aF [] L.length [3,9,19,20,21] (fun k=>[(21,dI k)]) (fun k=>⟨up T.box b1.n [.acc lb.n (P0++(L.take k).flatMap C.ak).length],up T.acc lb.n (.arr 1 ((P0++(L.take k).flatMap C.ak).map dI))⟩) (fun _=>True) mx (by kernel_rfl) ?_ ?_
   ·(refine @ab _ ?_;refine au ?_)
    refine .bu ?_
    first
     |(rw[if_pos (show x.aq≠0 from hp0)]at hP0
       subst hP0
       simp only[List.flatMap_nil,List.length_append,List.length_cons,List.length_nil,Nat.add_zero,Nat.zero_add,List.append_nil,List.map_append,List.map_cons,List.map_nil]
       exact .refl _)
     |(rw[if_neg (show¬x.aq≠0 from hp0),List.append_nil]at hP0
       subst hP0
       simp only[List.flatMap_nil,List.length_nil,Nat.add_zero,List.append_nil]
       rw[Fg t1,Fg u1]
       exact .refl _)
   ·intro k hk _
    have e2:∀z:List DV,lk (up T.box b1.n z) b1.n=some z:=fun z=>by rw[ax,t1];rfl
    have e3:∀z:Ob,lk (up T.acc lb.n z) lb.n=some z:=fun z=>by rw[ax,u1];rfl
    have htk0:=htk k
    have htk1:=htk (k+1)
    have hsu:∀{c:C},L[k]? =some c→(L.take (k+1)).flatMap C.ak=(L.take k).flatMap C.ak++c.ak:=fun{c} hc=>by rw[List.take_add_one,hc];simp
    (refine @ab _ ?_;refine eW @e2 @e3 @rE ?_)
    refine⟨fun hlt=>⟨hlt,fun c hc b6=>?_⟩,fun hge=>?_⟩
    ·have hs:=hsu hc
     have hs2:=congrArg List.length hs
     rw[List.length_append]at hs2
     refine⟨by omega,by omega,hlt,by rw[aX (by omega) (by omega)];omega,.bu ?_⟩
     rw[hs]
     simp only[List.length_append,Nat.add_assoc,List.append_assoc]
     exact .refl _
    ·have hkL:k=L.length:=by omega
     rw[hkL,List.take_length]
     rw[hkL,List.take_length]at htk0
     have hxl2:=congrArg List.length hx
     rw[List.length_append]at hxl2
     refine⟨?_,hK _ _⟩
     have:=hH (P0++L.flatMap C.ak) hx.symm
     rw[List.length_append]at this
     exact this
 ·(refine @ab _ ?_;refine au ?_)
  refine .inl ?_
  refine bA (mS w0 (S:=⟨_,(lb.n,.arr 1 ((me (dj qC n)).map dI))::S.acc⟩) (l:=lb.n) (zs:=me (dj qC n)) (by(refine @ab _ ?_;exact aV)) (by omega)) ?_
  rintro d S' ⟨rfl,rfl⟩
  (refine @ab _ ?_;refine au ?_)
  exact⟨_,_,.refl _,.bu (.bu (.bu (.bu (.refl _)))),lb,rfl,rfl⟩
theorem Yt(w0:W0)(a:Int)(S:St):aa Tryz.prog w0 213 [dI a] S (fun d S'=>d=dB false∧S'=S):=by
 refine aZ [] mx Tryz.func213 rfl rfl (by kernel_rfl) ?_;(refine @ab _ ?_;exact mc @Tryz.ntmps213)
theorem YQ(w0:W0)(a:Int)(S:St):aa Tryz.prog w0 230 [dI a] S (fun d S'=>d=dB false∧S'=S):=by
 refine aZ [] mx Tryz.func230 rfl rfl (by kernel_rfl) ?_;(refine @ab _ ?_;exact mc @Tryz.ntmps230)
theorem Va(w0:W0)(a b:Int)(S:St):aa Tryz.prog w0 158 [dI a,dI b] S (fun d S'=>d=dB (decide (a<b))∧S'=S):=by
 refine aZ [] mx Tryz.func158 rfl rfl (by kernel_rfl) ?_;(refine @ab _ ?_;refine an @Tryz.ntmps158 ?_)
 refine ao (Yt w0 a S) ?_
 (refine @ab _ ?_;exact aV)
def Up(l:List Int):Prop:=∀(i j:Nat) (a b:Int),i≤j→l[i]? =some a→l[j]? =some b→a≤b
theorem OF(w0:W0)(l:List Int)(p:Int)(S:St)(hl:Up l)(hb:l.length≤1073741824):aa Tryz.prog w0 184 [dL l,dI p] S (fun d S'=>d= .bD [.any,dB (decide (p∈l))]∧S'=S):=by
 refine aZ [] mx Tryz.func184 rfl rfl (by kernel_rfl) ?_;(refine @ab _ ?_;refine an @Tryz.ntmps184 ?_)
 refine jR [] [0,1,6,7,8] (fun s:Nat×Nat=>[(7,dI s.1),(8,dI s.2)]) (fun _=>S) (fun s=>s.1≤s.2∧s.2≤l.length∧(∀(i:Nat) a,i<s.1→l[i]? =some a→a<p)∧∀(i:Nat) a,s.2≤i→l[i]? =some a→p≤a) (fun s=>s.2-s.1) (0,l.length) mx (by kernel_rfl) ?_ ?_
 ·(refine @ab _ ?_;refine au ?_)
  exact⟨Nat.zero_le _,fun i a h=>absurd h (by omega),fun i a h e=>absurd (List.getElem?_eq_some_iff.1 e).1 (by omega)⟩
 ·rintro⟨i,j⟩ ⟨h1,h2,h3,h4⟩
  simp only at h1 h2 h3 h4
  have eh:IntKind.i64.wrap ((IntKind.u64.wrap (IntKind.i64.wrap ((i:Int)+j))).fdiv (2^min 1 64))=(((i+j)/2:Nat):Int):=by
   rw[aX (n:=(i:Int)+j) (by omega) (by omega),gJ (by omega) (by omega),Int.fdiv_eq_ediv_of_nonneg _ (by decide)]
   simp only[show min 1 64=1 from rfl,Int.pow_one]
   rw[aX (by omega) (by omega)]
   omega
  (refine @ab _ ?_;refine an @eh ?_)
  refine⟨fun hlt=>⟨by omega,fun a ha=>ao (Va w0 a p S) ?_⟩,fun hge=>⟨fun hlt=>⟨hlt,fun a ha=>⟨fun hap=>Wk.bD (.cons (.any _) (.cons (.eq ?_) .nil)),fun hap=>⟨hlt,fun c hc=>ao (YQ w0 c S) ?_⟩⟩⟩,fun hn=>?_⟩⟩
  ·(refine @ab _ ?_;refine an @eh ?_)
   refine⟨fun hap=>⟨((i+j)/2+1,j),⟨by simp only;omega,h2,fun x c hx hc=>?_,h4⟩,by simp only;omega,by rw[aX (by omega) (by omega)];rfl,rfl⟩,fun hap=>⟨(i,(i+j)/2),⟨by simp only;omega,by simp only;omega,h3,fun x c hx hc=>?_⟩,by simp only;omega,rfl,rfl⟩⟩
   ·simp only at hx
    have:=hl x ((i+j)/2) c a (by omega) hc ha
    omega
   ·simp only at hx
    have:=hl ((i+j)/2) x a c hx ha hc
    omega
  ·have hin:p∈l:=hap▸List.mem_of_getElem? ha
   rw[decide_eq_true hin]
  ·(refine @ab _ ?_;refine au ?_)
   have hni:¬p∈l:=fun hin=>by
    obtain⟨x,hx⟩:=List.mem_iff_getElem?.1 hin
    rcases Nat.lt_or_ge x i with h|h
    ·have:=h3 x p h hx;omega
    ·have hle:=hl i x a p h ha hx
     have:=h4 i a (by omega) ha
     omega
   rw[decide_eq_false hni]
   exact Wk.bD (.cons (.any _) (.cons (.refl _) .nil))
  ·have hni:¬p∈l:=fun hin=>by
    obtain⟨x,hx⟩:=List.mem_iff_getElem?.1 hin
    have hxl:=(List.getElem?_eq_some_iff.1 hx).1
    have:=h3 x p (by omega) hx
    omega
   rw[decide_eq_false hni]
   exact Wk.bD (.cons (.any _) (.cons (.refl _) .nil))
def l4(l:List Int)(p:Int):Bool:=decide (p∈l)
def gg(l zs:List Int):List Int:=zs.filter fun p=>!l4 l p
def CG(l zs:List Int):Int:=if zs.findIdx (l4 l)<zs.length then(zs.findIdx (l4 l):Int)else -1
theorem S5(l:List Int):Up (dh l):=by
 have hp:(dh l).Pairwise (fun x y=>decide (x≤y)=true):=List.pairwise_mergeSort (by intro a b c;simp;omega) (by intro a b;simp;omega) l
 intro i j a b hij ha hb
 obtain⟨hi,rfl⟩:=List.getElem?_eq_some_iff.1 ha
 obtain⟨hj,rfl⟩:=List.getElem?_eq_some_iff.1 hb
 rcases Nat.lt_or_ge i j with h|h
 ·have:=List.pairwise_iff_getElem.1 hp i j hi hj h
  simpa using this
 ·have:i=j:=by omega
  subst this;exact Int.le_refl _
def iV(n:N):List Int:=dh (me (dj qC n))
theorem JM{z:Nat}(h:z≤400)(f:Int):(qj f (fA z)).length≤4:=by rw[Dv];exact LC h
theorem n9(b:Bool):∀{l:List C} {f:Int} {x:C},x∈(gx b l f).1→∃c f',c∈l∧x=(uw b c f').1
 |c::l,f,x,h=>by
  simp only[gx]at h
  rcases List.mem_cons.1 h with e|h
  ·exact⟨c,f,List.mem_cons_self,e⟩
  ·obtain⟨c',f',h1,h2⟩:=n9 b h
   exact⟨c',f',List.mem_cons_of_mem _ h1,h2⟩
theorem pR(n:N)(f:Int):(kF n f).1.l=(gx n.leaf n.l f).1:=by rw[y6];split <;>rfl
theorem tj(n:N)(f:Int):(kF n f).1.leaf=n.leaf:=by rw[y6];split <;>rfl
theorem w9:∀{d:Nat} {n:N} (f:Int),Nd d n→Nd d (kF n f).1
 |0,n,f,h=>by
  refine⟨by rw[tj];exact h.1,fun x hx=>?_⟩
  rw[pR,h.1]at hx
  obtain⟨c,f',hc,rfl⟩:=n9 true hx
  obtain⟨h1,h2⟩:=h.2 c hc
  rw[uR]
  refine⟨⟨h1.1,h1.2.1,?_⟩,h2⟩
  show(if 16<c.data.size then qj f' (fA c.data.size)else c.ak).length≤4
  split
  ·exact JM h1.2.1 _
  ·exact h1.2.2
 |d+1,n,f,h=>by
  refine⟨by rw[tj];exact h.1,?_,fun x hx=>?_⟩
  ·rw[pR]
   intro e
   have:=uY n.leaf n.l f
   rw[e]at this
   exact h.2.1 (List.eq_nil_of_length_eq_zero this.symm)
  ·rw[pR,h.1]at hx
   obtain⟨c,f',hc,rfl⟩:=n9 false hx
   obtain⟨h1,k,hk,hnd⟩:=h.2.2 c hc
   rw[zR hk]
   exact⟨⟨h1.1,h1.2.1,h1.2.2⟩,_,rfl,w9 f' hnd⟩
theorem zP:∀{d:Nat} {n:N} (f:Int),Nd d n→bw (kF n f).1=bw n:=by
 have cs:∀(b:Bool) (l:List C) (f:Int),(∀c,c∈l→∀f,lJ (uw b c f).1=lJ c)→kR (gx b l f).1=kR l:=by
  intro b l
  induction l with
  |nil=>intro f _;rfl
  |cons c l ih=>
   intro f h
   simp only[gx,bj]
   rw[h c List.mem_cons_self,ih _ fun c hc=>h c (List.mem_cons_of_mem _ hc)]
 intro d
 induction d with
 |zero=>
  intro n f h
  rw[aL,aL,pR,h.1]
  refine cs true n.l f fun c hc f=>?_
  rw[uR,eR,eR];rfl
 |succ d ih=>
  intro n f h
  rw[aL,aL,pR,h.1]
  refine cs false n.l f fun c hc f=>?_
  obtain⟨_,k,hk,hnd⟩:=h.2.2 c hc
  rw[zR hk,cK hk,cK (k:=(kF k f).1) rfl,ih f hnd]
structure Wt where
 bE:Int
 ak:List Int
 deriving DecidableEq
structure Pl where
 high:Int
 free:List Int
 wait:List Wt
 deriving DecidableEq
@[go_sem] def dW (w:Wt):DV:= .agg [dU w.bE,.sl 1 false (w.ak.map dI)]
@[go_sem] def dP (p:Pl):DV:= .agg [dI p.high,.sl 1 false (p.free.map dI),.sl 2 false (p.wait.map dW)]
def nW(l:List Wt):Nat:=(l.map fun w=>w.ak.length).sum
theorem Ep{l:List Wt}{k:Nat}{a:Wt}(h:l[k]? =some a):nW (l.take (k+1))=nW (l.take k)+a.ak.length:=by
 unfold nW
 rw[List.take_add_one,h]
 simp
theorem Q2(l:List Wt)(k:Nat):nW (l.take k)≤nW l:=by
 have:nW l=nW (l.take k)+nW (l.drop k):=by
  unfold nW
  rw[←List.sum_append,←List.map_append,List.take_append_drop]
 omega
theorem waiting(w0:W0)(p:Pl)(S:St)(hl:p.wait.length≤4611686018427387904)(hn:nW p.wait≤4611686018427387904):aa Tryz.prog w0 134 [dP p] S (fun d S'=>d=dI (nW p.wait)∧S'=S):=by
 refine aZ [] mx Tryz.func134 rfl rfl (by kernel_rfl) ?_;(refine @ab _ ?_;refine an @Tryz.ntmps134 ?_)
 intro b
 refine aF [] p.wait.length [3,7,8,9] (fun k=>[(3,dI (nW (p.wait.take k))),(9,dI k)]) (fun _=>S) (fun k=>True) mx (by kernel_rfl) ?_ ?_
 ·(refine @ab _ ?_;refine au ?_)
  simp[nW]
 ·intro k hk hinv
  (refine @ab _ ?_;refine au ?_)
  refine⟨fun hlt=>⟨hlt,fun a ha b'=>?_⟩,fun hge=>?_⟩
  ·have h1:=Ep ha
   have h2:=Q2 p.wait (k+1)
   rw[aX (by omega) (by omega),aX (by omega) (by omega)]
   omega
  ·rw[List.take_of_length_le (by omega)]
def Fv(l:List Int)(high:Int)(k:Nat):Prop:=∀(i:Nat) (a:Int),i<k→l[i]? =some a→2≤a∧a<high∧∀b,0<i→l[i-1]? =some b→b<a
def Row(l:List Int)(high:Int):Prop:=Fv l high l.length
theorem uz{l:List Int}{high:Int}{k:Nat}{a:Int}(h:Fv l high k)(ha:l[k]? =some a)(h1:2≤a)(h2:a<high)(h3:∀b,0<k→l[k-1]? =some b→b<a):Fv l high (k+1):=by
 intro i c hi hc
 by_cases e:i=k
 ·subst e;cases eE ha hc;exact⟨h1,h2,h3⟩
 ·exact h i c (by omega) hc
theorem mL{l:List Int}{high:Int}{k:Nat}{a:Int}(h:Row l high)(ha:l[k]? =some a):2≤a∧a<high∧∀b,0<k→l[k-1]? =some b→b<a:=
 h k a (List.getElem?_eq_some_iff.1 ha).1 ha
theorem row(w0:W0)(l:List Int)(high:Int)(S:St)(h0:l.length≤4611686018427387904):aa Tryz.prog w0 103 [dL l,dI high] S (fun d S'=>d=dB (pB (Row l high))∧S'=S):=by
 refine aZ [] mx Tryz.func103 rfl rfl (by kernel_rfl) ?_;simp(maxDischargeDepth:=12) (maxSteps:=1000000) -implicitDefEqProofs only[Tryz.ntmps103,go_sem,Nat.reduceAdd,Nat.reduceSub,Nat.reduceMul,Nat.reduceLeDiff,Nat.reduceEqDiff,Nat.reduceGT,Nat.reduceBEq,reduceCtorEq,↓reduceIte,Int.reduceToNat,Int.reduceLE,Int.reduceLT,Int.reduceNe,Int.reduceEq]
 refine aF [] l.length [0,1,7,8,9] (fun k=>[(9,dI k)]) (fun _=>S) (fun k=>Fv l high k) mx (by kernel_rfl) ?_ ?_
 ·(refine @ab _ ?_;refine au ?_)
  intro i a hi;omega
 ·intro k hk hup
  (refine @ab _ ?_;refine au ?_)
  simp +contextual (disch:=first|omega|assumption) only[aX,gJ,ZB,Option.some.injEq,forall_eq,forall_eq',forall_eq_apply_imp_iff,true_and,and_true,forall_const,true_implies,implies_true,not_true_eq_false,not_false_eq_true,false_implies,and_self,Int.toNat_natCast]
  refine⟨fun hlt a ha=>⟨fun h hr=>?_,fun h=>⟨fun h' hr=>?_,fun h'=>⟨fun hp=>⟨by omega,by omega,fun b hb=>?_⟩,fun hp=>?_⟩⟩⟩,fun hge=>?_⟩
  ·have:=mL hr ha;omega
  ·have:=mL hr ha;omega
  ·have e:((k:Int)-1).toNat=k-1:=by omega
   rw[e]at hb
   refine⟨fun hle hr=>?_,fun hle=>⟨uz hup ha (by omega) (by omega) fun c hc hcb=>?_,by omega⟩⟩
   ·have:=(mL hr ha).2.2 b (by omega) hb;omega
   ·cases eE hb hcb;omega
  ·exact⟨uz hup ha (by omega) (by omega) fun c hc hcb=>by omega,by omega⟩
  ·have e:k=l.length:=by omega
   subst e;exact hup
def du(p:Pl)(q:Int):Int:=p.free.length+if p.high<q then q-p.high else 0
theorem room(w0:W0)(p:Pl)(q:Int)(S:St)(h0:p.free.length≤1048576)(h1: -1099511627776≤p.high)(h2:p.high≤1099511627776)(h3: -1099511627776≤q)(h4:q≤1099511627776):aa Tryz.prog w0 178 [dP p,dI q] S (fun d S'=>d=dI (du p q)∧S'=S):=by
 refine aZ [] mx Tryz.func178 rfl rfl (by kernel_rfl) ?_;(refine @ab _ ?_;refine an @Tryz.ntmps178 ?_)
 intro b
 unfold du
 rw[aX (n:=q-p.high) (by omega) (by omega),aX (by omega) (by omega)]
 constructor
 ·intro h;rw[if_pos (by omega)]
 ·intro h;rw[if_neg (by omega)];omega
theorem V1(w0:W0)(n:Int)(S:St)(h0:0≤n)(h1:n≤1099511627776):aa Tryz.prog w0 96 [.sl 0 true [],dI n] S (fun d S'=>∃l:FN S.acc,d= .acc l.n 0∧S'=⟨S.box,(l.n,.arr 1 [])::S.acc⟩):=by
 refine gU (K':=fun d S'=>(d= .sl 0 true []∧S'=S)∨∃l:FN S.acc,d= .acc l.n 0∧S'=⟨S.box,(l.n,.arr 1 [])::S.acc⟩) ?_ 1 (by omega) ?_
 ·refine mf [] mx Tryz.func96 rfl rfl (by kernel_rfl) ?_;(refine @ab _ ?_;refine an @Tryz.ntmps96 ?_)
  have e1:IntKind.i64.wrap (0-0)=0:=aX (by omega) (by omega)
  rw[e1,Int.sub_zero,aX (by omega) (by omega)]
  refine⟨fun h=>by omega,fun h h2=>⟨by omega,by omega,by omega,fun l=> .inl ⟨⟨_,_,_,rfl⟩,by simp,fun l'=>⟨⟨l'.n,l'.h.2.2⟩,rfl,rfl⟩⟩⟩⟩
 ·rintro d S' (⟨rfl,rfl⟩|h)
  ·exact .inr ⟨⟨0,rfl⟩,fun l hl=>⟨⟨l,hl⟩,rfl,rfl⟩⟩
  ·exact .inl h
def flat(rows:List (List Int)):List Int:=rows.flatten
theorem vA{rows:List (List Int)}{k:Nat}{a:List Int}(h:rows[k]? =some a):flat (rows.take (k+1))=flat (rows.take k)++a:=by
 unfold flat
 rw[List.take_add_one,h]
 simp
theorem Fx(rows:List (List Int))(k:Nat):(flat (rows.take k)).length≤(flat rows).length:=by
 have:flat rows=flat (rows.take k)++flat (rows.drop k):=by
  unfold flat
  rw[←List.flatten_append,List.take_append_drop]
 rw[this];simp
theorem concat(w0:W0)(rows:List (List Int))(S:St)(h0:rows.length≤1099511627776)(h1:(flat rows).length≤1099511627776):
 aa Tryz.prog w0 48 [.sl 1 false (rows.map dL)] S (fun d S'=>∃l:FN S.acc,d= .acc l.n (flat rows).length∧S'=⟨S.box,(l.n,.arr 1 ((flat rows).map dI))::S.acc⟩):=by
 refine mf [] mx Tryz.func48 rfl rfl (by kernel_rfl) ?_;(refine @ab _ ?_;refine an @Tryz.ntmps48 ?_)
 refine aF [] rows.length [0,3,9,10,11] (fun k=>[(3,dI (flat (rows.take k)).length),(11,dI k)]) (fun _=>S) (fun k=>True) mx (by kernel_rfl) ?_ ?_
 ·(refine @ab _ ?_;refine au ?_)
  simp[flat]
 ·intro k hk _
  (refine @ab _ ?_;refine au ?_)
  refine⟨fun hlt=>⟨hlt,fun a ha=>?_⟩,fun hge=>?_⟩
  ·have h2:=vA ha
   have h3:=Fx rows (k+1)
   rw[h2,List.length_append]at h3
   rw[aX (by omega) (by omega)]
   refine⟨fun h=>by omega,fun h=>⟨hlt,?_,aX (by omega) (by omega)⟩⟩
   rw[h2,List.length_append];omega
  ·rw[List.take_of_length_le (by omega)]
   refine bA (V1 w0 (flat rows).length S (by omega) (by omega)) ?_
   rintro d S' ⟨l,rfl,rfl⟩
   (refine @ab _ ?_;refine au ?_)
   refine aF [] rows.length [6,25,26,27] (fun k=>[(6,.acc l.n (flat (rows.take k)).length),(27,dI k)]) (fun k=>⟨S.box,(l.n,.arr 1 ((flat (rows.take k)).map dI))::S.acc⟩) (fun k=>True) mx (by kernel_rfl) ?_ ?_
   ·(refine @ab _ ?_;refine au ?_)
    simp[flat,Wk.refl,Sub.refl]
   ·intro k hk _
    (refine @ab _ ?_;refine au ?_)
    refine⟨fun hlt=>⟨hlt,fun a ha=>?_⟩,fun hge=>⟨l,?_⟩⟩
    ·have h2:=vA ha
     have h3:=Fx rows (k+1)
     rw[h2,List.length_append]at h3
     refine⟨by omega,by unfold maxLen;omega,hlt,⟨?_,aX (by omega) (by omega)⟩,?_⟩
     ·rw[h2,List.length_append];exact .refl _
     ·rw[h2];exact .refl _
    ·rw[List.take_of_length_le (by omega)];exact⟨rfl,rfl⟩
theorem kA(w0:W0)(rows:List (List Int))(S:St)(h0:rows.length≤1099511627776)(h1:(flat rows).length≤1099511627776):
 aa Tryz.prog w0 73 [.sl 1 false (rows.map dL)] S (fun d S'=>d=dL (dh (flat rows))∧S'=S):=by
 refine aZ [] mx Tryz.func73 rfl rfl (by kernel_rfl) ?_;simp(maxDischargeDepth:=12) (maxSteps:=1000000) -implicitDefEqProofs only[Tryz.ntmps73,go_sem,Nat.reduceAdd,Nat.reduceSub,Nat.reduceMul,Nat.reduceLeDiff,Nat.reduceEqDiff,Nat.reduceGT,Nat.reduceBEq,reduceCtorEq,↓reduceIte,Int.reduceToNat,Int.reduceLE,Int.reduceLT,Int.reduceNe,Int.reduceEq]
 refine bA (concat w0 rows S h0 h1) ?_
 rintro d S' ⟨l,rfl,rfl⟩
 (refine @ab _ ?_;refine au ?_)
 refine .inl (bA (mS w0 (l:=l.n) (zs:=flat rows) (S:=⟨S.box,(l.n,.arr 1 ((flat rows).map dI))::S.acc⟩) (by simp[lk]) (by omega)) ?_)
 rintro d S' ⟨rfl,rfl⟩
 (refine @ab _ ?_;refine au ?_)
 exact bc _
def nP(l:List Wt):List (List Int):=l.map (·.ak)
def listed(p:Pl):List Int:=dh (flat (p.free::nP p.wait))
theorem IB{l:List Wt}{k:Nat}{a:Wt}(h:l[k]? =some a):nP (l.take (k+1))=nP (l.take k)++[a.ak]:=by
 unfold nP
 rw[List.take_add_one,h]
 simp
theorem Qt(l:List Wt)(k:Nat)(h:k≤l.length):(nP (l.take k)).length=k:=by unfold nP;rw[List.length_map,List.length_take];omega
theorem pF(f:List Int)(l:List Wt):(flat (f::nP l)).length=f.length+nW l:=by
 unfold flat nP nW
 simp[List.length_flatten]
 rfl
theorem yk(w0:W0)(p:Pl)(S:St)(h0:p.wait.length≤1048576)(h1:p.free.length+nW p.wait≤1048576):
 aa Tryz.prog w0 50 [dP p] S (fun d S'=>d=dL (listed p)∧S'=S):=by
 refine aZ [] mx Tryz.func50 rfl rfl (by kernel_rfl) ?_;simp(maxDischargeDepth:=12) (maxSteps:=1000000) -implicitDefEqProofs only[Tryz.ntmps50,go_sem,Nat.reduceAdd,Nat.reduceSub,Nat.reduceMul,Nat.reduceLeDiff,Nat.reduceEqDiff,Nat.reduceGT,Nat.reduceBEq,reduceCtorEq,↓reduceIte,Int.reduceToNat,Int.reduceLE,Int.reduceLT,Int.reduceNe,Int.reduceEq]
 intro b
 refine zp 3 (by omega) rfl fun l hl=>?_
 obtain⟨l,rfl⟩:∃b:FN S.acc,b.n=l:=⟨⟨l,hl⟩,rfl⟩
 clear hl
 (refine @ab _ ?_;refine au ?_)
 refine aF [] p.wait.length [3,10,11,12] (fun k=>[(3,.acc l.n (k+1)),(12,dI k)]) (fun k=>⟨S.box,(l.n,.tl 1 ((p.free::nP (p.wait.take k)).map dL))::S.acc⟩) (fun k=>True) mx (by kernel_rfl) ?_ ?_
 ·(refine @ab _ ?_;refine au ?_)
  exact .bu (.refl _)
 ·intro k hk _
  have hpl:=Qt p.wait k hk
  (refine @ab _ ?_;refine au ?_)
  refine⟨fun hlt=>⟨hlt,fun a ha b'=>?_⟩,fun hge=>?_⟩
  ·have h2:=IB ha
   have e:List.map dL (nP (List.take k p.wait))++[DV.sl 1 false (List.map dI a.ak)]=List.map dL (nP (List.take (k+1) p.wait)):=by rw[h2,List.map_append];rfl
   refine⟨hpl,by omega,by unfold maxLen;omega,hlt,⟨?_,aX (by omega) (by omega)⟩,?_⟩
   ·rw[hpl];exact .refl _
   ·rw[e];exact .bu (.refl _)
  ·rw[List.take_of_length_le (by omega)]
   refine .inr ?_
   refine⟨by unfold nP;rw[List.length_map];omega,?_⟩
   refine ao (kA w0 (p.free::nP p.wait) _ (by unfold nP;simp;omega) (by rw[pF];omega)) ?_
   (refine @ab _ ?_;refine au ?_)
   simp[listed,sj]
theorem bN(l:List Int):(dh l).Perm l:=List.mergeSort_perm l _
theorem qk(l:List Int):(dh l).Pairwise (·≤·):=by
 have:=List.pairwise_mergeSort (le:=fun x y:Int=>decide (x≤y)) (fun a b c h k=>by simp at *;omega) (fun a b=>by simp;omega) l
 exact this.imp fun h=>by simpa using h
theorem oJ{a b:List Int}(h1:a.Pairwise (·≤·))(h2:a.Perm b):a=dh b:=
 List.Perm.eq_of_pairwise (le:=(·≤·)) (fun x y _ _ h k=>Int.le_antisymm h k) h1 (qk b) (h2.trans (bN b).symm)
theorem vV{a b:List Int}(h:a.Perm b):dh a=dh b:=oJ (qk a) ((bN a).trans h)
theorem yP{a:List Int}(h:a.Pairwise (·≤·)):dh a=a:=(oJ h (.refl a)).symm
theorem wK{α:Type}{l:List α}{k:Nat}{a:α}(h:l[k]? =some a):l.take (k+1)=l.take k++[a]:=by rw[List.take_add_one,h];rfl
theorem LJ{α:Type}(f:α→Nat)(g:N→List α)(l:List N):((l.reverse.flatMap g).map f).sum=(l.map fun n=>((g n).map f).sum).sum:=by
 induction l with
 |nil=>rfl
 |cons a l ih=>rw[List.reverse_cons,List.flatMap_append,List.map_append,List.sum_append,ih,List.map_cons,List.sum_cons];simp;omega
def wT(ends:N→Bool)(f:N→Nat)(n:N):Nat:=((dj ends n).map f).sum
theorem Mx(ends:N→Bool)(f:N→Nat)(n:N):wT ends f n=f n+if ends n then 0 else((aN n).map (wT ends f)).sum:=by
 unfold wT
 rw[lK,List.map_cons,List.sum_cons]
 split
 ·rfl
 ·rw[LJ]
theorem ED(ends:N→Bool)(f:N→Nat)(hf:∀d x,Nd d x→f x≤1+if x.leaf then 4*x.l.length else 0):∀(d:Nat) (n:N),Nd d n→wT ends f n≤1+5*bw n
 |0,n,h=>by
  have h1:=hf 0 n h
  have h2:=df n
  rw[Mx,fW h.1]
  rw[h.1,if_pos rfl]at h1
  split <;>simp <;>omega
 |d+1,n,h=>by
  have h1:=hf _ n h
  rw[h.1,if_neg (by simp)]at h1
  rw[Mx,po h,aL]
  have:∀l:List C,(∀c,c∈l→c∈n.l)→((l.map aA).map (wT ends f)).sum≤5*kR l:=by
   intro l
   induction l with
   |nil=>intro _;exact Nat.zero_le _
   |cons c l ih=>
    intro hl
    obtain⟨_,k,hk,hnd⟩:=h.2.2 c (hl c List.mem_cons_self)
    have h1:=ih fun c hc=>hl c (List.mem_cons_of_mem _ hc)
    have h2:=ED ends f hf d k hnd
    rw[List.map_cons,List.map_cons,List.sum_cons,bx hk,bj,cK hk]
    omega
  have:=this n.l fun _ h=>h
  split <;>omega
theorem E5(ends:N→Bool){d:Nat}{n:N}(h:Nd d n):(dj ends n).length≤1+5*bw n:=by
 have:=ED ends (fun _=>1) (fun _ _ _=>by omega) d n h
 unfold wT at this
 have e:∀l:List N,(l.map fun _=>1).sum=l.length:=fun l=>by
  induction l with
  |nil=>rfl
  |cons a l ih=>rw[List.map_cons,List.sum_cons,ih,List.length_cons];omega
 rwa [e]at this
theorem FH(ends:N→Bool):∀(d:Nat) (n:N),Nd d n→∀x,x∈dj ends n→∃d',Nd d' x∧bw x≤bw n
 |0,n,h,x,hx=>by
  rw[lK,fW h.1]at hx
  have:x=n:=by
   rcases List.mem_cons.1 hx with e|hx
   ·exact e
   ·split at hx <;>cases hx
  subst this
  exact⟨0,h,Nat.le_refl _⟩
 |d+1,n,h,x,hx=>by
  rw[lK,po h]at hx
  rcases List.mem_cons.1 hx with rfl|hx
  ·exact⟨_,h,Nat.le_refl _⟩
  ·split at hx
   ·cases hx
   ·obtain⟨k,hk,hx⟩:=List.mem_flatMap.1 hx
    obtain⟨c,hc,rfl⟩:=List.mem_map.1 (List.mem_reverse.1 hk)
    obtain⟨_,k,hkid,hnd⟩:=h.2.2 c hc
    rw[bx hkid]at hx
    obtain⟨d',h1,h2⟩:=FH ends d k hnd x hx
    have:=gF hc hkid
    exact⟨d',h1,by omega⟩
theorem Re(ends:N→Bool){d:Nat}{n:N}(h:Nd d n)(x:N)(hx:x∈dj ends n):x.l.length≤bw n:=by
 obtain⟨d',h1,h2⟩:=FH ends d n h x hx
 have:=df x
 omega
theorem S6(l:List C):wx l≤4*l.length:=by
 unfold wx
 induction l with
 |nil=>exact Nat.le_refl _
 |cons c l ih=>
  have:Uv c≤4:=by unfold Uv;split;exact xM _;omega
  rw[List.map_cons,List.sum_cons,List.length_cons];omega
theorem SL(x:N):D9 x≤1+if x.leaf then 4*x.l.length else 0:=by
 unfold D9
 split
 ·omega
 ·split
  ·omega
  ·split
   ·have:=S6 x.l;omega
   ·simp[wx]
theorem Jf{l:List C}(h:∀c,c∈l→Sh c):(l.flatMap C.ak).length≤4*l.length:=by
 induction l with
 |nil=>exact Nat.le_refl _
 |cons c l ih=>
  have h1:=ih fun c hc=>h c (List.mem_cons_of_mem _ hc)
  have h2:=(h c List.mem_cons_self).2.2
  rw[List.flatMap_cons,List.length_append,List.length_cons];omega
theorem R9{d:Nat}{x:N}(h:Nd d x):(KD x).length≤1+if x.leaf then 4*x.l.length else 0:=by
 unfold KD
 rw[List.length_append]
 have h1:(if x.aq≠0 then [x.aq]else []).length≤1:=by split <;>simp
 have h2:((if x.leaf then x.l else []).flatMap C.ak).length≤if x.leaf then 4*x.l.length else 0:=by
  split
  ·exact Jf (QW h)
  ·simp
 omega
theorem CA(ends:N→Bool){d:Nat}{n:N}(h:Nd d n):(me (dj ends n)).length≤1+5*bw n:=by
 have:=ED ends (fun x=>(KD x).length) (fun d x hx=>R9 hx) d n h
 unfold wT at this
 unfold me
 rw[List.length_flatMap]
 exact this
def dG(n:N):Nat:=yC (dj laidB n)
theorem Lj{d:Nat}{n:N}(h:Nd d n):dG n≤1+5*bw n:=ED laidB D9 (fun _ x _=>SL x) d n h
def ko(b:Bool)(c:C):Nat:=if b then Uv c else dG (aA c)
def gP(b:Bool)(l:List C):Nat:=(l.map (ko b)).sum
theorem yU{b:Bool}{l:List C}{k:Nat}{c:C}(h:l[k]? =some c):gP b (l.take (k+1))=gP b (l.take k)+ko b c:=by
 unfold gP
 rw[List.take_add_one,h];simp
theorem ph(b:Bool)(l:List C)(k:Nat):gP b (l.take k)≤gP b l:=by
 have:=congrArg (gP b) (List.take_append_drop k l)
 simp only[gP,List.map_append,List.sum_append]at this ⊢
 omega
theorem fv{d:Nat}{n:N}(h:Nd d n):dG n=if n.aq≠0 then 0 else if n.leaf=true∧n.l=[]then 0 else 1+gP n.leaf n.l:=by
 have h1:dG n=wT laidB D9 n:=rfl
 have e:D9 n=if n.aq≠0 then 0 else if n.leaf=true∧n.l=[]then 0 else 1+wx (if n.leaf then n.l else []):=rfl
 rw[h1,Mx,e]
 by_cases hp:n.aq≠0
 ·have hb:laidB n=true:=decide_eq_true hp
  rw[if_pos hp,if_pos hp,hb];rfl
 ·have hb:laidB n=false:=decide_eq_false hp
  rw[if_neg hp,if_neg hp,hb]
  have e2:∀x:Nat,(if false=true then 0 else x)=x:=fun x=>if_neg (by simp)
  rw[e2]
  by_cases hz:n.leaf=true∧n.l=[]
  ·rw[if_pos hz,if_pos hz,fW hz.1];rfl
  ·rw[if_neg hz,if_neg hz]
   cases d with
   |zero=>rw[fW h.1,h.1];rfl
   |succ d=>
    rw[po h,h.1,List.map_map,show(if false=true then n.l else [])=[]from rfl,show wx []=0 from rfl]
    rfl
mutual
def cf:N→List Int
 | .mk p b l=>(if p≠0 then [p]else [])++Pu b l
def qE(b:Bool):C→List Int
 | .mk _ _ ps kid=>ps++if b then []else Vy kid
def Pu(b:Bool):List C→List Int
 |[]=>[]
 |c::l=>qE b c++Pu b l
def Vy:List N→List Int
 |[]=>[]
 |n::_=>cf n
end
theorem HV(b:Bool)(l:List C):Pu b l=l.flatMap (qE b):=by
 induction l with
 |nil=>rfl
 |cons c l ih=>rw[Pu,ih,List.flatMap_cons]
theorem fN(n:N):cf n=(if n.aq≠0 then [n.aq]else [])++n.l.flatMap (qE n.leaf):=by
 cases n;rw[cf,HV];rfl
theorem kS(c:C):qE true c=c.ak:=by cases c;simp[qE,C.ak]
theorem fJ{c:C}{k:N}(h:c.kid=[k]):qE false c=c.ak++cf k:=by
 cases c with|mk a b d e=>
 simp only[C.uC]at h
 subst h
 simp[qE,Vy,C.ak]
theorem Gb{α β:Type}{f g:α→List β}{l:List α}(h:∀a,a∈l→(f a).Perm (g a)):(l.flatMap f).Perm (l.flatMap g):=by
 induction l with
 |nil=>exact .refl _
 |cons a l ih=>
  rw[List.flatMap_cons,List.flatMap_cons]
  exact(h a List.mem_cons_self).append (ih fun x hx=>h x (List.mem_cons_of_mem _ hx))
theorem xd:∀(d:Nat) (n:N),Nd d n→(cf n).Perm (me (dj qC n))
 |0,n,h=>by
  rw[fN,lK,fW h.1]
  have:me (n::if qC n=true then []else List.flatMap (dj qC) [].reverse)=KD n:=by simp[me,qC]
  rw[this]
  unfold KD
  rw[h.1,if_pos rfl]
  rw[show qE true=C.ak from funext kS]
 |d+1,n,h=>by
  rw[fN,lK,po h,h.1]
  have e1:me (n::if qC n=true then []else(n.l.map aA).reverse.flatMap (dj qC))=KD n++me ((n.l.map aA).reverse.flatMap (dj qC)):=by simp[me,qC]
  have e2:KD n=if n.aq≠0 then [n.aq]else []:=by unfold KD;rw[h.1];simp
  rw[e1,e2]
  refine .append_left _ ?_
  have e3:∀l:List N,me (l.flatMap (dj qC))=l.flatMap fun k=>me (dj qC k):=fun l=>by unfold me;rw[List.flatMap_assoc]
  rw[e3]
  refine .trans ?_ (.symm ((List.reverse_perm _).flatMap_right _))
  rw[List.flatMap_map]
  refine Gb fun c hc=>?_
  obtain⟨hs,k,hk,hnd⟩:=h.2.2 c hc
  rw[fJ hk,bx hk,List.eq_nil_of_length_eq_zero (Nat.le_zero.1 hs.2.2),List.nil_append]
  exact xd d k hnd
end Go.Proofs.YtpjenciplibdnaaGreatDoor
namespace Go.Proofs.YtpjenciplibdnaaGreatDoor
open Aml Go
structure l0(Q:N→Prop)(q:Bool→C→Prop):Prop where
 of:∀b l,(∀c,c∈l→q b c)→Q (.mk 0 b l)
 to:∀n,Q n→∀c,c∈n.l→q n.leaf c
 kid:∀c k,c.kid=[k]→q false c→Q k
 cell:∀c k,c.kid=[k]→c.ak=[]→Q k→q false c
section
variable {Q:N→Prop} {q:Bool→C→Prop}
theorem pM(H:l0 Q q){d:Nat}{n:N}(hn:Nd d n)(hlf:n.leaf=false)(key:ByteArray){l:List C}(hl:∀c,c∈l→c∈n.l)(h:∀c,c∈l→q false c):∀c,c∈bz key l→q false c:=by
 cases l with
 |nil=>exact h
 |cons a l=>
  intro c hc
  rcases List.mem_cons.1 hc with rfl|hc
  ·cases d with
   |zero=>have:=hn.1;rw[hlf]at this;cases this
   |succ d=>
    obtain⟨hs,k,hk,_⟩:=hn.2.2 a (hl a List.mem_cons_self)
    exact H.cell _ k hk (List.eq_nil_of_length_eq_zero (Nat.le_zero.1 hs.2.2)) (H.kid a k hk (h a List.mem_cons_self))
  ·exact h c (List.mem_cons_of_mem _ hc)
theorem pE(H:l0 Q q){d:Nat}{n kid:N}{k:Nat}{key:ByteArray}(hk:Nd d kid)(hQ:Q kid)(h:∀c,c∈n.l→q false c)(hp:n.aq=0)(hl:n.leaf=false):
 (aU n kid k key).1.aq=0∧(aU n kid k key).1.leaf=false∧∀x,x∈(aU n kid k key).1.l→q false x:=by
 unfold aU
 simp only
 split
 ·exact⟨hp,hl,h⟩
 ·refine⟨rfl,rfl,fun x hx=>?_⟩
  rcases fU hx with hx|hx
  ·exact h x hx
  ·rcases List.mem_cons.1 hx with rfl|hx
   ·exact H.cell _ _ rfl rfl (H.of _ _ fun c hc=>H.to kid hQ c (List.mem_of_mem_take hc))
   ·rw[List.mem_singleton]at hx;subst hx
    refine H.cell _ _ rfl rfl (H.of _ _ fun c hc=>?_)
    cases hb:kid.leaf with
    |true=>
     rw[hb,if_pos rfl]at hc
     have:=H.to kid hQ c (List.mem_of_mem_drop hc)
     rwa [hb]at this
    |false=>
     rw[hb,if_neg (by simp)]at hc
     exact pM H hk hb aJ (fun c hc=>List.mem_of_mem_drop hc) (fun c hc=>by
      have:=H.to kid hQ c (List.mem_of_mem_drop hc)
      rwa [hb]at this) c hc
theorem Ea(H:l0 Q q){d:Nat}{a b:N}{key:ByteArray}(ha:Nd d a)(hb:Nd d b)(qa:Q a)(qb:Q b):Q (bF a b key):=by
 unfold bF
 refine H.of _ _ fun c hc=>?_
 rcases List.mem_append.1 hc with hc|hc
 ·exact H.to a qa c hc
 ·have e:=lW ha hb
  cases hl:b.leaf with
  |true=>
   rw[hl,if_pos rfl]at hc
   have:=H.to b qb c hc
   rwa [←e]at this
  |false=>
   rw[hl,if_neg (by simp)]at hc
   rw[e,hl]
   exact pM H hb hl key (fun c hc=>hc) (fun c hc=>by
    have:=H.to b qb c hc
    rwa [hl]at this) c hc
theorem jE(H:l0 Q q){d:Nat}{n:N}{k:Nat}(hn:Nd (d+1) n)(hlt:k<n.l.length)(h:∀c,c∈n.l→q false c)(hp:n.aq=0):(cC n k).aq=0∧(cC n k).leaf=false∧∀x,x∈(cC n k).l→q false x:=by
 obtain⟨c,kid,hc,e1,e2,hkid,hkey,hnd⟩:=bU hn hlt
 have hQ:=H.kid c kid hkid (h c (List.mem_of_getElem? hc))
 unfold cC
 simp only[e1,e2]
 split
 ·exact pE H hnd hQ h hp hn.1
 ·split
  ·exact⟨hp,hn.1,h⟩
  ·rename_i h1 h2
   simp only[Bool.or_eq_true,decide_eq_true_eq,not_or]at h2
   have hj:(if k+1<n.l.length then k else k-1)+1<n.l.length:=by split <;>omega
   generalize (if k+1<n.l.length then k else k-1)=j at*
   obtain⟨c0,k0,hc0,f1,f2,hk0,hkey0,hnd0⟩:=bU hn (k:=j) (by omega)
   obtain⟨c1,k1,hc1,g1,g2,hk1,hkey1,hnd1⟩:=bU hn hj
   rw[f1,f2,g1,g2]
   have hQb:Q (bF k0 k1 c1.key):=Ea H hnd0 hnd1 (H.kid c0 k0 hk0 (h c0 (List.mem_of_getElem? hc0))) (H.kid c1 k1 hk1 (h c1 (List.mem_of_getElem? hc1)))
   refine pE H (ye hnd0 hnd1 hkey1) hQb (fun x hx=>?_) rfl rfl
   rcases fU hx with hx|hx
   ·rcases fU hx with hx|hx
    ·exact h x hx
    ·cases hx
   ·rw[List.mem_singleton]at hx;subst hx
    exact H.cell _ _ rfl rfl hQb
theorem mR(H:l0 Q q){n:N}(h:n.aq=0∧n.leaf=false∧∀x,x∈n.l→q false x):Q n:=by
 obtain⟨h1,h2,h3⟩:=h
 rw[N.eta n,h1,h2]
 exact H.of _ _ h3
theorem wI(H:l0 Q q){key val:ByteArray}(hk:key.size≤16)(hv:val.size≤400)(hq:q true (.mk key val [] [])):∀{d:Nat} {n:N},Nd d n→Q n→Q (cj key val n)
 |0,n,h,hQ=>by
  rw[fZ _ _ _ h.1]
  refine H.of _ _ fun c hc=>?_
  rcases j3 hc with hc|rfl
  ·have:=H.to n hQ c hc
   rwa [h.1]at this
  ·exact hq
 |d+1,n,h,hQ=>by
  have hw:=gm h.2.1 key
  obtain⟨c,kid,hc,_,_,hkid,hkey,hnd⟩:=bU h hw
  rw[jQ _ _ _ h.1 hc hkid]
  have hcs:∀x,x∈n.l→q false x:=fun x hx=>by have:=H.to n hQ x hx;rwa [h.1]at this
  have i1:=wI H hk hv hq hnd (H.kid c kid hkid (hcs c (List.mem_of_getElem? hc)))
  have h1:=iq h hw 0 (m:=[af c.key (cj key val kid)]) (.inr (by simp)) fun c' hc'=>by
   rw[List.mem_singleton]at hc';subst hc';exact dO hkey (gB hk hv hnd)
  have h2:=cA (m:=[af c.key (cj key val kid)]) hw
  refine mR H (jE H h1 (by simp only[N.eo,List.length_cons,List.length_nil]at *;omega) (fun x hx=>?_) rfl)
  rcases fU hx with hx|hx
  ·exact hcs x hx
  ·rw[List.mem_singleton]at hx;subst hx
   exact H.cell _ _ rfl rfl i1
theorem nU(H:l0 Q q){key:ByteArray}:∀{d:Nat} {n:N},Nd d n→Q n→Q (aD key n)
 |0,n,h,hQ=>by
  rw[cb _ _ h.1]
  refine H.of _ _ fun c hc=>?_
  have:=H.to n hQ c (List.mem_filter.1 hc).1
  rwa [h.1]at this
 |d+1,n,h,hQ=>by
  have hw:=gm h.2.1 key
  obtain⟨c,kid,hc,_,_,hkid,hkey,hnd⟩:=bU h hw
  obtain⟨hs,_⟩:=h.2.2 c (List.mem_of_getElem? hc)
  rw[fb _ _ h.1 hc hkid]
  have hcs:∀x,x∈n.l→q false x:=fun x hx=>by have:=H.to n hQ x hx;rwa [h.1]at this
  have i1:=nU H (key:=key) hnd (H.kid c kid hkid (hcs c (List.mem_of_getElem? hc)))
  have h1:=ri h hw (c':= .mk c.key c.data c.ak [aD key kid]) ⟨⟨hs.1,hs.2.1,hs.2.2⟩,_,rfl,cE hnd⟩
  refine mR H (jE H h1 (by simp only[N.eo,List.length_set];exact hw) (fun x hx=>?_) rfl)
  rcases mem_set hx with hx|rfl
  ·exact hcs x hx
  ·exact H.cell _ _ rfl (List.eq_nil_of_length_eq_zero (Nat.le_zero.1 hs.2.2)) i1
theorem nk(H:l0 Q q):∀{d:Nat} {n:N},Nd d n→Q n→Q (jN n):=by
 have one:∀{d:Nat} {n:N},Nd d n→Q n→Q (if atR (ae n)=0 then n else cC (.mk 0 false [af aJ n]) 0):=fun{d n} h hQ=>by
  split
  ·exact hQ
  ·refine mR H (jE H (d:=d) (n:= .mk 0 false [af aJ n]) (k:=0) ⟨rfl,by simp[N.l],fun c hc=>by
    simp only[N.eo,List.mem_singleton]at hc
    subst hc
    exact dO (by rw[bk];omega) h⟩ (by simp[N.l]) (fun x hx=>?_) rfl)
   simp only[N.eo,List.mem_singleton]at hx
   subst hx
   exact H.cell _ _ rfl rfl hQ
 intro d
 induction d with
 |zero=>intro n h hQ;rw[cV _ (.inl h.1)];exact one h hQ
 |succ d ih=>
  intro n h hQ
  by_cases h1:n.l.length=1
  ·obtain⟨c,hc⟩:=List.length_eq_one_iff.1 h1
   have hcm:c∈n.l:=by rw[hc];exact List.mem_singleton_self c
   obtain⟨_,k,hk,hn⟩:=h.2.2 c hcm
   rw[ku n h.1 hc hk]
   have:=H.to n hQ c hcm
   rw[h.1]at this
   exact ih hn (H.kid c k hk this)
  ·rw[cV _ (.inr h1)];exact one h hQ
theorem GP(H:l0 Q q){key val:ByteArray}(hk:key.size≤16)(hv:val.size≤400)(hq:q true (.mk key val [] [])){d:Nat}{n:N}(h:Nd d n)(hQ:Q n):Q (k7 key val n):=
 nk H (gB hk hv h) (wI H hk hv hq h hQ)
theorem Gd(H:l0 Q q){key:ByteArray}{d:Nat}{n:N}(h:Nd d n)(hQ:Q n):Q (l9 key n):=by
 unfold l9
 split
 ·exact nk H (cE h) (nU H h hQ)
 ·exact hQ
end
def rM(p:Int)(b:Bool)(l:List C):Nat:=(l.flatMap (qE b)).count p
theorem nC(p:Int)(b:Bool)(l m:List C):rM p b (l++m)=rM p b l+rM p b m:=by unfold rM;rw[List.flatMap_append,List.count_append]
theorem dy(p:Int)(b:Bool)(c:C)(l:List C):rM p b (c::l)=(qE b c).count p+rM p b l:=by unfold rM;rw[List.flatMap_cons,List.count_append]
theorem iW(p:Int)(b:Bool):rM p b []=0:=rfl
theorem qX(p:Int)(b:Bool)(l:List C)(i:Nat):rM p b (l.take i)+rM p b (l.drop i)=rM p b l:=by rw[←nC,List.take_append_drop]
theorem jd{p:Int}{b:Bool}{l m:List C}{i:Nat}{c:C}(h:l[i]? =some c):rM p b (aE l i m)+(qE b c).count p=rM p b l+rM p b m:=by
 have h1:=qX p b l i
 have h2:l.drop i=c::l.drop (i+1):=by
  obtain⟨hlt,rfl⟩:=List.getElem?_eq_some_iff.1 h
  exact List.drop_eq_getElem_cons hlt
 rw[h2,dy]at h1
 unfold aE
 rw[nC,nC]
 omega
theorem Ny(key:ByteArray)(c:C):qE false (.mk key c.data c.ak c.kid)=qE false c:=by cases c;simp[qE,C.ak,C.kid]
theorem uF(p:Int)(key:ByteArray)(l:List C):rM p false (bz key l)=rM p false l:=by
 cases l with
 |nil=>rfl
 |cons a l=>rw[jC,dy,dy,Ny]
theorem ij(p:Int)(b:Bool)(l:List C):(cf (.mk 0 b l)).count p=rM p b l:=by rw[fN];rfl
theorem nO(p:Int)(n:N):rM p n.leaf n.l≤(cf n).count p:=by rw[fN,List.count_append];exact Nat.le_add_left _ _
theorem kz(key:ByteArray)(k:N):qE false (af key k)=cf k:=by rw[fJ rfl];rfl
theorem vZ{n kid:N}{k:Nat}{c:C}{key:ByteArray}(p:Int)(hc:n.l[k]? =some c)(hk:c.kid=[kid])(hlf:n.leaf=false):(cf (aU n kid k key).1).count p≤(cf n).count p:=by
 unfold aU
 simp only
 split
 ·exact Nat.le_refl _
 ·have h1:=qX p kid.leaf kid.l (atR (ae kid))
  have h2:=jd (p:=p) (b:=false) (m:=[af key (.mk 0 kid.leaf (kid.l.take (atR (ae kid)))),af (keyOf (kid.l.drop (atR (ae kid)))) (.mk 0 kid.leaf (if kid.leaf then(kid.l.drop (atR (ae kid)))else bz aJ (kid.l.drop (atR (ae kid)))))]) hc
  have h3:rM p kid.leaf (if kid.leaf then(kid.l.drop (atR (ae kid)))else bz aJ (kid.l.drop (atR (ae kid))))=rM p kid.leaf (kid.l.drop (atR (ae kid))):=by
   cases hb:kid.leaf with
   |true=>rw[if_pos rfl]
   |false=>rw[if_neg (by simp),uF]
  rw[dy,dy,iW,kz,kz,ij,ij,h3,fJ hk,List.count_append]at h2
  have h4:=nO p n
  have h5:=nO p kid
  rw[hlf]at h4
  rw[ij]
  omega
theorem PN(p:Int){a b:N}{key:ByteArray}(h:a.leaf=b.leaf):(cf (bF a b key)).count p≤(cf a).count p+(cf b).count p:=by
 have h1:=nO p a
 have h2:=nO p b
 unfold bF
 rw[ij,nC]
 rw[←h]at h2 ⊢
 cases hb:a.leaf with
 |true=>rw[hb]at h1 h2;rw[if_pos rfl];omega
 |false=>rw[hb]at h1 h2;rw[if_neg (by simp),uF];omega
theorem xf{d:Nat}{n:N}{k:Nat}(p:Int)(hn:Nd (d+1) n)(hlt:k<n.l.length):(cf (cC n k)).count p≤(cf n).count p:=by
 obtain⟨c,kid,hc,e1,e2,hkid,hkey,hnd⟩:=bU hn hlt
 unfold cC
 simp only[e1,e2]
 split
 ·exact vZ p hc hkid hn.1
 ·split
  ·exact Nat.le_refl _
  ·rename_i h1 h2
   simp only[Bool.or_eq_true,decide_eq_true_eq,not_or]at h2
   have hj:(if k+1<n.l.length then k else k-1)+1<n.l.length:=by split <;>omega
   generalize (if k+1<n.l.length then k else k-1)=j at*
   obtain⟨c0,k0,hc0,f1,f2,hk0,hkey0,hnd0⟩:=bU hn (k:=j) (by omega)
   obtain⟨c1,k1,hc1,g1,g2,hk1,hkey1,hnd1⟩:=bU hn hj
   rw[f1,f2,g1,g2]
   have hwl:=cA (m:=[]) hj
   simp only[List.length_nil]at hwl
   have hj2:j<(aE n.l (j+1) []).length:=by omega
   refine Nat.le_trans (vZ p (c:=af c0.key (bF k0 k1 c1.key)) (s9 hj2) rfl rfl) ?_
   have t1:=jd (p:=p) (b:=false) (m:=[]) hc1
   have hat:(aE n.l (j+1) [])[j]? =some c0:=by
    unfold aE
    rw[List.append_assoc,List.getElem?_append_left (by rw[List.length_take];omega),List.getElem?_take,if_pos (by omega)]
    exact hc0
   have t2:=jd (p:=p) (b:=false) (m:=[af c0.key (bF k0 k1 c1.key)]) hat
   have t3:=PN p (key:=c1.key) (lW hnd0 hnd1)
   have t4:=nO p n
   rw[hn.1]at t4
   rw[dy,iW,kz,fJ hk0,List.count_append]at t2
   rw[iW,fJ hk1,List.count_append]at t1
   rw[ij]
   omega
theorem Dr(p:Int)(l:List C)(key val:ByteArray):rM p true (cO l key val)≤rM p true l:=by
 have hnew:(qE true (.mk key val [] [])).count p=0:=rfl
 have h2:rM p true (l.take (bd l key)++[.mk key val [] []]++l.drop (bd l key))≤rM p true l:=by
  have:=qX p true l (bd l key)
  rw[nC,nC,dy,iW,hnew];omega
 unfold cO
 simp only
 split
 ·rename_i c hc
  split
  ·have:=jd (p:=p) (b:=true) (m:=[C.mk key val [] []]) hc
   rw[dy,iW,hnew]at this
   omega
  ·exact h2
 ·exact h2
theorem Lg{key val:ByteArray}(hk:key.size≤16)(hv:val.size≤400)(p:Int):∀{d:Nat} {n:N},Nd d n→(cf (cj key val n)).count p≤(cf n).count p
 |0,n,h=>by
  rw[fZ _ _ _ h.1,ij]
  have:=Dr p n.l key val
  have h4:=nO p n
  rw[h.1]at h4
  omega
 |d+1,n,h=>by
  have hw:=gm h.2.1 key
  obtain⟨c,kid,hc,_,_,hkid,hkey,hnd⟩:=bU h hw
  rw[jQ _ _ _ h.1 hc hkid]
  have h1:=iq h hw 0 (m:=[af c.key (cj key val kid)]) (.inr (by simp)) fun c' hc'=>by
   rw[List.mem_singleton]at hc';subst hc';exact dO hkey (gB hk hv hnd)
  have h2:=cA (m:=[af c.key (cj key val kid)]) hw
  refine Nat.le_trans (xf p h1 (by simp only[N.eo,List.length_cons,List.length_nil]at *;omega)) ?_
  have t:=jd (p:=p) (b:=false) (m:=[af c.key (cj key val kid)]) hc
  have i1:=Lg hk hv p hnd
  have h4:=nO p n
  rw[h.1]at h4
  rw[dy,iW,kz,fJ hkid,List.count_append]at t
  rw[ij]
  omega
theorem tX{key:ByteArray}(p:Int):∀{d:Nat} {n:N},Nd d n→(cf (aD key n)).count p≤(cf n).count p
 |0,n,h=>by
  rw[cb _ _ h.1,ij]
  have h4:=nO p n
  rw[h.1]at h4
  have:∀l:List C,rM p true (l.filter fun c=>!eS c.key key)≤rM p true l:=by
   intro l
   induction l with
   |nil=>exact Nat.le_refl _
   |cons c l ih=>
    rw[List.filter_cons,dy]
    split
    ·rw[dy];omega
    ·omega
  have:=this n.l
  omega
 |d+1,n,h=>by
  have hw:=gm h.2.1 key
  obtain⟨c,kid,hc,_,_,hkid,hkey,hnd⟩:=bU h hw
  obtain⟨hs,_⟩:=h.2.2 c (List.mem_of_getElem? hc)
  rw[fb _ _ h.1 hc hkid]
  have h1:=ri h hw (c':= .mk c.key c.data c.ak [aD key kid]) ⟨⟨hs.1,hs.2.1,hs.2.2⟩,_,rfl,cE hnd⟩
  refine Nat.le_trans (xf p h1 (by simp only[N.eo,List.length_set];exact hw)) ?_
  have e:n.l.set (fQ n.l key) (.mk c.key c.data c.ak [aD key kid])=aE n.l (fQ n.l key) [.mk c.key c.data c.ak [aD key kid]]:=by
   unfold aE
   rw[List.set_eq_take_append_cons_drop,if_pos hw];simp
  have t:=jd (p:=p) (b:=false) (m:=[.mk c.key c.data c.ak [aD key kid]]) hc
  have i1:=tX (key:=key) p hnd
  have h4:=nO p n
  rw[h.1]at h4
  rw[dy,iW,fJ (c:= .mk c.key c.data c.ak [aD key kid]) rfl,fJ hkid,List.count_append,List.count_append]at t
  rw[ij,e]
  simp only[C.Lq]at t
  omega
theorem K0(p:Int){d:Nat}:∀{n:N},Nd d n→(cf (jN n)).count p≤(cf n).count p:=by
 have one:∀{d:Nat} {n:N},Nd d n→(cf (if atR (ae n)=0 then n else cC (.mk 0 false [af aJ n]) 0)).count p≤(cf n).count p:=fun{d n} h=>by
  split
  ·exact Nat.le_refl _
  ·refine Nat.le_trans (xf p (d:=d) (n:= .mk 0 false [af aJ n]) (k:=0) ⟨rfl,by simp[N.l],fun c hc=>by
    simp only[N.eo,List.mem_singleton]at hc
    subst hc
    exact dO (by rw[bk];omega) h⟩ (by simp[N.l])) ?_
   rw[ij,dy,iW,kz]
   exact Nat.le_refl _
 induction d with
 |zero=>intro n h;rw[cV _ (.inl h.1)];exact one h
 |succ d ih=>
  intro n h
  by_cases h1:n.l.length=1
  ·obtain⟨c,hc⟩:=List.length_eq_one_iff.1 h1
   obtain⟨_,k,hk,hn⟩:=h.2.2 c (by rw[hc];exact List.mem_singleton_self c)
   rw[ku n h.1 hc hk]
   have:=ih hn
   have h4:=nO p n
   rw[h.1,hc,dy,iW,fJ hk,List.count_append]at h4
   omega
  ·rw[cV _ (.inr h1)];exact one h
theorem TS{key val:ByteArray}(hk:key.size≤16)(hv:val.size≤400)(p:Int){d:Nat}{n:N}(h:Nd d n):(cf (k7 key val n)).count p≤(cf n).count p:=
 Nat.le_trans (K0 p (gB hk hv h)) (Lg hk hv p h)
theorem Tm{key:ByteArray}(p:Int){d:Nat}{n:N}(h:Nd d n):(cf (l9 key n)).count p≤(cf n).count p:=by
 unfold l9
 split
 ·exact Nat.le_trans (K0 p (cE h)) (tX p h)
 ·exact Nat.le_refl _
end Go.Proofs.YtpjenciplibdnaaGreatDoor
namespace Go.Proofs.YtpjenciplibdnaaGreatDoor
open Aml Go
theorem RU{d:Nat}{n:N}(h:Nd d n):(cf n).length≤1+5*bw n:=by
 rw[(xd d n h).length_eq]
 exact CA qC h
structure Stp where
 key:ByteArray
 size:Int
 laid:Bool
def RR:N:= .mk 0 true []
def GX(k:Nat)(n:N):Prop:=∃d,d≤k∧Nd d n∧bw n≤125*k
theorem GX.mono{k m:Nat}{n:N}(h:GX k n)(hm:k≤m):GX m n:=by
 obtain⟨d,h1,h2,h3⟩:=h
 exact⟨d,by omega,h2,by omega⟩
theorem GX.mark{k:Nat}{n:N}(h:GX k n)(f:Int):GX k (kF n f).1:=by
 obtain⟨d,h1,h2,h3⟩:=h
 exact⟨d,h1,w9 f h2,by rw[zP f h2];exact h3⟩
end Go.Proofs.YtpjenciplibdnaaGreatDoor
namespace Aml
open Go Go.RowKit
theorem EN{P:Program}{w0:W0}{f:FuncId}{args:List DV}{S:St}{r:DV}(h1:aa P w0 f args S (fun d S'=>oC S' d fun d S''=>Wk d r∧Sub S S'')):aa P w0 f args S (fun d S'=>d=r∧S'=S):=by
 intro g vs w k1 k2
 refine(h1 g vs w k1 k2).mono ?_
 rintro e w' ⟨v,g',d,S',q1,q2,q3,q4,q5⟩
 obtain⟨g2,d',S2,p1,p2,p3,p4,p5⟩:=sy q3 q4 q5
 exact⟨v,g2,r,S,q1,q2.trans p1,p2.forget p5.box p5.acc,p4 _ _ p3,rfl,rfl⟩
end Aml
namespace Go.Proofs.YtpjenciplibdnaaGreatDoor
open Aml Go
def CL(n:N):Prop:=∃d,Nd d n∧bw n≤131072
theorem Kv(w0:W0)(n:N)(S:St)(h:CL n):aa Tryz.prog w0 98 [eT n] S (fun d S'=>d=dL (iV n)∧S'=S):=by
 obtain⟨d,hn,ht⟩:=h
 have h1:=E5 qC hn
 have h2:=CA qC hn
 refine EN ((RK w0 n S (by omega) (by omega) (fun x hx=>Nat.le_trans (Re qC hn x hx) (by omega))).mono ?_)
 rintro d S' ⟨m,rfl,rfl⟩
 simp(maxDischargeDepth:=12) (maxSteps:=1000000) -implicitDefEqProofs only[go_sem,Nat.reduceAdd,Nat.reduceSub,Nat.reduceMul,Nat.reduceLeDiff,Nat.reduceEqDiff,Nat.reduceGT,Nat.reduceBEq,reduceCtorEq,↓reduceIte,Int.reduceToNat,Int.reduceLE,Int.reduceLT,Int.reduceNe,Int.reduceEq,iV,bc]
theorem MF(w0:W0)(n:N)(S:St)(h:CL n):aa Tryz.prog w0 180 [eT n] S (fun d S'=>d=dI (dG n)∧S'=S):=by
 obtain⟨d,hn,ht⟩:=h
 have h1:=E5 laidB hn
 have h2:=Lj hn
 exact TI w0 n S (by omega) (by unfold dG at h2;omega) (fun x hx=>Nat.le_trans (Re laidB hn x hx) (by omega))
theorem CL.mark{n:N}(h:CL n)(f:Int):CL (kF n f).1:=by
 obtain⟨d,hn,ht⟩:=h
 exact⟨d,w9 f hn,by rw[zP f hn];exact ht⟩
theorem Ka{d:Nat}{n:N}(h:Nd d n):iV n=dh (cf n):=(vV (xd d n h)).symm
end Go.Proofs.YtpjenciplibdnaaGreatDoor
namespace Go.Proofs.YtpjenciplibdnaaGreatDoor
open Aml Go
inductive nS:N→Prop
 |leaf (p:Int) (l:List C) (h:p≠0↔l≠[]) (hc:∀c,c∈l→c.ak.length=fA c.data.size):nS (.mk p true l)
 |br (p:Int) (l:List C) (h:p≠0) (hk:∀c,c∈l→∀k,c.kid=[k]→nS k):nS (.mk p false l)
inductive k8:N→Prop
 |mk (n:N) (h1:n.aq≠0→nS n) (h2:n.leaf=true→∀c,c∈n.l→c.ak=[]∨c.ak.length=fA c.data.size) (h3:n.leaf=false→∀c,c∈n.l→∀k,c.kid=[k]→k8 k):k8 n
def Fi(b:Bool)(c:C):Prop:=if b then c.ak=[]∨c.ak.length=fA c.data.size else∀k,c.kid=[k]→k8 k
theorem uL:l0 k8 Fi where
 of:=fun b l h=> .mk _ (fun e=>absurd rfl e) (fun hb c hc=>by have:=h c hc;simp only[N.nq]at hb;subst hb;exact this) (fun hb c hc=>by have:=h c hc;simp only[N.nq]at hb;subst hb;exact this)
 to:=fun n h c hc=>by
  cases h with|mk _ h1 h2 h3=>
  unfold Fi
  cases hb:n.leaf with
  |true=>rw[if_pos rfl];exact h2 hb c hc
  |false=>rw[if_neg (by simp)];exact h3 hb c hc
 kid:=fun c k hk h=>by unfold Fi at h;rw[if_neg (by simp)]at h;exact h k hk
 cell:=fun c k hk _ h=>by unfold Fi;rw[if_neg (by simp)];intro k' hk';rw[hk]at hk';cases hk';exact h
theorem vM:∀{d:Nat} {n:N},Nd d n→nS n→k8 n
 |0,n,hn,h=> .mk n (fun _=>h) (fun hb c hc=>by
  cases h with
  |leaf p l h hl=>exact .inr (hl c hc)
  |br p l h hk=>cases hb) (fun hb=>by rw[hn.1]at hb;cases hb)
 |d+1,n,hn,h=> .mk n (fun _=>h) (fun hb=>by rw[hn.1]at hb;cases hb) (fun hb c hc k hk=>by
  cases h with
  |leaf p l h hl=>cases hb
  |br p l h hkk=>
   obtain⟨_,k',hk',hnd⟩:=hn.2.2 c hc
   rw[hk]at hk';cases hk'
   exact vM hnd (hkk c hc k hk))
mutual
def tN:N→Nat
 | .mk _ b l=>if l=[]then 0 else 1+Zc b l
def tC(b:Bool):C→Nat
 | .mk _ d _ kid=>if b then fA d.size else tNs kid
def Zc(b:Bool):List C→Nat
 |[]=>0
 |c::l=>tC b c+Zc b l
def tNs:List N→Nat
 |[]=>0
 |n::_=>tN n
end
theorem qZ{z:Nat}(h:z≤400):need (z:Int)=fA z:=by
 unfold need fA
 by_cases h16:16<z
 ·rw[if_pos (by omega),if_pos h16];omega
 ·rw[if_neg (by omega),if_neg h16]
theorem wG{d:Nat}{n:N}(hn:Nd d n)(h:nS n):n.aq≠0↔n.l≠[]:=by
 cases h with
 |leaf p l h hk=>exact h
 |br p l h hk=>
  cases d with
  |zero=>cases hn.1
  |succ d=>exact⟨fun _=>hn.2.1,fun _=>h⟩
structure RI(q:N×N):Prop where
 r1:gQ q.1
 r2:gQ q.2
 laid:k8 q.1
 sub:∀p,(cf q.1).count p≤(cf q.2).count p
 one:∀p,(cf q.2).count p≤1
theorem tU:k8 RR:= .mk _ (fun e=>absurd rfl e) (fun _ c hc=>by cases hc) (fun _ c hc=>by cases hc)
theorem zS{A B:List C}{b:C}{key val:ByteArray}(h:dm (A++b::B))(hb:b.key=key):cO (A++b::B) key val=A++ .mk key val [] []::B:=by
 unfold dm at h
 rw[eO,List.pairwise_cons]at h
 have h1:∀a,a∈A→cH a.key key=true:=fun a ha=>hb▸h.2.2 a ha b List.mem_cons_self
 have h2:∀x,x∈b::B→cH x.key key=false:=fun x hx=>by
  rcases List.mem_cons.1 hx with rfl|hx
  ·rw[hb];exact cI _
  ·exact fk (hb▸h.2.1.1 x hx)
 have hi:=pV h1 h2
 unfold cO
 simp only[hi]
 rw[List.getElem?_append_right (Nat.le_refl _),Nat.sub_self,List.getElem?_cons_zero]
 simp only
 rw[if_pos (cN.2 hb),fP]
 simp
theorem FY{A B:List C}{key:ByteArray}{k:N}(h:Fits k):cC (.mk 0 false (A++af key k::B)) A.length= .mk 0 false (A++af key k::B):=by
 have e1:aU (.mk 0 false (A++af key k::B)) k A.length key=(.mk 0 false (A++af key k::B),false):=by
  unfold aU
  simp only[pc h.2,if_true]
 have e2:aA (af key k)=k:=rfl
 have e3:(af key k).key=key:=rfl
 unfold cC
 simp only[N.eo,lH,e2,e3,e1]
 rw[if_neg (by simp),if_pos]
 unfold BR
 have:=h.1
 simp;omega
theorem sD(b:Bool)(l m:List C):gP b (l++m)=gP b l+gP b m:=by unfold gP;rw[List.map_append,List.sum_append]
theorem oW(b:Bool)(c:C)(l:List C):gP b (c::l)=ko b c+gP b l:=by unfold gP;rw[List.map_cons,List.sum_cons]
theorem tK(b:Bool){A B:List C}{c c':C}(h:aW b c'=aW b c):(A++c'::B).map (aW b)=(A++c::B).map (aW b):=by rw[List.map_append,List.map_cons,List.map_append,List.map_cons,h]
theorem K9{d:Nat}{b:Bool}{l:List C}(h:Nd d (.mk 0 b l))(hl:l≠[]):dG (.mk 0 b l)=1+gP b l:=by
 have h1:¬((N.mk 0 b l).leaf=true∧(N.mk 0 b l).l=[]):=fun e=>hl e.2
 have h2:¬(N.mk 0 b l).aq≠0:=fun e=>e rfl
 rw[fv h,if_neg h2,if_neg h1];rfl
end Go.Proofs.YtpjenciplibdnaaGreatDoor
namespace Go.Proofs.YtpjenciplibdnaaGreatDoor
open Aml Go
inductive kq(P:ByteArray→ByteArray→Prop):N→Prop
 |mk (n:N) (h1:n.aq≠0→∀e,e∈di n→P e.key e.data) (h3:n.leaf=false→∀c,c∈n.l→∀k,c.kid=[k]→kq P k):kq P n
def Na(P:ByteArray→ByteArray→Prop)(b:Bool)(c:C):Prop:=if b then True else∀k,c.kid=[k]→kq P k
theorem fx(P:ByteArray→ByteArray→Prop):l0 (kq P) (Na P) where
 of:=fun b l h=> .mk _ (fun e=>absurd rfl e) (fun hb c hc=>by have:=h c hc;simp only[N.nq]at hb;subst hb;exact this)
 to:=fun n h c hc=>by
  cases h with|mk _ h1 h3=>
  unfold Na
  cases hb:n.leaf with
  |true=>rw[if_pos rfl];trivial
  |false=>rw[if_neg (by simp)];exact h3 hb c hc
 kid:=fun c k hk h=>by unfold Na at h;rw[if_neg (by simp)]at h;exact h k hk
 cell:=fun c k hk _ h=>by unfold Na;rw[if_neg (by simp)];intro k' hk';rw[hk]at hk';cases hk';exact h
section
variable {P P':ByteArray→ByteArray→Prop}
theorem kq.one{n:N}(h:kq P n):n.aq≠0→∀e,e∈di n→P e.key e.data:=by cases h with|mk _ h1 h3=>exact h1
theorem kq.kids{n:N}(h:kq P n):n.leaf=false→∀c,c∈n.l→∀k,c.kid=[k]→kq P k:=by cases h with|mk _ h1 h3=>exact h3
theorem kq.aq{n:N}(h:kq P n){e:C}(he:e∈di n)(hn:¬P e.key e.data):n.aq=0:=Classical.byContradiction fun z=>hn (h.one z e he)
theorem L4{d:Nat}{n:N}(hn:Nd (d+1) n){c:C}{k:N}(hc:c∈n.l)(hk:c.kid=[k]){e:C}(he:e∈di k):e∈di n:=by
 rw[cF,hn.1]
 exact List.mem_flatMap.2 ⟨c,hc,by rw[bf hk];exact he⟩
theorem nB:∀{d:Nat} {n:N},Nd d n→(∀e,e∈di n→P e.key e.data→P' e.key e.data)→kq P n→kq P' n
 |0,n,hn,hm,h=> .mk n (fun e x hx=>hm x hx (h.one e x hx)) (fun hb=>by rw[hn.1]at hb;cases hb)
 |d+1,n,hn,hm,h=> .mk n (fun e x hx=>hm x hx (h.one e x hx)) (fun hb c hc k hk=>by
  obtain⟨_,k',hk',hnd⟩:=hn.2.2 c hc
  rw[hk]at hk';cases hk'
  exact nB hnd (fun e he=>hm e (L4 hn hc hk he)) (h.kids hb c hc k hk))
theorem Df:∀{d:Nat} {n:N},Nd d n→(∀e,e∈di n→P e.key e.data)→kq P n
 |0,n,hn,hm=> .mk n (fun _=>hm) (fun hb=>by rw[hn.1]at hb;cases hb)
 |d+1,n,hn,hm=> .mk n (fun _=>hm) (fun hb c hc k hk=>by
  obtain⟨_,k',hk',hnd⟩:=hn.2.2 c hc
  rw[hk]at hk';cases hk'
  exact Df hnd fun e he=>hm e (L4 hn hc hk he))
theorem L7{key val:ByteArray}(hk:key.size≤16)(hv:val.size≤400):∀{d:Nat} {n:N},Good d n→kq P n→kq (fun k v=>P k v∧k≠key) (cj key val n)
 |0,n,h,hc=>by
  rw[fZ _ _ _ h.1]
  exact(fx _).of _ _ fun c _=>by unfold Na;rw[if_pos rfl];trivial
 |d+1,n,h,hc=>by
  have hB:=h.2.2
  have hn:=az h
  obtain⟨A,c,B,hl,hw,hA,hcc,hBk⟩:=iZ hB h.2.1 key
  have hcl:n.l[fQ n.l key]? =some c:=by
   rw[←hw]
   conv=>lhs;rw[hl]
   simp
  have hcm:=List.mem_of_getElem? hcl
  obtain⟨o1,o2,kid,hkid,o4,o5⟩:=hB.cell c hcm
  have hwl:=gm h.2.1 key
  have i1:=L7 hk hv o4 (hc.kids h.1 c hcm kid hkid)
  have hnk:=gB hk hv (az o4)
  have h1:=iq hn hwl 0 (m:=[af c.key (cj key val kid)]) (.inr (by simp)) fun c' hc'=>by
   rw[List.mem_singleton]at hc';subst hc';exact dO o1.1 hnk
  have h2:=cA (m:=[af c.key (cj key val kid)]) hwl
  rw[jQ _ _ _ h.1 hcl hkid]
  refine mR (fx _) (jE (fx _) h1 (by simp only[N.eo,List.length_cons,List.length_nil]at *;omega) (fun x hx=>?_) rfl)
  have hx:x∈aE n.l (fQ n.l key) [af c.key (cj key val kid)]:=hx
  have hsib:∀(x:C),x∈n.l→(∀e,e∈ja false x→e.key≠key)→Na (fun k v=>P k v∧k≠key) false x:=fun x hx he=>by
   unfold Na;rw[if_neg (by simp)]
   intro k hk
   obtain⟨_,k',hk',hnd⟩:=hn.2.2 x hx
   rw[hk]at hk';cases hk'
   exact nB hnd (fun e h1 h2=>⟨h2,he e (by rw[bf hk];exact h1)⟩) (hc.kids h.1 x hx k hk)
  have ew:aE n.l A.length [af c.key (cj key val kid)]=A++[af c.key (cj key val kid)]++B:=by
   rw[hl]
   exact fP _ _ _ _
  rw[←hw,ew]at hx
  rw[hl]at hB
  rcases List.mem_append.1 hx with hx|hx
  ·rcases List.mem_append.1 hx with hx|hx
   ·exact hsib x (by rw[hl];simp[hx]) fun e he=>bH (hA x hx e he)
   ·rw[List.mem_singleton]at hx;subst hx
    exact(fx _).cell _ _ rfl rfl i1
  ·exact hsib x (by rw[hl];simp[hx]) fun e he=>(bH (qR hB hBk e (List.mem_flatMap.2 ⟨x,hx,he⟩))).symm
theorem tY{key:ByteArray}:∀{d:Nat} {n:N},Good d n→kq P n→kq (fun k v=>P k v∧k≠key) (aD key n)
 |0,n,h,hc=>by
  rw[cb _ _ h.1]
  exact(fx _).of _ _ fun c _=>by unfold Na;rw[if_pos rfl];trivial
 |d+1,n,h,hc=>by
  have hB:=h.2.2
  have hn:=az h
  obtain⟨A,c,B,hl,hw,hA,hcc,hBk⟩:=iZ hB h.2.1 key
  have hcl:n.l[fQ n.l key]? =some c:=by
   rw[←hw]
   conv=>lhs;rw[hl]
   simp
  have hcm:=List.mem_of_getElem? hcl
  obtain⟨o1,o2,kid,hkid,o4,o5⟩:=hB.cell c hcm
  obtain⟨hs,_⟩:=hn.2.2 c hcm
  have hwl:=gm h.2.1 key
  have i1:=tY (key:=key) o4 (hc.kids h.1 c hcm kid hkid)
  have h1:=ri hn hwl (c':= .mk c.key c.data c.ak [aD key kid]) ⟨⟨hs.1,hs.2.1,hs.2.2⟩,_,rfl,cE (az o4)⟩
  rw[fb _ _ h.1 hcl hkid]
  refine mR (fx _) (jE (fx _) h1 (by simp only[N.eo,List.length_set];exact hwl) (fun x hx=>?_) rfl)
  have hx:x∈n.l.set (fQ n.l key) (.mk c.key c.data c.ak [aD key kid]):=hx
  have hsib:∀(x:C),x∈n.l→(∀e,e∈ja false x→e.key≠key)→Na (fun k v=>P k v∧k≠key) false x:=fun x hx he=>by
   unfold Na;rw[if_neg (by simp)]
   intro k hk
   obtain⟨_,k',hk',hnd⟩:=hn.2.2 x hx
   rw[hk]at hk';cases hk'
   exact nB hnd (fun e h1 h2=>⟨h2,he e (by rw[bf hk];exact h1)⟩) (hc.kids h.1 x hx k hk)
  have e:n.l.set (fQ n.l key) (.mk c.key c.data c.ak [aD key kid])=A++(.mk c.key c.data c.ak [aD key kid])::B:=by
   rw[←hw]
   conv=>lhs;rw[hl]
   rw[List.set_append_right _ _ (Nat.le_refl _),Nat.sub_self,List.set_cons_zero]
  rw[e]at hx
  rw[hl]at hB
  rcases List.mem_append.1 hx with hx|hx
  ·exact hsib x (by rw[hl];simp[hx]) fun e he=>bH (hA x hx e he)
  ·rcases List.mem_cons.1 hx with rfl|hx
   ·exact(fx _).cell _ _ rfl (List.eq_nil_of_length_eq_zero (Nat.le_zero.1 hs.2.2)) i1
   ·exact hsib x (by rw[hl];simp[hx]) fun e he=>(bH (qR hB hBk e (List.mem_flatMap.2 ⟨x,hx,he⟩))).symm
theorem Ec{key val:ByteArray}(hk:key.size≤16)(hv:val.size≤400){d:Nat}{n:N}(h:Good d n)(hc:kq P n):kq (fun k v=>P k v∧k≠key) (k7 key val n):=
 nk (fx _) (gB hk hv (az h)) (L7 hk hv h hc)
theorem S4{key:ByteArray}{d:Nat}{n:N}(h:Good d n)(hc:kq P n):kq (fun k v=>P k v∧k≠key) (l9 key n):=by
 unfold l9
 split
 ·exact nk (fx _) (cE (az h)) (tY h hc)
 ·rename_i hf
  rw[nm key h]at hf
  refine nB (az h) (fun e he hp=>⟨hp,fun z=>hf ?_⟩) hc
  rw[Option.isSome_map,List.find?_isSome]
  exact⟨e,he,cN.2 z⟩
theorem zy{key val:ByteArray}(hk:key.size≤16)(hv:val.size≤16):∀{d:Nat} {n:N} {x:C},Good d n→kq P n→x∈di n→x.key=key→¬P key x.data→x.data.size=val.size→
 ae (cj key val n)=ae n∧(cj key val n).leaf=n.leaf∧(cj key val n).l.length=n.l.length∧dG (cj key val n)=dG n∧cf (cj key val n)=cf n∧bw (cj key val n)=bw n∧(cj key val n).aq=n.aq
 |0,n,x,h,hc,hx,hxk,hxp,hxs=>by
  have hp0:n.aq=0:=hc.aq hx (by rw[hxk];exact hxp)
  rw[cM h.1]at hx
  obtain⟨A,B,hl⟩:=List.append_of_mem hx
  have hnd:=gB hk (by omega:val.size≤400) (az h)
  have hr:dm (A++x::B):=hl▸h.2.1
  have ep:cj key val n= .mk 0 true (A++ .mk key val [] []::B):=by rw[fZ _ _ _ h.1,hl,zS hr hxk]
  have hpg:x.ak=[]:=Classical.byContradiction fun z=>by have:=(h.2.2 x hx).2.2.2.1 z;omega
  have hne:n.l≠[]:=by rw[hl];simp
  rw[ep]at hnd ⊢
  have hz:¬(n.leaf=true∧n.l=[]):=fun e=>hne e.2
  refine⟨?_,h.1.symm,by rw[hl,N.eo];simp,?_,?_,?_,by rw[hp0];rfl⟩
  ·rw[cq,n0 h.1,hl]
   refine tK true ?_
   unfold aW
   rw[C.lN,C.PX,hxs,hxk]
  ·rw[K9 hnd (by simp),fv (az h),if_neg (fun e=>e hp0),if_neg hz,h.1,hl,sD,oW,sD,oW]
   have:ko true (.mk key val [] [])=ko true x:=by
    show(if([]:List Int)=[]then need (val.size:Int)else 0)=(if x.ak=[]then need (x.data.size:Int)else 0)
    rw[if_pos rfl,if_pos hpg,hxs]
   rw[this]
  ·rw[fN,fN n,hp0,h.1,hl]
   show _++(A++C.mk key val [] []::B).flatMap (qE true)=_
   rw[List.flatMap_append,List.flatMap_append,List.flatMap_cons,List.flatMap_cons,kS,kS,hpg]
   rfl
  ·rw[aL,aL,hl]
   show kR (A++C.mk key val [] []::B)=_
   rw[j5,bj,j5,bj,eR,eR x,(h.2.2 x hx).2.2.2.2.2]
   rfl
 |d+1,n,x,h,hc,hx,hxk,hxp,hxs=>by
  have hp0:n.aq=0:=hc.aq hx (by rw[hxk];exact hxp)
  have hB:=h.2.2
  have hn:=az h
  have hnd:=gB hk (by omega:val.size≤400) hn
  obtain⟨A,c,B,hl,hw,hA,hcc,hBk⟩:=iZ hB h.2.1 key
  have hcl:n.l[fQ n.l key]? =some c:=by
   rw[←hw]
   conv=>lhs;rw[hl]
   simp
  have hcm:=List.mem_of_getElem? hcl
  obtain⟨o1,o2,kid,hkid,o4,o5⟩:=hB.cell c hcm
  have hen:di n=A.flatMap (ja false)++(di kid++B.flatMap (ja false)):=by rw[cF,h.1,hl,List.flatMap_append,List.flatMap_cons,bf hkid]
  rw[hl]at hB
  have hxk':x∈di kid:=by
   rw[hen]at hx
   rcases List.mem_append.1 hx with hx|hx
   ·obtain⟨a,ha,hx⟩:=List.mem_flatMap.1 hx
    exact absurd hxk (bH (hA a ha x hx))
   ·rcases List.mem_append.1 hx with hx|hx
    ·exact hx
    ·exact absurd hxk.symm (bH (qR hB hBk x hx))
  obtain⟨i1,i2,i3,i4,i5,i6,i7⟩:=zy hk hv o4 (hc.kids h.1 c hcm kid hkid) hxk' hxk hxp hxs
  have hfit:Fits (cj key val kid):=by unfold Fits;rw[i1];exact o5
  have ep:cj key val n= .mk 0 false (A++af c.key (cj key val kid)::B):=by rw[jQ _ _ _ h.1 hcl hkid,←hw,hl,fP,List.append_assoc,List.singleton_append,FY hfit]
  have hz:¬(n.leaf=true∧n.l=[]):=fun e=>h.2.1 e.2
  rw[ep]at hnd ⊢
  refine⟨?_,h.1.symm,by rw[hl,N.eo];simp,?_,?_,?_,by rw[hp0];rfl⟩
  ·rw[cq,lF h.1,hl]
   exact tK false rfl
  ·rw[K9 hnd (by simp),fv hn,if_neg (fun e=>e hp0),if_neg hz,h.1,hl,sD,oW,sD,oW]
   have e1:ko false (af c.key (cj key val kid))=dG (cj key val kid):=rfl
   have e2:ko false c=dG kid:=by rw[←bx hkid];rfl
   rw[e1,e2,i4]
  ·rw[fN,fN n,hp0,h.1,hl]
   show _++(A++af c.key (cj key val kid)::B).flatMap (qE false)=_
   have o3:c.ak=[]:=List.eq_nil_of_length_eq_zero (Nat.le_zero.1 ((hn.2.2 c hcm).1.2.2))
   rw[List.flatMap_append,List.flatMap_append,List.flatMap_cons,List.flatMap_cons,kz,fJ hkid,i5,o3]
   rfl
  ·rw[aL,aL,hl]
   show kR (A++af c.key (cj key val kid)::B)=_
   rw[j5,bj,j5,bj,cK (k:=cj key val kid) rfl,cK hkid,i6]
theorem I2{key val:ByteArray}(hk:key.size≤16)(hv:val.size≤16){d:Nat}{n:N}{x:C}(h:Good d n)(hs:(ae n).sum≤122)(h2:n.leaf=true∨2≤n.l.length)(hc:kq P n)(hx:x∈di n)(hxk:x.key=key)(hxp:¬P key x.data)(hxs:x.data.size=val.size):
 k7 key val n=cj key val n∧dG (k7 key val n)=dG n∧cf (k7 key val n)=cf n∧bw (k7 key val n)=bw n:=by
 obtain⟨i1,i2,i3,i4,i5,i6,i7⟩:=zy hk hv h hc hx hxk hxp hxs
 have e:k7 key val n=cj key val n:=by
  unfold k7
  rw[cV _ (by rw[i2,i3];exact h2.imp id fun h=>by omega),i1,if_pos (pc hs)]
 rw[e]
 exact⟨rfl,i4,i5,i6⟩
end
end Go.Proofs.YtpjenciplibdnaaGreatDoor
namespace Go.Proofs.YtpjenciplibdnaaGreatDoor
open Aml Go
end Go.Proofs.YtpjenciplibdnaaGreatDoor
namespace Go.Proofs.YtpjenciplibdnaaGreatDoor
open Aml Go
@[go_sem] theorem Zz (a b:ByteArray) (K:DV→Prop):jx .add a b K=(a.size+b.size≤9223372036854775807∧K (.v (.string (a++b)))):=rfl
@[go_sem] theorem Yz (x:Int):vK [.v (.int .u8 x)]=[x]:=rfl
@[go_sem] theorem UX (x:Int):nI [.v (.int .u8 x)]=true:=rfl
@[go_sem] theorem XT (x y:Int):vK [.v (.int .u8 x),.v (.int .u8 y)]=[x,y]:=rfl
@[go_sem] theorem We (x y:Int):nI [.v (.int .u8 x),.v (.int .u8 y)]=true:=rfl
def iw:Nat→Int→Int
 |0,x=>x
 |i+1,x=>IntKind.u64.wrap ((iw i x).tdiv 256)
def aC:Nat→Int→ByteArray
 |0,_=>aJ
 |i+1,x=>strOfNums [IntKind.u8.wrap (iw i x)]++aC i x
theorem av:∀(k:Nat) (x:Int),(aC k x).size=k
 |0,_=>bk
 |k+1,x=>by
  rw[aC,ByteArray.size_append,av k x,strOfNums_size]
  simp;omega
theorem CU(w0:W0)(x:Int)(k:Nat)(S:St)(h0:1≤k)(h1:k≤8):aa Tryz.prog w0 86 [dU x,dI k] S (fun d S'=>d=dS (aC k x)∧S'=S):=by
 refine aZ [] mx Tryz.func86 rfl rfl (by kernel_rfl) ?_;(refine @ab _ ?_;refine an @Tryz.ntmps86 ?_)
 refine⟨fun h=>absurd h (by omega),fun _=>⟨fun h=>absurd h (by omega),fun _=>?_⟩⟩
 refine aF [] k [0,1,5,6] (fun i=>[(0,dU (iw i x)),(5,dS (aC i x)),(6,dI i)]) (fun _=>S) (fun _=>True) mx (by kernel_rfl) ?_ ?_
 ·(refine @ab _ ?_;refine au ?_)
  exact⟨rfl,rfl⟩
 ·intro i hi _
  have hs:=av i x
  have hz:(strOfNums [IntKind.u8.wrap (iw i x)]).size=1:=strOfNums_size _
  (refine @ab _ ?_;refine an @hz ?_)
  refine⟨fun hlt=>⟨by omega,hlt,rfl,rfl,by rw[aX (by omega) (by omega)];rfl⟩,fun hge=>by rw[show i=k by omega]⟩
def Uw(x:Int):Int:=if x.tmod 2=1 then fa .xor .u32 (IntKind.u32.wrap (x.tdiv 2)) 3988292384 else IntKind.u32.wrap (x.tdiv 2)
def kE:Nat→Int→Int
 |0,x=>x
 |k+1,x=>Uw (kE k x)
def cW(s:ByteArray):List Int:=s.data.toList.map fun c=>(c.toNat:Int)
theorem oV(s:ByteArray):(cW s).length=s.size:=by unfold cW;rw[List.length_map];rfl
def nJ(l:List Int)(x:Int):Int:=l.foldl (fun x c=>kE 8 (fa .xor .u32 x (IntKind.u32.wrap c))) x
def vd(x:Int)(s:ByteArray):Int:=IntKind.u32.wrap (4294967295-nJ (cW s) (IntKind.u32.wrap (4294967295-x)))
theorem onR(w0:W0)(x:Int)(s:ByteArray)(S:St)(h:s.size≤1048576):aa Tryz.prog w0 164 [.v (.int .u32 x),dS s] S (fun d S'=>d= .v (.int .u32 (vd x s))∧S'=S):=by
 refine aZ [] mx Tryz.func164 rfl rfl (by kernel_rfl) ?_;(refine @ab _ ?_;refine an @Tryz.ntmps164 ?_)
 refine aF [] s.size [1,5,6] (fun i=>[(5,.v (.int .u32 (nJ ((cW s).take i) (IntKind.u32.wrap (4294967295-x))))),(6,dI i)]) (fun _=>S) (fun _=>True) mx (by kernel_rfl) ?_ ?_
 ·(refine @ab _ ?_;refine au ?_)
  rfl
 ·intro i hi _
  (refine @ab _ ?_;refine au ?_)
  refine⟨fun hlt=>⟨hlt,fun c hc=>?_⟩,fun hge=>by rw[List.take_of_length_le (by rw[oV];omega)];rfl⟩
  have hs:(cW s).take (i+1)=(cW s).take i++[(c.toNat:Int)]:=by
   rw[List.take_add_one];unfold cW;rw[List.getElem?_map,hc];rfl
  have hX:nJ ((cW s).take (i+1)) (IntKind.u32.wrap (4294967295-x))=kE 8 (fa .xor .u32 (nJ ((cW s).take i) (IntKind.u32.wrap (4294967295-x))) (IntKind.u32.wrap (c.toNat:Int))):=by
   rw[hs];unfold nJ;rw[List.foldl_append];rfl
  rw[hX]
  generalize fa .xor .u32 (nJ ((cW s).take i) (IntKind.u32.wrap (4294967295-x))) (IntKind.u32.wrap (c.toNat:Int))=X
  refine aF [] 8 [1,5,6,7] (fun j=>[(5,.v (.int .u32 (kE j X))),(7,dI j)]) (fun _=>S) (fun _=>True) mx (by kernel_rfl) ?_ ?_
  ·(refine @ab _ ?_;refine au ?_)
   rfl
  ·intro j hj _
   (refine @ab _ ?_;refine au ?_)
   have e1:(kE j X).tmod 2=1→kE (j+1) X=fa .xor .u32 (IntKind.u32.wrap ((kE j X).tdiv 2)) 3988292384:=fun h=>if_pos h
   have e2:¬(kE j X).tmod 2=1→kE (j+1) X=IntKind.u32.wrap ((kE j X).tdiv 2):=fun h=>if_neg h
   refine⟨fun hlt2=>⟨fun hb=>⟨by omega,(e1 hb).symm,by rw[aX (by omega) (by omega)];rfl⟩,fun hb=>⟨by omega,(e2 hb).symm,by rw[aX (by omega) (by omega)];rfl⟩⟩,fun hge=>⟨hlt,by rw[show j=8 by omega],by rw[aX (by omega) (by omega)];rfl⟩⟩
theorem Zl(w0:W0)(s:ByteArray)(S:St)(h:s.size≤1048576):aa Tryz.prog w0 108 [dS s] S (fun d S'=>d= .v (.int .u32 (vd 0 s))∧S'=S):=by
 refine aZ [] mx Tryz.func108 rfl rfl (by kernel_rfl) ?_;(refine @ab _ ?_;refine an @Tryz.ntmps108 ?_)
 refine ao (onR w0 0 s _ h) ?_
 (refine @ab _ ?_;exact aV)
def lZ(s:ByteArray):ByteArray:=aC 1 (IntKind.u64.wrap (s.size:Int))++s
theorem ju(s:ByteArray):(lZ s).size=1+s.size:=by unfold lZ;rw[ByteArray.size_append,av]
def bO(l:List ByteArray):Nat:=(l.map fun s=>s.size+1).sum
theorem eM(l:List ByteArray)(k:Nat):bO (l.take k)≤bO l:=by
 have:=congrArg bO (List.take_append_drop k l)
 simp only[bO,List.map_append,List.sum_append]at this ⊢
 omega
theorem nw{l:List ByteArray}{k:Nat}{s:ByteArray}(h:l[k]? =some s):bO (l.take (k+1))=bO (l.take k)+s.size+1:=by
 unfold bO
 rw[List.take_add_one,h];simp;omega
theorem YJ(w0:W0)(l:List ByteArray)(S:St)(h:bO l≤1048576)(hl:l.length≤1048576):aa Tryz.prog w0 147 [.sl 1 false (l.map dS)] S (fun d S'=>d=dI (bO l)∧S'=S):=by
 refine aZ [] mx Tryz.func147 rfl rfl (by kernel_rfl) ?_;(refine @ab _ ?_;refine an @Tryz.ntmps147 ?_)
 refine aF [] l.length [0,3,4] (fun k=>[(3,dI (bO (l.take k))),(4,dI k)]) (fun _=>S) (fun _=>True) mx (by kernel_rfl) ?_ ?_
 ·(refine @ab _ ?_;refine au ?_)
  rfl
 ·intro k hk _
  have h1:=eM l k
  have h2:=eM l (k+1)
  (refine @ab _ ?_;refine au ?_)
  refine⟨fun hlt=>⟨hlt,fun s hs=>?_⟩,fun hge=>by rw[List.take_of_length_le (by omega)]⟩
  have h3:=nw hs
  refine⟨hlt,?_,by rw[aX (by omega) (by omega)];rfl⟩
  rw[aX (n:=(s.size:Int)+1) (by omega) (by omega),aX (by omega) (by omega)];omega
def bT:List ByteArray→ByteArray→ByteArray
 |[],b=>b
 |s::l,b=>bT l (s++b)
def fT:List ByteArray→ByteArray→ByteArray→ByteArray
 |[],_,s=>s
 |c::l,b,s=>fT l (c++b) (s++strOfNums [IntKind.u8.wrap (IntKind.i64.wrap (128-(((c++b).size:Nat):Int)))])
theorem uS(l m:List ByteArray)(b:ByteArray):bT (l++m) b=bT m (bT l b):=by
 induction l generalizing b with
 |nil=>rfl
 |cons a l ih=>exact ih _
theorem zt(l m:List ByteArray)(b s:ByteArray):fT (l++m) b s=fT m (bT l b) (fT l b s):=by
 induction l generalizing b s with
 |nil=>rfl
 |cons a l ih=>exact ih _ _
theorem rh(l:List ByteArray)(b:ByteArray):(bT l b).size+l.length=b.size+bO l:=by
 induction l generalizing b with
 |nil=>simp[bT,bO]
 |cons a l ih=>
  have:=ih (a++b)
  rw[ByteArray.size_append]at this
  simp only[bT,bO,List.map_cons,List.sum_cons,List.length_cons]at*
  omega
theorem qU(l:List ByteArray)(b s:ByteArray):(fT l b s).size=s.size+l.length:=by
 induction l generalizing b s with
 |nil=>rfl
 |cons a l ih=>
  rw[fT,ih,ByteArray.size_append,strOfNums_size]
  simp;omega
theorem sH(l:List ByteArray):l.length≤bO l:=by
 induction l with
 |nil=>simp
 |cons a l ih=>simp only[bO,List.map_cons,List.sum_cons,List.length_cons]at *;omega
def ca(kind:Int)(l:List ByteArray):ByteArray:=
 strOfNums [kind,IntKind.u8.wrap (l.length:Int)]++fT l aJ aJ++(strOfNums (List.replicate (122-bO l) 0)++bT l aJ)
def cS(kind:Int)(l:List ByteArray):ByteArray:=aC 4 (IntKind.u64.wrap (vd 0 (ca kind l)))++ca kind l
theorem kP(kind:Int){l:List ByteArray}(h:bO l≤122):(ca kind l).size=124:=by
 unfold ca
 have h1:=rh l aJ
 have h2:=qU l aJ aJ
 have h3:=sH l
 rw[bk]at h1 h2
 simp only[ByteArray.size_append,strOfNums_size,List.length_replicate,List.length_cons,List.length_nil]
 omega
theorem je(kind:Int){l:List ByteArray}(h:bO l≤122):(cS kind l).size=128:=by
 unfold cS
 rw[ByteArray.size_append,av,kP kind h]
theorem Ri(w0:W0)(kind:Int)(l:List ByteArray)(S:St)(hk:kind≠0)(h:bO l≤122):aa Tryz.prog w0 93 [dY kind,.sl 1 false (l.map dS)] S (fun d S'=>d= .bD [dS (cS kind l),dI 0]∧S'=S):=by
 have hll:=sH l
 refine aZ [] mx Tryz.func93 rfl rfl (by kernel_rfl) ?_;(refine @ab _ ?_;refine an @Tryz.ntmps93 ?_)
 refine⟨fun e=>absurd e hk,fun _=>ao (YJ w0 l _ (by omega) (by omega)) ?_⟩
 (refine @ab _ ?_;refine au ?_)
 refine⟨fun e=>absurd e (by omega),fun _=>?_⟩
 refine aF [] l.length [0,1,6,7,8] (fun k=>[(6,dS (fT (l.take k) aJ aJ)),(7,dS (bT (l.take k) aJ)),(8,dI k)]) (fun _=>S) (fun _=>True) mx (by kernel_rfl) ?_ ?_
 ·(refine @ab _ ?_;refine au ?_)
  exact⟨rfl,rfl⟩
 ·intro k hk2 _
  have h1:=rh (l.take k) aJ
  have h2:=qU (l.take k) aJ aJ
  have h3:=eM l k
  rw[bk,List.length_take]at h1 h2
  (refine @ab _ ?_;refine au ?_)
  refine⟨fun hlt=>⟨hlt,fun s hs=>?_⟩,fun hge=>?_⟩
  ·have hb:bT (l.take (k+1)) aJ=s++bT (l.take k) aJ:=by rw[List.take_add_one,hs,uS];rfl
   have hsl:fT (l.take (k+1)) aJ aJ=fT (l.take k) aJ aJ++strOfNums [IntKind.u8.wrap (IntKind.i64.wrap (128-(((s++bT (l.take k) aJ).size:Nat):Int)))]:=by rw[List.take_add_one,hs,zt];rfl
   have h4:=nw hs
   have h5:=eM l (k+1)
   have hz:∀x:Int,(strOfNums [x]).size=1:=fun x=>strOfNums_size _
   rw[hb,hsl]
   (refine @ab _ ?_;refine ba @hz @ByteArray.size_append ?_)
   exact⟨by omega,by omega,hlt,by rw[aX (by omega) (by omega)];rfl⟩
  ·rw[List.take_of_length_le (by omega)]at h1 h2 ⊢
   have hz2:(strOfNums [kind,IntKind.u8.wrap (l.length:Int)]).size=2:=strOfNums_size _
   have eN:IntKind.i64.wrap (IntKind.i64.wrap (124-(((strOfNums [kind,IntKind.u8.wrap (l.length:Int)]).size+(fT l aJ aJ).size:Nat):Int))-((bT l aJ).size:Int))=((122-bO l:Nat):Int):=by
    rw[aX (n:=124-_) (by omega) (by omega),aX (by omega) (by omega)];omega
   rw[eN,Int.toNat_natCast]
   have hz3:(strOfNums (List.replicate (122-bO l) 0)).size=122-bO l:=by rw[strOfNums_size,List.length_replicate]
   have hbs:=kP kind h
   refine⟨by omega,by omega,by omega,by omega,fun b=>⟨by simp,by omega,by omega,ao (Zl w0 _ _ (by show(ca kind l).size≤_;omega)) ?_⟩⟩
   have hz4:=av 4 (IntKind.u64.wrap (vd 0 (ca kind l)))
   (refine @ab _ ?_;refine au ?_)
   refine ao (CU w0 _ 4 _ (by omega) (by omega)) ?_
   (refine @ab _ ?_;refine au ?_)
   exact⟨by omega,.refl _⟩
end Go.Proofs.YtpjenciplibdnaaGreatDoor
namespace Aml.Y
open Go Go.RowKit
def kY(op:Op):Nat:=match op with
 | .lookup ..=>1
 |op=>Z.kX op
def cls(gs ns:List Nat)(i:Nat)(op:Op):Nat:=if gs.contains i then 2 else if ns.contains i then 3 else match kY op with
 |0=>0
 |1=>1
 |2=>4
 |_=>3
def mn(a b:Nat):Bool:=a==0||(a==1&&(decide (b<3)||b==4))||(a==4&&b==4)
structure yB(S T:St):Prop where
 box:S.box.Perm T.box
 acc:S.acc.Perm T.acc
theorem yB.refl(S:St):yB S S:=⟨.refl _,.refl _⟩
theorem yB.symm{S T:St}(h:yB S T):yB T S:=⟨h.box.symm,h.acc.symm⟩
theorem yB.trans{S T U:St}(h:yB S T)(k:yB T U):yB S U:=⟨h.box.trans k.box,h.acc.trans k.acc⟩
theorem yB.rel{w0:W0}{g:Gh}{S T:St}{w:World}(h:yB S T)(r:Rel w0 g S w):Rel w0 g T w:=
 ⟨r.below,r.bM,(h.box.map _).nodup_iff.1 r.nb,(h.acc.map _).nodup_iff.1 r.na,r.gq,r.fresh,fun l o ho=>r.top l o (h.acc.mem_iff.2 ho),let⟨ow,h1,h2⟩:=r.own
  ⟨ow,fun b ds hb=>h1 b ds (h.box.mem_iff.2 hb),fun l o hl=>h2 l o (h.acc.mem_iff.2 hl)⟩⟩
theorem j0{α:Type}:∀{l:List (Nat×α)} {b:Nat},jD l b→∀p,p∈l→p.1≠b
 |[],b,_,p,h=>by cases h
 |(k,x)::t,b,h,p,hp=>by
  rcases List.mem_cons.1 hp with rfl|hp
  ·exact h.1
  ·exact j0 h.2.2 p hp
theorem Kz{α:Type}(l:List (Nat×α)):∃b,jD l b:=by
 have:∃b,∀p,p∈l→p.1<b:=by
  induction l with
  |nil=>exact⟨0,fun p h=>by cases h⟩
  |cons a l ih=>
   obtain⟨b,hb⟩:=ih
   refine⟨a.1+b+1,fun p hp=>?_⟩
   rcases List.mem_cons.1 hp with rfl|hp
   ·omega
   ·have:=hb p hp;omega
 obtain⟨b,hb⟩:=this
 exact⟨b,dn fun p hp e=>by have:=hb p hp;omega⟩
theorem yB.jD{S T:St}(h:yB S T){b:Nat}(k:jD S.box b):jD T.box b:=dn fun p hp=>j0 k p (h.box.mem_iff.2 hp)
theorem yB.M4{P:Program}{w0:W0}{o:Oper}{ρ:Operand→DV}{S T:St}{K:DV→St→Prop}(h:yB S T)(y:aj P w0 o ρ S K):aj P w0 o ρ T K:=
 fun g w r h1 h2 h3=>y g w r (h.symm.rel h1) h2 h3
structure Hm(X T:St):Prop where
 box:∀b x,lk X.box b=some x→(b,x)∈T.box
 acc:∀l o,lk X.acc l=some o→(l,o)∈T.acc
theorem Hm.of{X T:St}(h:Has X T):Hm X T:=⟨fun b x hb=>cn (h.box b x hb),fun l o hl=>cn (h.acc l o hl)⟩
theorem Hm.perm{X S T:St}(h:Hm X S)(k:yB S T):Hm X T:=⟨fun b x hb=>k.box.mem_iff.1 (h.box b x hb),fun l o hl=>k.acc.mem_iff.1 (h.acc l o hl)⟩
theorem Hm.has{X T:St}{w0:W0}{g:Gh}{w:World}(h:Hm X T)(r:Rel w0 g T w):Has X T:=⟨fun b x hb=>kv r.nb (h.box b x hb),fun l o hl=>kv r.na (h.acc l o hl)⟩
def PC(F:List DV→St→Prop)(fr:List DV)(S:St):Prop:=∃T,yB T S∧F fr T
theorem PC.mono{F G:List DV→St→Prop}(h:∀fr S,F fr S→G fr S){fr:List DV}{S:St}(k:PC F fr S):PC G fr S:=let⟨T,a,b⟩:=k;⟨T,a,h _ _ b⟩
def Ph(K:List DV→St→Prop):Prop:=∀fr S T,yB S T→K fr S→K fr T
theorem PC.Zv(F:List DV→St→Prop):Ph (PC F):=fun _ _ _ h ⟨U,a,b⟩=>⟨U,a.trans h,b⟩
def mP(P:Program)(w0:W0)(S0:St)(c:Nat)(o:Oper)(fr:List DV)(S:St)(K:List DV→St→Prop):Prop:=
 (c=0∧∃d,(∀S',QY P w0 S' o fr d)∧K (pt fr o.dst d) S)∨
 (c=1∧Hm S0 S∧∃d,(∀S',Hm S0 S'→QY P w0 S' o fr d)∧K (pt fr o.dst d) S)∨
 (c=2∧aj P w0 o (ev fr) S fun d S'=>Hm S0 S'∧K (pt fr o.dst d) S')∨
 (c=3∧aj P w0 o (ev fr) S fun d S'=>K (pt fr o.dst d) S')∨
 (c=4∧Hm S0 S∧∃t,o.op= .alloc t∧eL (zD P t)=true∧∀b,jD S.box b→K (pt fr o.dst (.v (.pointer (some ⟨b,0,none⟩)))) ⟨(b,cd (zD P t))::S.box,S.acc⟩)
def iO(P:Program)(w0:W0)(S0:St)(c:Nat)(ops:Array Oper)(o:Oper)(fr:List DV)(S:St)(K:List DV→St→Prop):Prop:=
 (dA ops fr o.guard=some true∧mP P w0 S0 c o fr S K)∨(dA ops fr o.guard=some false∧K (pt fr o.dst ud) S)
section
variable {P:Program} {w0:W0} {S0:St} {ops:Array Oper} {md:Region.Mode}
theorem s7{c:Nat}{o:Oper}{fr:List DV}{S:St}{K K':List DV→St→Prop}(h:∀fr S,K fr S→K' fr S)(b:mP P w0 S0 c o fr S K):mP P w0 S0 c o fr S K':=by
 rcases b with⟨c,d,q,k⟩|⟨c,hS,d,q,k⟩|⟨c,q⟩|⟨c,q⟩|⟨c,hS,t,ht,hz,k⟩
 ·exact .inl ⟨c,d,q,h _ _ k⟩
 ·exact .inr (.inl ⟨c,hS,d,q,h _ _ k⟩)
 ·exact .inr (.inr (.inl ⟨c,aQ (fun d S hk=>⟨hk.1,h _ _ hk.2⟩) q⟩))
 ·exact .inr (.inr (.inr (.inl ⟨c,aQ (fun d S hk=>h _ _ hk) q⟩)))
 ·exact .inr (.inr (.inr (.inr ⟨c,hS,t,ht,hz,fun b hb=>h _ _ (k b hb)⟩)))
theorem kW{c:Nat}{o:Oper}{fr:List DV}{S:St}{K K':List DV→St→Prop}(h:∀fr S,K fr S→K' fr S)(b:iO P w0 S0 c ops o fr S K):iO P w0 S0 c ops o fr S K':=
 b.imp (fun⟨a,b⟩=>⟨a,s7 h b⟩) fun⟨a,b⟩=>⟨a,h _ _ b⟩
theorem JH{c:Nat}{o:Oper}{K:List DV→St→Prop}(hK:Ph K):Ph fun fr S=>iO P w0 S0 c ops o fr S K:=fun fr S T hp h=>by
 rcases h with⟨g,b⟩|⟨g,k⟩
 ·refine .inl ⟨g,?_⟩
  rcases b with⟨c,d,q,k⟩|⟨c,hS,d,q,k⟩|⟨c,q⟩|⟨c,q⟩|⟨c,hS,t,ht,hz,k⟩
  ·exact .inl ⟨c,d,q,hK _ _ _ hp k⟩
  ·exact .inr (.inl ⟨c,hS.perm hp,d,q,hK _ _ _ hp k⟩)
  ·exact .inr (.inr (.inl ⟨c,hp.M4 q⟩))
  ·exact .inr (.inr (.inr (.inl ⟨c,hp.M4 q⟩)))
  ·exact .inr (.inr (.inr (.inr ⟨c,hS.perm hp,t,ht,hz,fun b hb=>hK _ ⟨(b,cd (zD P t))::S.box,S.acc⟩ _ ⟨hp.box.cons _,hp.acc⟩ (k b (hp.symm.jD hb))⟩)))
 ·exact .inr ⟨g,hK _ _ _ hp k⟩
theorem Il{c:Nat}{o:Oper}{fr:List DV}{S:St}{K:List DV→St→Prop}{dst:Option Tmp}{e:DV}(h1:∀t,dst=some t→t∉o.looksAt ops)(h2:∀t,dst=some t→o.dst≠some t):
 mP P w0 S0 c o (pt fr dst e) S K↔mP P w0 S0 c o fr S fun fr' S'=>K (pt fr' dst e) S':=by
 have hq:∀S d,QY P w0 S o (pt fr dst e) d↔QY P w0 S o fr d:=fun S d=>
  ⟨aR (fun x hx=>fc (ops:=ops) h1 x hx),aR (fun x hx=>(fc (ops:=ops) h1 x hx).symm)⟩
 have hc:∀d,pt (pt fr dst e) o.dst d=pt (pt fr o.dst d) dst e:=fun d=>j9 fr e d h2
 have hy:∀K,aj P w0 o (ev (pt fr dst e)) S K↔aj P w0 o (ev fr) S K:=fun K=>
  ⟨aR (fun x hx=>fc (ops:=ops) h1 x hx),aR (fun x hx=>(fc (ops:=ops) h1 x hx).symm)⟩
 unfold mP
 simp only[hq,hc,hy]
theorem jr{c:Nat}{o:Oper}{fr:List DV}{S:St}{K:List DV→St→Prop}{dst:Option Tmp}{e:DV}(h1:∀t,dst=some t→t∉o.looksAt ops)(h2:∀t,dst=some t→o.dst≠some t):
 iO P w0 S0 c ops o (pt fr dst e) S K↔iO P w0 S0 c ops o fr S fun fr' S'=>K (pt fr' dst e) S':=by
 unfold iO
 rw[iA h1,Il h1 h2,j9 fr e ud h2]
theorem yW{c:Nat}{o:Oper}{fr:List DV}{S:St}{K K':List DV→St→Prop}(h:∀e S,K (pt fr o.dst e) S→K' (pt fr o.dst e) S)(b:mP P w0 S0 c o fr S K):mP P w0 S0 c o fr S K':=by
 rcases b with⟨c,d,q,k⟩|⟨c,hS,d,q,k⟩|⟨c,q⟩|⟨c,q⟩|⟨c,hS,t,ht,hz,k⟩
 ·exact .inl ⟨c,d,q,h _ _ k⟩
 ·exact .inr (.inl ⟨c,hS,d,q,h _ _ k⟩)
 ·exact .inr (.inr (.inl ⟨c,aQ (fun d S hk=>⟨hk.1,h _ _ hk.2⟩) q⟩))
 ·exact .inr (.inr (.inr (.inl ⟨c,aQ (fun d S hk=>h _ _ hk) q⟩)))
 ·exact .inr (.inr (.inr (.inr ⟨c,hS,t,ht,hz,fun b hb=>h _ _ (k b hb)⟩)))
theorem tV{c:Nat}{o:Oper}{fr:List DV}{S:St}{K K':List DV→St→Prop}(h:∀e S,K (pt fr o.dst e) S→K' (pt fr o.dst e) S)(b:iO P w0 S0 c ops o fr S K):iO P w0 S0 c ops o fr S K':=
 b.imp (fun⟨a,b⟩=>⟨a,yW h b⟩) fun⟨a,b⟩=>⟨a,h _ _ b⟩
theorem Hm.cons{X S:St}(h:Hm X S){b:Nat}(v:List DV):Hm X ⟨(b,v)::S.box,S.acc⟩:=⟨fun c x hc=>List.mem_cons_of_mem _ (h.box c x hc),fun l o hl=>h.acc l o hl⟩
theorem Dy{cx cy:Nat}{x y:Oper}(hap:x.apart ops y=true)(hk:mn cx cy=true){fr:List DV}{S:St}{K:List DV→St→Prop}(hK:Ph K)(h:iO P w0 S0 cx ops x fr S fun fr S=>iO P w0 S0 cy ops y fr S K):
 iO P w0 S0 cy ops y fr S fun fr S=>iO P w0 S0 cx ops x fr S K:=by
 obtain⟨b1,b2,b3⟩:=Oper.apart_spec hap
 have hw:∀e,dA ops (pt fr y.dst e) x.guard=dA ops fr x.guard:=fun e=>iA b3
 have hq:∀{S d e},QY P w0 S x fr d→QY P w0 S x (pt fr y.dst e) d:=fun{S d e} q=>aR (fun z hz=>(fc (ops:=ops) b3 z hz).symm) q
 rcases h with⟨hg,hb⟩|⟨hg,hb⟩
 ·rcases hb with⟨c,d,q,k⟩|⟨c,hS,d,q,k⟩|⟨c, -⟩|⟨c, -⟩|⟨c,hS,t,ht,hz,k⟩
  ·rw[jr b1 b2]at k
   exact tV (fun e S' hk=> .inl ⟨by rw[hw];exact hg,.inl ⟨c,d,fun S''=>hq (q S''),hk⟩⟩) k
  ·rw[jr b1 b2]at k
   rcases k with⟨g2,k⟩|⟨g2,k⟩
   ·rcases k with⟨c2,d2,q2,k⟩|⟨c2,hS2,d2,q2,k⟩|⟨c2,q2⟩|⟨c2, -⟩|⟨c2,hS2,t2,ht2,hz2,k2⟩
    ·exact .inl ⟨g2,.inl ⟨c2,d2,q2,.inl ⟨by rw[hw];exact hg,.inr (.inl ⟨c,hS,d,fun S' h'=>hq (q S' h'),k⟩)⟩⟩⟩
    ·exact .inl ⟨g2,.inr (.inl ⟨c2,hS2,d2,q2,.inl ⟨by rw[hw];exact hg,.inr (.inl ⟨c,hS,d,fun S' h'=>hq (q S' h'),k⟩)⟩⟩)⟩
    ·exact .inl ⟨g2,.inr (.inr (.inl ⟨c2,aQ (fun e S' h'=>⟨h'.1,.inl ⟨by rw[hw];exact hg,.inr (.inl ⟨c,h'.1,d,fun S'' h''=>hq (q S'' h''),h'.2⟩)⟩⟩) q2⟩))⟩
    ·rw[c,c2]at hk;exact absurd hk (by decide)
    ·exact .inl ⟨g2,.inr (.inr (.inr (.inr ⟨c2,hS2,t2,ht2,hz2,fun b hb=> .inl ⟨by rw[hw];exact hg,.inr (.inl ⟨c,Hm.cons hS _,d,fun S'' h''=>hq (q S'' h''),k2 b hb⟩)⟩⟩)))⟩
   ·exact .inr ⟨g2,.inl ⟨by rw[hw];exact hg,.inr (.inl ⟨c,hS,d,fun S' h'=>hq (q S' h'),k⟩)⟩⟩
  ·rw[c]at hk;simp[mn]at hk
  ·rw[c]at hk;simp[mn]at hk
  ·have hc2:cy=4:=by rw[c]at hk;simpa[mn]using hk
   subst hc2
   rcases Classical.em (dA ops fr y.guard=some true)with g2|g2
   ·refine .inl ⟨g2,.inr (.inr (.inr (.inr ⟨rfl,hS,?_⟩)))⟩
    obtain⟨a0,ha0⟩:=Kz S.box
    have k0:iO P w0 S0 4 ops y (pt fr x.dst (.v (.pointer (some ⟨a0,0,none⟩)))) ⟨(a0,cd (zD P t))::S.box,S.acc⟩ K:=k a0 ha0
    rw[jr b1 b2]at k0
    have gen:∀a,jD S.box a→∃t2,y.op= .alloc t2∧eL (zD P t2)=true∧∀b,jD ((a,cd (zD P t))::S.box) b→K (pt (pt fr y.dst (.v (.pointer (some ⟨b,0,none⟩)))) x.dst (.v (.pointer (some ⟨a,0,none⟩)))) ⟨(b,cd (zD P t2))::(a,cd (zD P t))::S.box,S.acc⟩:=fun a ha=>by
     have k1:iO P w0 S0 4 ops y (pt fr x.dst (.v (.pointer (some ⟨a,0,none⟩)))) ⟨(a,cd (zD P t))::S.box,S.acc⟩ K:=k a ha
     rw[jr b1 b2]at k1
     rcases k1 with⟨-,b⟩|⟨g3, -⟩
     ·rcases b with⟨c2, -⟩|⟨c2, -⟩|⟨c2, -⟩|⟨c2, -⟩|⟨c2, -,t2,ht2,hz2,k2⟩
      ·cases c2
      ·cases c2
      ·cases c2
      ·cases c2
      ·exact⟨t2,ht2,hz2,fun b hb=>k2 b hb⟩
     ·rw[g2]at g3;cases g3
    obtain⟨t2,ht2,hz2, -⟩:=gen a0 ha0
    refine⟨t2,ht2,hz2,fun b hb=> .inl ⟨by rw[hw];exact hg,.inr (.inr (.inr (.inr ⟨c,Hm.cons hS _,t,ht,hz,fun a ha=>?_⟩)))⟩⟩
    obtain⟨t3,ht3, -,k3⟩:=gen a ha.2.2
    rw[ht2]at ht3;cases ht3
    exact hK _ ⟨(b,cd (zD P t2))::(a,cd (zD P t))::S.box,S.acc⟩ _ ⟨.swap _ _ _,.refl _⟩ (k3 b ⟨fun e=>ha.2.1 e,fun e=>ha.1 e,hb⟩)
   ·obtain⟨a0,ha0⟩:=Kz S.box
    have k0:iO P w0 S0 4 ops y (pt fr x.dst (.v (.pointer (some ⟨a0,0,none⟩)))) ⟨(a0,cd (zD P t))::S.box,S.acc⟩ K:=k a0 ha0
    rw[jr b1 b2]at k0
    rcases k0 with⟨g3, -⟩|⟨g3, -⟩
    ·exact absurd g3 g2
    ·refine .inr ⟨g3,.inl ⟨by rw[hw];exact hg,.inr (.inr (.inr (.inr ⟨c,hS,t,ht,hz,fun a ha=>?_⟩)))⟩⟩
     have k1:iO P w0 S0 4 ops y (pt fr x.dst (.v (.pointer (some ⟨a,0,none⟩)))) ⟨(a,cd (zD P t))::S.box,S.acc⟩ K:=k a ha
     rw[jr b1 b2]at k1
     rcases k1 with⟨g4, -⟩|⟨g4,k1⟩
     ·exact absurd g4 g2
     ·exact k1
 ·rw[jr b1 b2]at hb
  exact tV (fun e S' hk=> .inr ⟨by rw[hw];exact hg,hk⟩) hb
theorem He{cx cy:Nat}{x y:Oper}(hap:x.apart ops y=true)(hk:mn cx cy=true){fr:List DV}{S:St}{K:List DV→St→Prop}(h:iO P w0 S0 cx ops x fr S (PC fun fr S=>iO P w0 S0 cy ops y fr S (PC K))):
 iO P w0 S0 cy ops y fr S (PC fun fr S=>iO P w0 S0 cx ops x fr S (PC K)):=
 kW (fun fr S h=>⟨S,.refl S,h⟩) (Dy hap hk (PC.Zv K) (kW (fun fr S ⟨T,hp,h⟩=>JH (PC.Zv K) _ _ _ hp h) h))
def kH(P:Program)(w0:W0)(S0:St)(gs ns:List Nat)(ops:Array Oper)(i:Nat)(fr:List DV)(S:St)(K:List DV→St→Prop):Prop:=match ops[i]? with
 |none=>K fr S
 |some o=>iO P w0 S0 (cls gs ns i o.op) ops o fr S K
def UI(P:Program)(w0:W0)(S0:St)(gs ns:List Nat)(md:Region.Mode)(ops:Array Oper)(K:List DV→St→Prop):Nat→Array Bool→List DV→St→Prop
 |0,listed,fr,S=>Region.ready md ops listed=[]∧K fr S
 |fuel+1,listed,fr,S=>(Region.ready md ops listed=[]→K fr S)∧∀i∈Region.ready md ops listed,kH P w0 S0 gs ns ops i fr S (PC (UI P w0 S0 gs ns md ops K fuel (listed.setIfInBounds i true)))
theorem Ip{gs ns D:List Nat}{K:List DV→St→Prop}{i:Nat}{oi:Oper}(hi:ops[i]? =some oi):
 ∀(fuel:Nat) (listed:Array Bool) (fr:List DV) (S:St),
  (∀j,j∈D→listed.getD j true=false∧∃oj,ops[j]? =some oj∧∃e∈oj.after,Region.binds md e=true∧(e.on=i∨e.on∈D))→
  (∀j oj,ops[j]? =some oj→j≠i→listed.getD j true=false→j∉D→oi.apart ops oj=true∧mn (cls gs ns i oi.op) (cls gs ns j oj.op)=true)→
  (∀l:List Nat,l.Nodup→(∀k,k∈l→listed.getD k true=false)→l.length≤fuel+1)→
  i∈Region.ready md ops listed→iO P w0 S0 (cls gs ns i oi.op) ops oi fr S (PC (UI P w0 S0 gs ns md ops K fuel (listed.setIfInBounds i true)))→UI P w0 S0 gs ns md ops K (fuel+1) listed fr S:=by
 intro fuel
 induction fuel with
 |zero=>
  intro listed fr S _ _ hcnt hr H
  refine⟨fun h=>(by rw[h]at hr;cases hr),fun j hj=>?_⟩
  by_cases hji:j=i
  ·subst hji;unfold kH;simp only[hi];exact H
  ·exfalso
   have:=hcnt [i,j] (by simp[Ne.symm hji]) fun k hk=>by
    simp only[List.mem_cons,List.not_mem_nil,or_false]at hk
    rcases hk with rfl|rfl
    ·exact(mem_ready.1 hr).1
    ·exact(mem_ready.1 hj).1
   simp at this
 |succ fuel ih=>
  intro listed fr S hD hfree hcnt hr H
  refine⟨fun h=>(by rw[h]at hr;cases hr),fun j hj=>?_⟩
  by_cases hji:j=i
  ·subst hji;unfold kH;simp only[hi];exact H
  ·obtain⟨hjun,oj,hoj,hall⟩:=mem_ready.1 hj
   have hlis:∀e∈oj.after,Region.binds md e=true→listed.getD e.on true=false→False:=fun e he hb h0=>by
    have h1:=hall e he hb
    rcases Nat.lt_or_ge e.on listed.size with h'|h'
    ·simp[h']at h0 h1;rw[h0]at h1;cases h1
    ·simp[Array.getElem?_eq_none h']at h1
   have hjD:j∉D:=fun hjD=>by
    obtain⟨_,oj',ho,e,he,hb,hor⟩:=hD j hjD
    rw[hoj]at ho;cases ho
    rcases hor with h|h
    ·exact hlis e he hb (by rw[h];exact(mem_ready.1 hr).1)
    ·exact hlis e he hb (hD _ h).1
   have h1:iO P w0 S0 (cls gs ns i oi.op) ops oi fr S (PC fun fr S=>iO P w0 S0 (cls gs ns j oj.op) ops oj fr S (PC (UI P w0 S0 gs ns md ops K fuel ((listed.setIfInBounds i true).setIfInBounds j true)))):=
    kW (fun fr S h=>PC.mono (fun fr S h=>by
     have:=h.2 j (ready_mono hj hji)
     unfold kH at this;simp only[hoj]at this;exact this) h) H
   have hc:=hfree j oj hoj hji hjun hjD
   have h2:=He hc.1 hc.2 h1
   have hfree':∀k ok,ops[k]? =some ok→k≠i→(listed.setIfInBounds j true).getD k true=false→k∉D→oi.apart ops ok=true∧mn (cls gs ns i oi.op) (cls gs ns k ok.op)=true:=fun k ok hk hki hun hno=>by
    refine hfree k ok hk hki ?_ hno
    by_cases hjk:j=k
    ·subst hjk;exact hjun
    ·rw[getD_set_ne true hjk]at hun;exact hun
   have hD':∀k,k∈D→(listed.setIfInBounds j true).getD k true=false∧∃ok,ops[k]? =some ok∧∃e∈ok.after,Region.binds md e=true∧(e.on=i∨e.on∈D):=fun k hk=>by
    refine⟨?_,(hD k hk).2⟩
    rw[getD_set_ne true (show j≠k from fun e=>hjD (by rw[e];exact hk))];exact(hD k hk).1
   unfold kH
   simp only[hoj]
   have hcnt':∀l:List Nat,l.Nodup→(∀k,k∈l→(listed.setIfInBounds j true).getD k true=false)→l.length≤fuel+1:=by
    intro l hn hl
    have hjs:j<listed.size:=by
     rcases Nat.lt_or_ge j listed.size with h|h
     ·exact h
     ·rw[Array.getD_eq_getD_getElem?,Array.getElem?_eq_none h]at hjun;cases hjun
    have hjl:j∉l:=fun hj=>by
     have:=hl j hj
     rw[Array.getD_eq_getD_getElem?,Array.getElem?_setIfInBounds]at this
     simp[hjs]at this
    have:=hcnt (j::l) (List.nodup_cons.2 ⟨hjl,hn⟩) fun k hk=>by
     rcases List.mem_cons.1 hk with rfl|hk
     ·exact hjun
     ·have:=hl k hk
      rw[getD_set_ne true (show j≠k from fun e=>hjl (e▸hk))]at this
      exact this
    simp at this;omega
   refine kW (fun fr S h=>PC.mono (fun fr S h=>ih (listed.setIfInBounds j true) fr S hD' hfree' hcnt' (ready_mono hr (Ne.symm hji)) ?_) h) h2
   rw[Array.setIfInBounds_comm _ _ hji]
   exact h
def YH(md:Region.Mode)(ops:Array Oper)(listed:Array Bool)(i:Nat):List Nat:=(List.range ops.size).foldl (fun D j=>match ops[j]? with
 |some oj=>if !(j==i)&&!listed.getD j true&&oj.after.any (fun e=>Region.binds md e&&(e.on==i||D.contains e.on))then j::D else D
 |none=>D) []
def A6(gs ns:List Nat)(md:Region.Mode)(ops:Array Oper)(listed:Array Bool)(i:Nat)(D:List Nat):Bool:=(D.all fun j=>!listed.getD j true&&match ops[j]? with
 |some oj=>oj.after.any (fun e=>Region.binds md e&&(e.on==i||D.contains e.on))
 |none=>false)&&(List.range ops.size).all fun j=>match ops[i]?,ops[j]? with
 |some oi,some oj=>j==i||listed.getD j true||D.contains j||(oi.apart ops oj&&mn (cls gs ns i oi.op) (cls gs ns j oj.op))
 |_,_=>false
def WR(gs ns:List Nat)(md:Region.Mode)(ops:Array Oper)(listed:Array Bool)(i:Nat):Bool:=A6 gs ns md ops listed i (YH md ops listed i)
def Ho(gs ns:List Nat)(md:Region.Mode)(ops:Array Oper):List Nat→Array Bool→Bool
 |[],listed=>(Region.ready md ops listed).isEmpty
 |k::ks,listed=>(Region.ready md ops listed).contains k&&WR gs ns md ops listed k&&Ho gs ns md ops ks (listed.setIfInBounds k true)
theorem GV{gs ns D:List Nat}{listed:Array Bool}{i:Nat}(h:A6 gs ns md ops listed i D=true):∀j,j∈D→listed.getD j true=false∧∃oj,ops[j]? =some oj∧∃e∈oj.after,Region.binds md e=true∧(e.on=i∨e.on∈D):=by
 intro j hj
 simp only[A6,Bool.and_eq_true]at h
 have:=List.all_eq_true.1 h.1 j hj
 simp only[Bool.and_eq_true,Bool.not_eq_true']at this
 refine⟨this.1,?_⟩
 obtain⟨-,h2⟩:=this
 split at h2
 ·rename_i oj ho
  obtain⟨e,he,h3⟩:=Array.any_eq_true'.1 h2
  simp only[Bool.and_eq_true,Bool.or_eq_true,beq_iff_eq,List.contains_iff_mem]at h3
  exact⟨oj,ho,e,he,h3⟩
 ·cases h2
theorem Dg{gs ns D:List Nat}{listed:Array Bool}{i:Nat}{oi:Oper}(hi:ops[i]? =some oi)(h:A6 gs ns md ops listed i D=true):∀j oj,ops[j]? =some oj→j≠i→listed.getD j true=false→j∉D→oi.apart ops oj=true∧mn (cls gs ns i oi.op) (cls gs ns j oj.op)=true:=by
 intro j oj hj hji hun hno
 simp only[A6,Bool.and_eq_true]at h
 have hlt:j<ops.size:=(Array.getElem?_eq_some_iff.1 hj).1
 have:=List.all_eq_true.1 h.2 j (List.mem_range.2 hlt)
 simp only[hi,hj,hun,Bool.or_false,Bool.or_eq_true,beq_iff_eq,Bool.and_eq_true,List.contains_iff_mem]at this
 rcases this with(h|h)|h
 ·exact absurd h hji
 ·exact absurd h hno
 ·exact h
def LO(P:Program)(w0:W0)(S0:St)(gs ns:List Nat)(ops:Array Oper)(K:List DV→St→Prop):List Nat→List DV→St→Prop
 |[],fr,S=>K fr S
 |i::is,fr,S=>match ops[i]? with
  |none=>False
  |some o=>iO P w0 S0 (cls gs ns i o.op) ops o fr S (LO P w0 S0 gs ns ops K is)
theorem EZ{gs ns:List Nat}{K:List DV→St→Prop}:∀(l:List Nat) (listed:Array Bool) (fr:List DV) (S:St),
 (∀l':List Nat,l'.Nodup→(∀k,k∈l'→listed.getD k true=false)→l'.length≤l.length)→
 Ho gs ns md ops l listed=true→LO P w0 S0 gs ns ops K l fr S→UI P w0 S0 gs ns md ops K l.length listed fr S
 |[],_,_,_,_,hB,h=>⟨by simpa[Ho]using hB,h⟩
 |k::l,listed,fr,S,hcnt,hB,h=>by
  simp only[List.length_cons,Ho,Bool.and_eq_true]at hB
  obtain⟨⟨hr,hf⟩,hB'⟩:=hB
  have hr':k∈Region.ready md ops listed:=by simpa using hr
  have hun:=(mem_ready.1 hr').1
  unfold LO at h
  split at h
  ·exact h.elim
  rename_i o h0
  refine Ip h0 l.length listed fr S (GV hf) (Dg h0 hf) (by simpa using hcnt) hr' ?_
  refine kW (fun fr S h=>⟨S,.refl S,EZ l _ fr S ?_ hB' h⟩) h
  intro l' hn hl'
  have hks:k<listed.size:=by
   rcases Nat.lt_or_ge k listed.size with h|h
   ·exact h
   ·rw[Array.getD_eq_getD_getElem?,Array.getElem?_eq_none h]at hun;cases hun
  have hkl:k∉l':=fun hk=>by
   have:=hl' k hk
   rw[Array.getD_eq_getD_getElem?,Array.getElem?_setIfInBounds]at this
   simp[hks]at this
  have:=hcnt (k::l') (List.nodup_cons.2 ⟨hkl,hn⟩) fun m hm=>by
   rcases List.mem_cons.1 hm with rfl|hm
   ·exact hun
   ·have:=hl' m hm
    rw[getD_set_ne true (show k≠m from fun e=>hkl (e▸hm))]at this
    exact this
  simp at this;omega
theorem xz{c:Nat}{o:Oper}{fr:List DV}{S:St}{K:List DV→St→Prop}(h:mP P w0 S0 c o fr S K):aj P w0 o (ev fr) S fun d S'=>K (pt fr o.dst d) S':=by
 rcases h with⟨c,d,q,k⟩|⟨c,hS,d,q,k⟩|⟨c,q⟩|⟨c,q⟩|⟨c,hS,t,ht,hz,k⟩
 ·exact aQ (fun d' S' h=>by rw[h.1,h.2];exact k) (q S)
 ·exact aQ (fun d' S' h=>by rw[h.1,h.2];exact k) (q S hS)
 ·exact aQ (fun d' S' h=>h.2) q
 ·exact q
 ·exact sw ht ⟨hz,k⟩
theorem lQ{gs ns:List Nat}{ro:Option Nat}{g0:Gh}{Q:Exit→List DV→St→Prop}:∀(fuel:Nat) (listed:Array Bool) (fr:List DV) (S:St) (g:Gh) (a:Act) (w:World),g0.le g→Rel w0 g S w→ai g fr a.tmps.toList→Dk w0 g.obj a w→
 UI P w0 S0 gs ns md ops (fun fr S=>Q .normal fr S) fuel listed fr S→wpAnyIn (fz ro) 0 P md ops (Good w0 g0 Q) fuel listed a w
 |0,listed,fr,S,g,a,w,k,h1,h2,h3,h=>⟨h.1,k.kd h3,g,fr,S,k,h1,h2,h.2⟩
 |fuel+1,listed,fr,S,g,a,w,k,h1,h2,h3,h=>by
  refine⟨fun h0=>⟨k.kd h3,g,fr,S,k,h1,h2,h.1 h0⟩,fun i hi=>?_⟩
  have hq:=h.2 i hi
  unfold kH at hq
  unfold wpOpIn
  split
  ·rename_i ho;simp only[ho]at hq;obtain⟨T,hp,hq⟩:=hq;exact lQ fuel _ fr T g a w k (hp.symm.rel h1) h2 h3 hq
  ·rename_i o ho
   simp only[ho]at hq
   rcases hq with⟨hw,hb⟩|⟨hw,hk⟩
   ·have hw':=eu (o:=o) h2 hw
    rw[if_pos hw']
    refine ef (xz hb) h1 (fun x _=>mi h2 x) h3 fun g' d' u S' w' k1 k2 k3 k4 k5=>?_
    obtain⟨T,hp,k4⟩:=k4
    exact lQ fuel _ _ _ g' _ _ (k.trans k1) (hp.symm.rel k2) (dq (h2.mono k1) _ k3) (k1.dk k5) k4
   ·have hw':=eu (o:=o) h2 hw
    rw[if_neg (by simp[hw'])]
    obtain⟨T,hp,hk⟩:=hk;exact⟨fun _ _=>trivial,lQ fuel _ _ _ g _ _ k (hp.symm.rel h1) (dq h2 _ (jq g)) (h3.keep (put_defers _ _ _) fun _ _ h _=>h) hk⟩
theorem qM{id:Nat}{l:List Oper}{gs ns ord:List Nat}{fr:List DV}{S:St}{Q:Exit→List DV→St→Prop}(hm:P.follows .mixedOrders=true)(hB:Ho gs ns .any l.toArray ord (Array.replicate l.length false)=true)(hO:ord.length=l.length)(h:LO P w0 S0 gs ns l.toArray (fun fr S=>Q .normal fr S) ord fr S):gk P w0 (.region id l.toArray true) fr S Q:=by
 intro g a w h1 h2 h3
 refine gv hm fun ro=>?_
 have hR:Rel w0 g S {w with drawn:=w.drawn+1}:=h1.grow (lC w)
 have hcnt:∀l':List Nat,l'.Nodup→(∀k,k∈l'→(Array.replicate l.length false).getD k true=false)→l'.length≤ord.length:=by
  intro l' hn hl
  have hsub:∀k,k∈l'→k∈List.range l.length:=fun k hk=>by
   have:=hl k hk
   rw[List.mem_range]
   rcases Nat.lt_or_ge k l.length with h|h
   ·exact h
   ·rw[Array.getD_eq_getD_getElem?,Array.getElem?_eq_none (by simpa using h)]at this;cases this
  have:=hn.length_le_of_subset (l₂:=List.range l.length) hsub
  rw[hO];simpa using this
 have:=EZ (P:=P) (w0:=w0) (S0:=S0) (md:= .any) (ops:=l.toArray) ord (Array.replicate l.length false) fr S hcnt hB h
 have:=lQ (ro:=ro) (g0:=g) (Q:=Q) _ _ fr S g a _ (.refl g) hR h2 (h3.keep rfl fun _ _ h _=>h) this
 rw[hO]at this
 simpa using this
theorem Cb{m:Option (KK×DV)}{S T:St}{x y:DV}{ok:Bool}{K:DV→Prop}(hT:Has S T)(h:dv m S x y ok K):dv m T x y ok K:=by
 unfold dv at*
 cases m with
 |none=>exact h.elim
 |some p=>
  obtain⟨h1,h2⟩:=h
  refine⟨h1,?_⟩
  cases hk:qh y with
  |none=>rw[hk]at h2;exact h2.elim
  |some k=>
   rw[hk]at h2
   obtain⟨h3,h4⟩:=h2
   refine⟨h3,?_⟩
   cases x with
   |mp l=>
    simp only at h4 ⊢
    cases hl:lk S.acc l with
    |none=>rw[hl]at h4;exact h4.elim
    |some o=>rw[hT.acc _ _ hl];rw[hl]at h4;exact h4
   |v u=>
    cases u with
    |map o=>cases o <;>exact h4
    |_=>exact h4
   |_=>exact h4
theorem LY{k:TK}{S T:St}{x:DV}{K:DV→Prop}(hT:Has S T)(h:bG k S x K):bG k T x K:=by
 unfold bG at*
 split at h
 ·split at h
  ·rename_i ds hb
   simp only[hT.box _ _ hb]
   exact h
  ·exact h.elim
 ·exact h
 ·split at h
  ·rename_i hb
   simp only[hT.acc _ _ hb]
   exact h
  ·rename_i hb
   simp only[hT.acc _ _ hb]
   exact h
  ·exact h.elim
 ·exact h.elim
end
def QO(P:Program)(w0:W0)(S0:St)(f:FuncId)(ds:List DV)[K:Cn (DV→Prop)]:Prop:=∃d,(∀T,Has S0 T→aa P w0 f ds T fun d' S'=>d'=d∧S'=T)∧K.k d
def qF(P:Program)(w0:W0)(S0:St)(cal:DV)(ds:List DV)(K:DV→Prop):Prop:=match cal with
 | .v (.func (.func f) a cap)=>a.size=0∧okF P f=true∧cap.toList.all (fun u=>u.oneCell')=true∧ds.all gz=true∧@QO P w0 S0 f (ds++cap.toList.map .v) ⟨K⟩
 |_=>False
def vf(P:Program)(w0:W0)(S0:St)(op:Op)(fr:List DV)(S:St)(K:DV→St→Prop):Prop:=match op with
 | .load t x=>Has S0 S∧bG (tk P t) S0 (ev fr x) (K · S)
 | .call ⟨.value cal,args,_⟩=>Has S0 S∧qF P w0 S0 (ev fr cal) (args.toList.map (ev fr)) (K · S)
 | .alloc t=>Has S0 S∧eL (zD P t)=true∧E7 S (zD P t) K
 | .lookup t x y ok=>Has S0 S∧dv (sB P t) S0 (ev fr x) (ev fr y) ok (K · S)
 |op=>eI (Z.kX op==0) (BG P w0 op fr S (K · S)) (aI P w0 op fr S K)
def U3(P:Program)(w0:W0)(S0:St)(gs ns:List Nat)(i:Nat)(op:Op)(fr:List DV)(S:St)(K:DV→St→Prop):Prop:=
 eI (gs.contains i) (aI P w0 op fr S fun d S'=>Has S0 S'∧K d S') (eI (ns.contains i) (aI P w0 op fr S K) (vf P w0 S0 op fr S K))
def vE(P:Program)(w0:W0)(S0:St)(gs ns:List Nat)(ops:Array Oper)(K:List DV→St→Prop)(oo:Option Oper)(i:Nat)(fr:List DV)(S:St):Prop:=match oo with
 |none=>False
 |some o=>bV ops fr o.guard (fun fr=>U3 P w0 S0 gs ns i o.op fr S fun d S'=>K (pt fr o.dst d) S') (fun fr=>K (pt fr o.dst ud) S)
def xU(P:Program)(w0:W0)(S0:St)(gs ns:List Nat)(ops:Array Oper)(K:List DV→St→Prop):List Nat→List DV→St→Prop
 |[],fr,S=>K fr S
 |i::is,fr,S=>vE P w0 S0 gs ns ops (xU P w0 S0 gs ns ops K is) ops[i]? i fr S
section
variable {P:Program} {w0:W0} {S0:St} {ops:Array Oper} {md:Region.Mode}
theorem MW{S0:St}{o:Oper}{fr:List DV}{d:DV}(q:∀T,Has S0 T→QY P w0 T o fr d)(T:St)(hT:Hm S0 T):QY P w0 T o fr d:=fun g w ρ r=>q T (hT.has r) g w ρ r
theorem Hd{gs ns:List Nat}{i:Nat}{o:Oper}{fr:List DV}{S:St}{K:List DV→St→Prop}(hs:gR o.op=true)(h:U3 P w0 S0 gs ns i o.op fr S fun d S'=>K (pt fr o.dst d) S'):mP P w0 S0 (cls gs ns i o.op) o fr S K:=by
 unfold U3 at h
 cases hg:gs.contains i with
 |true=>
  rw[hg]at h
  have hc:cls gs ns i o.op=2:=by unfold cls;rw[if_pos hg]
  rw[hc]
  have h':aI P w0 o.op fr S fun d S'=>Has S0 S'∧K (pt fr o.dst d) S':=h
  exact .inr (.inr (.inl ⟨rfl,aQ (fun d S' hk=>⟨.of hk.1,hk.2⟩) (bC hs h')⟩))
 |false=>
  rw[hg]at h
  cases hn:ns.contains i with
  |true=>
   rw[hn]at h
   have hc:cls gs ns i o.op=3:=by unfold cls;rw[if_neg (by rw[hg];simp),if_pos hn]
   rw[hc]
   exact .inr (.inr (.inr (.inl ⟨rfl,bC hs h⟩)))
  |false=>
   rw[hn]at h
   have hc:cls gs ns i o.op=(match kY o.op with|0=>0|1=>1|2=>4|_=>3):=by unfold cls;rw[if_neg (by rw[hg];simp),if_neg (by rw[hn];simp)]
   rw[hc]
   replace h:vf P w0 S0 o.op fr S fun d S'=>K (pt fr o.dst d) S':=h
   have gen:∀(h:eI (Z.kX o.op==0) (BG P w0 o.op fr S fun d=>K (pt fr o.dst d) S) (aI P w0 o.op fr S fun d S'=>K (pt fr o.dst d) S')),Z.kX o.op=0∨Z.kX o.op=3→kY o.op=Z.kX o.op→mP P w0 S0 (match kY o.op with|0=>0|1=>1|2=>4|_=>3) o fr S K:=by
    intro h hk hkk
    rw[hkk]
    rcases hk with hk|hk
    ·rw[hk]at h ⊢
     obtain⟨d,q1,q2⟩:=Z.vX hk (show BG P w0 o.op fr S fun d=>K (pt fr o.dst d) S from h)
     exact .inl ⟨rfl,d,fun S'=>by
      obtain⟨d',k1,k2⟩:=vT hs (q1 S')
      subst k2;exact k1,q2⟩
    ·rw[hk]at h ⊢
     exact .inr (.inr (.inr (.inl ⟨rfl,bC hs h⟩)))
   cases hop:o.op with
   |load t x=>
    rw[hop]at h hs
    obtain⟨hS,h⟩:=h
    obtain⟨d,q1,q2⟩:=pQ (show bG (tk P t) S0 (ev fr x) (fun d=>K (pt fr o.dst d) S)from h)
    refine .inr (.inl ⟨rfl,.of hS,d,MW fun T hT=>?_,q2⟩)
    exact bC (by rw[hop];exact hs) (by rw[hop];simpa[aI]using LY hT q1)
   |alloc t=>
    rw[hop]at h
    exact .inr (.inr (.inr (.inr ⟨rfl,.of h.1,t,hop,h.2.1,h.2.2⟩)))
   |call c=>
    obtain⟨callee,args,ts⟩:=c
    cases callee with
    |value cal=>
     rw[hop]at h hs
     obtain⟨hS,h⟩:=h
     simp only[qF]at h
     split at h
     ·rename_i f a cap hcal
      obtain⟨h1,h2,h3,h4,d,h5,h6⟩:=h
      refine .inr (.inl ⟨rfl,.of hS,d,MW fun T hT=>?_,h6⟩)
      exact bC (by rw[hop];exact hs) (by rw[hop];simp only[aI,hcal];exact pC h1 h3 (by rw[h2,Lf];exact mK h4 (h5 T hT)))
     ·exact h.elim
    |builtin b=>
     rw[←hop]
     refine gen (by rw[hop]at h ⊢;exact h) ?_ (by rw[hop];rfl)
     rw[hop]
     cases b <;>first|exact .inl rfl|exact .inr rfl
    |invoke r m=>
     rw[←hop]
     refine gen (by rw[hop]at h ⊢;exact h) ?_ (by rw[hop];rfl)
     rw[hop];exact .inr rfl
   |lookup t x y ok=>
    rw[hop]at h hs
    obtain⟨hS,h⟩:=h
    obtain⟨d,q1,q2⟩:=uk (show dv (sB P t) S0 (ev fr x) (ev fr y) ok (fun d=>K (pt fr o.dst d) S)from h)
    refine .inr (.inl ⟨rfl,.of hS,d,MW fun T hT=>?_,q2⟩)
    exact bC (by rw[hop];exact hs) (by rw[hop];simpa[aI]using Cb hT q1)
   |_=>rw[←hop];refine gen (by rw[hop]at h ⊢;exact h) ?_ (by rw[hop];rfl);rw[hop];first|exact .inl rfl|exact .inr rfl
theorem jm{gs ns:List Nat}{K:List DV→St→Prop}(hs:∀(i:Nat) (o:Oper),ops[i]? =some o→gR o.op=true):∀(l:List Nat) {fr:List DV} {S:St},xU P w0 S0 gs ns ops K l fr S→LO P w0 S0 gs ns ops K l fr S
 |[],fr,S,h=>h
 |i::is,fr,S,h=>by
  unfold xU vE at h
  unfold LO
  cases ho:ops[i]? with
  |none=>rw[ho]at h;exact h
  |some o=>
   rw[ho]at h
   simp only at h ⊢
   rcases j2 h with⟨hw,ha⟩|⟨hw,hb⟩
   ·exact .inl ⟨hw,s7 (fun fr S h=>jm hs is h) (Hd (hs i o ho) ha)⟩
   ·exact .inr ⟨hw,jm hs is hb⟩
def UA(l:List Oper)(gs ns ord:List Nat):Bool:=l.all (fun o=>gR o.op)&&Ho gs ns .any l.toArray ord (Array.replicate l.length false)&&(ord.length==l.length)
theorem l8(gs ns ord:List Nat){id:Nat}{l:List Oper}{fr:List DV}{S:St}{Q:Exit→List DV→St→Prop}(hm:P.follows .mixedOrders=true)(hB:UA l gs ns ord=true)(h:xU P w0 S gs ns l.toArray (fun fr S=>jA fr fun fr=>Q .normal fr S) ord fr S):gk P w0 (.region id l.toArray true) fr S Q:=by
 simp only[UA,Bool.and_eq_true,beq_iff_eq]at hB
 refine qM hm hB.1.2 hB.2 (jm (fun i o ho=>?_) ord h)
 have:l[i]? =some o:=by simpa using ho
 exact List.all_eq_true.1 hB.1.1 o (List.mem_of_getElem? this)
def Iu:List Nat→Nat→Prop
 |[],_=>False
 |a::L,b=>a=b∨Iu L b
noncomputable def Nc(L:List Nat)(S:St):St:=⟨S.box.filter fun p=>@decide (¬Iu L p.1) (Classical.propDecidable _),S.acc⟩
theorem uW{L:List Nat}{S:St}{b:Nat}(h:¬Iu L b):lk (Nc L S).box b=lk S.box b:=by
 obtain⟨B,A⟩:=S
 show lk (B.filter _) b=lk B b
 induction B with
 |nil=>rfl
 |cons p B ih=>
  obtain⟨k,x⟩:=p
  rw[List.filter_cons]
  split
  ·simp only[lk,ih]
  ·rename_i hn
   have hk:¬k=b:=fun e=>hn (by subst e;exact @decide_eq_true _ (Classical.propDecidable _) h)
   rw[ih];simp only[lk,if_neg hk]
theorem nr{L:List Nat}{S:St}{b:Nat}(h:Iu L b):lk (Nc L S).box b=none:=by
 obtain⟨B,A⟩:=S
 show lk (B.filter _) b=none
 induction B with
 |nil=>rfl
 |cons p B ih=>
  obtain⟨k,x⟩:=p
  rw[List.filter_cons]
  split
  ·rename_i hn
   have hk:¬k=b:=fun e=>by
    subst e
    exact(@of_decide_eq_true _ (Classical.propDecidable _) hn) h
   simp only[lk,if_neg hk];exact ih
  ·exact ih
theorem Pd(L:List Nat)(S:St):Has (Nc L S) S:=⟨fun b x hb=>by
 by_cases h:Iu L b
 ·rw[nr h]at hb;cases hb
 ·rwa [uW h]at hb,fun l o hl=>hl⟩
theorem Tz(L gs ns ord:List Nat){id:Nat}{l:List Oper}{fr:List DV}{S:St}{Q:Exit→List DV→St→Prop}(hm:P.follows .mixedOrders=true)(hB:UA l gs ns ord=true)(h:xU P w0 (Nc L S) gs ns l.toArray (fun fr S=>jA fr fun fr=>Q .normal fr S) ord fr S):gk P w0 (.region id l.toArray true) fr S Q:=by
 simp only[UA,Bool.and_eq_true,beq_iff_eq]at hB
 refine qM hm hB.1.2 hB.2 (jm (fun i o ho=>?_) ord h)
 have:l[i]? =some o:=by simpa using ho
 exact List.all_eq_true.1 hB.1.1 o (List.mem_of_getElem? this)
theorem tc{f:FuncId}{args args':List DV}{K:DV→Prop}{r:DV}(h:∀T,Has S0 T→aa P w0 f args' T (fun d S'=>d=r∧S'=T))(hk:K r)(ha:gC args args':=by exact gC.refl _):@QO P w0 S0 f args ⟨K⟩:=
 ⟨r,fun T hT=>kN (h T hT) ha ⟨rfl,rfl⟩,hk⟩
end
section
variable {P:Program} {w0:W0} {S0:St} {gs ns:List Nat} {ops:Array Oper} {fr:List DV} {S:St} {dst:Option Tmp} {op:Op} {ty:TypeId} {pos:String} {aft:Array Edge}
section
variable {K:List DV→St→Prop}
theorem Vn:xU P w0 S0 gs ns ops K [] fr S=K fr S:=rfl
theorem Ur(i:Nat)(is:List Nat):xU P w0 S0 gs ns ops K (i::is) fr S=vE P w0 S0 gs ns ops (xU P w0 S0 gs ns ops K is) ops[i]? i fr S:=rfl
@[congr] theorem Xh {oo oo':Option Oper} {i:Nat} (h:oo=oo'):vE P w0 S0 gs ns ops K oo i fr S=vE P w0 S0 gs ns ops K oo' i fr S:=by cases h;rfl
theorem Tw(i:Nat):vE P w0 S0 gs ns ops K (some ⟨dst,op,ty,pos,aft,none⟩) i fr S=U3 P w0 S0 gs ns i op fr S fun d S'=>K (pt fr dst d) S':=rfl
end
variable {K:DV→St→Prop}
theorem YS(i:Nat):U3 P w0 S0 gs ns i op fr S K=eI (gs.contains i) (aI P w0 op fr S fun d S'=>Has S0 S'∧K d S') (eI (ns.contains i) (aI P w0 op fr S K) (vf P w0 S0 op fr S K)):=rfl
theorem SV(t:TypeId)(x:Operand):vf P w0 S0 (.load t x) fr S K=(Has S0 S∧bG (tk P t) S0 (ev fr x) (K · S)):=rfl
theorem N7(t:TypeId):vf P w0 S0 (.alloc t) fr S K=(Has S0 S∧eL (zD P t)=true∧E7 S (zD P t) K):=rfl
theorem Sf(cal:Operand)(a:List Operand)(ts:Array TypeId):vf P w0 S0 (.call ⟨.value cal,a.toArray,ts⟩) fr S K=(Has S0 S∧qF P w0 S0 (ev fr cal) (a.map (ev fr)) (K · S)):=rfl
theorem OU(f:FuncId)(a cap:Array Value)(ds:List DV)(K:DV→Prop):qF P w0 S0 (.v (.func (.func f) a cap)) ds K=(a.size=0∧okF P f=true∧cap.toList.all (fun u=>u.oneCell')=true∧ds.all gz=true∧@QO P w0 S0 f (ds++cap.toList.map .v) ⟨K⟩):=rfl
@[congr] theorem WT {cal cal':DV} {ds ds':List DV} {K:DV→Prop} (h1:cal=cal') (h2:ds=ds'):qF P w0 S0 cal ds K=qF P w0 S0 cal' ds' K:=by cases h1;cases h2;rfl
theorem Tj(x:Operand):vf P w0 S0 (.move x) fr S K=aH P w0 (.move x) fr S (K · S):=rfl
theorem JG(x:Operand):vf P w0 S0 (.assign x) fr S K=aH P w0 (.assign x) fr S (K · S):=rfl
theorem zY(t:TypeId)(x:Operand)(f:Nat):vf P w0 S0 (.fieldAddr t x f) fr S K=aH P w0 (.fieldAddr t x f) fr S (K · S):=rfl
theorem By(t:TypeId)(x i:Operand):vf P w0 S0 (.indexAddr t x i) fr S K=aH P w0 (.indexAddr t x i) fr S (K · S):=rfl
theorem Ha(x:Operand)(i:Nat):vf P w0 S0 (.extract x i) fr S K=aH P w0 (.extract x i) fr S (K · S):=rfl
theorem Cf(x:Operand):vf P w0 S0 (.nilCheck x) fr S K=aH P w0 (.nilCheck x) fr S (K · S):=rfl
theorem Pq(b:BinOp)(t:TypeId)(x y:Operand)(t':TypeId):vf P w0 S0 (.binOp b t x y t') fr S K=aH P w0 (.binOp b t x y t') fr S (K · S):=rfl
theorem Cg(fn:Fn)(a b:Array Operand):vf P w0 S0 (.makeFunc fn a b) fr S K=aH P w0 (.makeFunc fn a b) fr S (K · S):=rfl
theorem Qq(t:TypeId)(x:Operand)(lo hi mx:Option Operand):vf P w0 S0 (.slice t x lo hi mx) fr S K=aH P w0 (.slice t x lo hi mx) fr S (K · S):=rfl
theorem Nx(t:TypeId)(parts:Array (Nat×Operand)):vf P w0 S0 (.build t parts) fr S K=aH P w0 (.build t parts) fr S (K · S):=rfl
theorem wW(t:TypeId)(len:Nat)(parts:Array (Nat×Operand)):vf P w0 S0 (.buildSlice t len parts) fr S K=aH P w0 (.buildSlice t len parts) fr S (K · S):=rfl
theorem NZ(t:TypeId)(x y:Operand):vf P w0 S0 (.store t x y) fr S K=aI P w0 (.store t x y) fr S K:=rfl
theorem Pm(a:Array Operand)(ts:Array TypeId):vf P w0 S0 (.call ⟨.builtin .len,a,ts⟩) fr S K=aH P w0 (.call ⟨.builtin .len,a,ts⟩) fr S (K · S):=rfl
theorem Qv(a:Array Operand)(ts:Array TypeId):vf P w0 S0 (.call ⟨.builtin .max,a,ts⟩) fr S K=aH P w0 (.call ⟨.builtin .max,a,ts⟩) fr S (K · S):=rfl
theorem Kf(S:St):Has S S=True:=eq_true (.refl S)
theorem O2{S0:St}{B:List (Nat×List DV)}{A:List (Nat×Ob)}(b:Nat)(v:List DV)(hb:lk S0.box b=none)(h:Has S0 ⟨B,A⟩):Has S0 ⟨(b,v)::B,A⟩=True:=eq_true ⟨fun c x hc=>by
 have h1:=h.box c x hc
 show lk ((b,v)::B) c=some x
 rw[px (fun e=>by rw[←e,hb]at hc;cases hc)];exact h1,h.acc⟩
theorem Qp{S0:St}{B:List (Nat×List DV)}{A:List (Nat×Ob)}(l:Nat)(v:Ob)(hb:lk S0.acc l=none)(h:Has S0 ⟨B,A⟩):Has S0 ⟨B,(l,v)::A⟩=True:=eq_true ⟨h.box,fun c x hc=>by
 have h1:=h.acc c x hc
 show lk ((l,v)::A) c=some x
 rw[px (fun e=>by rw[←e,hb]at hc;cases hc)];exact h1⟩
theorem Od(b:Nat):Iu [] b=False:=rfl
theorem Mk(a:Nat)(L:List Nat)(b:Nat):Iu (a::L) b=(a=b∨Iu L b):=rfl
theorem JO(L:List Nat)(S:St):Has (Nc L S) S=True:=eq_true (Pd L S)
theorem JZ{L:List Nat}{B B':List (Nat×List DV)}{A A':List (Nat×Ob)}(h:Has (Nc L ⟨B,A⟩) ⟨B',A'⟩){c:Nat}{x:List DV}(hc:¬Iu L c)(hx:lk B c=some x):lk B' c=some x:=
 h.box c x (by rw[uW hc];exact hx)
theorem IP{L:List Nat}{B B':List (Nat×List DV)}{A A':List (Nat×Ob)}(b:Nat)(v:List DV)(h:Has (Nc L ⟨B,A⟩) ⟨B',A'⟩):Has (Nc L ⟨(b,v)::B,A⟩) ⟨(b,v)::B',A'⟩=True:=eq_true ⟨fun c x hc=>by
 by_cases hL:Iu L c
 ·rw[nr hL]at hc;cases hc
 ·rw[uW hL]at hc
  show lk ((b,v)::B') c=some x
  simp only[lk]at hc ⊢
  split
  ·rename_i e;rw[if_pos e]at hc;exact hc
  ·rename_i e;rw[if_neg e]at hc;exact JZ h hL hc,h.acc⟩
theorem Gz{L:List Nat}{B B':List (Nat×List DV)}{A A':List (Nat×Ob)}(b:Nat)(v w:List DV)(hi:Iu L b)(h:Has (Nc L ⟨B,A⟩) ⟨B',A'⟩):Has (Nc L ⟨(b,v)::B,A⟩) ⟨(b,w)::B',A'⟩=True:=eq_true ⟨fun c x hc=>by
 by_cases hL:Iu L c
 ·rw[nr hL]at hc;cases hc
 ·rw[uW hL]at hc
  have hne:¬b=c:=fun e=>hL (e▸hi)
  show lk ((b,w)::B') c=some x
  simp only[lk,if_neg hne]at hc ⊢
  exact JZ h hL hc,h.acc⟩
def Xa{α:Type}(l' l:List (Nat×α)):Prop:=∃p,l=p++l'
theorem IS{α:Type}(l:List (Nat×α)):Xa l l=True:=eq_true ⟨[],rfl⟩
theorem LA{α:Type}(x:Nat×α)(l' l:List (Nat×α))(h:Xa l' l):Xa l' (x::l)=True:=eq_true (let⟨p,e⟩:=h;⟨x::p,by rw[e];rfl⟩)
theorem RY{α:Type}{l' l:List (Nat×α)}(b:FN l)(h:Xa l' l):lk l' b.n=none:=by
 obtain⟨p,e⟩:=h
 subst e
 refine mD (dn fun q hq=>j0 b.h q (List.mem_append_right _ hq))
end
attribute [go_sem ↓] Vn Ur YS SV N7 Sf OU Tj JG zY By Ha Cf Pq Cg Qq Nx wW NZ Pm Qv
attribute [go_sem] Tw Kf O2 Qp IS LA RY Od Mk JO IP Gz uW nr
end Aml.Y
namespace Aml
open Go Go.RowKit
def del(L:List (Nat×Ob))(n:Nat):List (Nat×Ob):=L.filter fun p=>p.1 !=n
theorem EB{L:List (Nat×Ob)}{n:Nat}{p:Nat×Ob}:p∈del L n↔p∈L∧p.1≠n:=by unfold del;simp
theorem tq{L:List (Nat×Ob)}{n:Nat}(h:∀p,p∈L→p.1≠n):del L n=L:=List.filter_eq_self.2 fun p hp=>by simpa using h p hp
theorem A9{n:Nat}{p:Nat×Ob}{o:Ob}:∀{L:List (Nat×Ob)},(L.map (·.1)).Nodup→lk L n=some o→(rB L n p).Perm (p::del L n)
 |[],_,h=>by cases h
 |(k,x)::t,hn,h=>by
  simp only[List.map_cons,List.nodup_cons]at hn
  simp only[lk]at h
  simp only[rB]
  split
  ·rename_i e
   subst e
   have h1:del ((k,x)::t) k=t:=by
    have h2:del t k=t:=tq fun q hq e=>hn.1 (by rw[←e];exact List.mem_map_of_mem hq)
    unfold del at*
    rw[List.filter_cons_of_neg (by simp)];exact h2
   rw[h1]
  ·rename_i e
   rw[if_neg e]at h
   have h1:del ((k,x)::t) n=(k,x)::del t n:=by unfold del;rw[List.filter_cons_of_pos (by simpa using e)]
   rw[h1]
   exact((A9 hn.2 h).cons _).trans (.swap _ _ _)
def sA(s:Nat)(xs:List DV):Prop:=∀d,d∈xs→eL d=true∧(cd d).length=s
def gL(s c:Nat)(xs:List DV):List DV:=xs.flatMap cd++List.replicate ((c-xs.length)*s) .any
theorem ic{s:Nat}:∀{xs:List DV},sA s xs→(xs.flatMap cd).length=xs.length*s
 |[],_=>by simp
 |d::xs,h=>by
  rw[List.flatMap_cons,List.length_append,ic fun x hx=>h x (List.mem_cons_of_mem _ hx),(h d List.mem_cons_self).2,List.length_cons,Nat.succ_mul];omega
theorem mr{s c:Nat}{xs:List DV}(h:sA s xs)(hc:xs.length≤c):(gL s c xs).length=c*s:=by
 unfold gL
 rw[List.length_append,ic h,List.length_replicate,←Nat.add_mul];congr 1;omega
section
variable {P:Program} {w0:W0}
theorem Rel.Vx{g:Gh}{S:St}{w:World}(h:Rel w0 g S w){l s:Nat}{xs:List DV}(hl:lk S.acc l=some (.arr s xs))(hn:xs≠[])(he:sA s xs):
 ∃b c,g.acc l xs.length=some (.slice (some ⟨b,0,none⟩) xs.length c)∧xs.length≤c∧c≤maxLen∧jD S.box b∧Rel w0 g ⟨(b,gL s c xs)::S.box,del S.acc l⟩ w:=by
 obtain⟨ow,h⟩:=h.open_
 have hmem:=cn hl
 obtain⟨hs,⟨he0,_⟩|⟨b,c,cs,e,h1,h2,h3,h4,h5,h6,h7,h8,hA,us,h9,h10,h11,h12⟩⟩:=h.acc l _ hmem
 ·exact absurd he0 hn
 have hbn:∀p,p∈S.box→p.1≠b:=by
  rintro⟨b',ds⟩ hp rfl
  have:=(h.box _ _ hp).1
  rw[h2]at this;cases this
 refine⟨b,c,h1,h7,h8,dn hbn,ir.close (ow:=fun k=>if k=b then some (.b b)else ow k) ⟨h.below,h.bM,?_,?_,h.gq,h.fresh,fun l' o' hl'=>h.top l' o' (EB.1 hl').1,?_,?_,?_⟩⟩
 ·simp only[List.map_cons,List.nodup_cons]
  exact⟨fun hm=>by obtain⟨p,hp,e⟩:=List.mem_map.1 hm;exact hbn p hp e,h.nb⟩
 ·exact List.Sublist.nodup ((List.filter_sublist).map _) h.na
 ·intro b' ds hb'
  rcases List.mem_cons.1 hb' with e'|hb'
  ·cases e'
   refine⟨if_pos rfl,h3,h4,cs,e,h5,?_,hA⟩
   have hfl:(fl us).length=xs.length*s:=by rw[gZ h10,h9.len]
   have hcs:cs.toList=fl us++cs.toList.drop (xs.length*s):=by
    apply List.ext_getElem?
    intro k
    rcases Nat.lt_or_ge k (xs.length*s)with hk|hk
    ·rw[List.getElem?_append_left (by omega)]
     obtain⟨v,hv⟩:∃v,(fl us)[k]? =some v:=⟨_,List.getElem?_eq_getElem (by omega)⟩
     obtain⟨i,u,j,q1,q2,rfl⟩:=Dp h10 hv
     rw[hv,Array.getElem?_toList]
     exact h12 i u j v q1 q2
    ·rw[List.getElem?_append_right (by omega),hfl,List.getElem?_drop]
     congr 1;omega
   rw[hcs]
   unfold gL
   refine(nA h9 fun d hd=>(he d hd).1).append ?_
   have:(cs.toList.drop (xs.length*s)).length=(c-xs.length)*s:=by rw[List.length_drop,Array.length_toList,h6,Nat.sub_mul]
   rw[←this]
   exact qL g _
  ·have hne:b'≠b:=hbn _ hb'
   exact(h.box b' ds hb').step (.refl g) fun ho=>⟨(if_neg hne).trans ho,rfl,fun _ hi=>hi⟩
 ·intro l' o' hl'
  obtain⟨hm,hne⟩:=EB.1 hl'
  refine(h.acc l' o' hm).step (.refl g) fun b' ho=>⟨?_,rfl,fun _ hi=>hi⟩
  have:b'≠b:=by
   rintro rfl
   rw[h2]at ho
   cases ho
   exact hne rfl
  rw[if_neg this];exact ho
 ·intro b' k hk
  split at hk
  ·rename_i e';subst e';exact da h5
  ·exact h.oS _ _ hk
theorem Er{g:Gh}{s:Nat}(hs:0<s):∀{ys:List DV} {us:List Value},ai g (ys.flatMap cd) us→(∀u,u∈us→u.oneCell'=true)→sA s ys→
 ∃vs,ai g ys vs∧(∀(i:Nat) (u:Value),vs[i]? =some u→u.cells.size=s)∧(∀(u:Value),u∈vs→∀x,x∈u.cells.toList→x.oneCell'=true)∧fl vs=us
 |[],us,h,_,_=>by
  have:us=[]:=List.eq_nil_of_length_eq_zero (by have:=h.len;simpa using this.symm)
  subst this
  exact⟨[],ai.nil g,by simp,by simp,rfl⟩
 |d::ys,us,h,h1,he=>by
  obtain⟨hok,hlen⟩:=he d List.mem_cons_self
  have hs1:ai g (cd d) (us.take s):=by
   have:=h.take s
   rwa [List.flatMap_cons,List.take_append_of_le_length (by omega),List.take_of_length_le (by omega)]at this
  have hs2:ai g (ys.flatMap cd) (us.drop s):=by
   have:=h.drop s
   rwa [List.flatMap_cons,List.drop_append_of_le_length (by omega),List.drop_eq_nil_of_le (by omega),List.nil_append]at this
  obtain⟨vs,q1,q2,q3,q4⟩:=Er hs hs2 (fun u hu=>h1 u (List.mem_of_mem_drop hu)) fun x hx=>he x (List.mem_cons_of_mem _ hx)
  obtain⟨v,r1,r2⟩:∃v,aK g d v∧v.cells.toList=us.take s:=by
   have hone:∀u,u∈us.take s→u.oneCell'=true:=fun u hu=>h1 u (List.mem_of_mem_take hu)
   generalize us.take s=ts at*
   cases d with
   |agg ds=>exact⟨.agg ts.toArray,.agg ds ts hs1.len hs1.at_ hone,by simp[Value.cells]⟩
   |any=>cases hok
   |bD ds=>cases hok
   |v u0=>
    obtain⟨u,us',rfl,a1,a2⟩:=hs1.bP
    have:us'=[]:=List.eq_nil_of_length_eq_zero (by have:=a2.len;simpa using this.symm)
    subst this
    exact⟨u,a1,by have:=hone u List.mem_cons_self;cases u <;>simp_all [Value.cells,Value.oneCell']⟩
   |sl a b c=>
    obtain⟨u,us',rfl,a1,a2⟩:=hs1.bP
    have:us'=[]:=List.eq_nil_of_length_eq_zero (by have:=a2.len;simpa using this.symm)
    subst this
    exact⟨u,a1,by have:=hone u List.mem_cons_self;cases u <;>simp_all [Value.cells,Value.oneCell']⟩
   |jM a b=>
    obtain⟨u,us',rfl,a1,a2⟩:=hs1.bP
    have:us'=[]:=List.eq_nil_of_length_eq_zero (by have:=a2.len;simpa using this.symm)
    subst this
    exact⟨u,a1,by have:=hone u List.mem_cons_self;cases u <;>simp_all [Value.cells,Value.oneCell']⟩
   |acc a b=>
    obtain⟨u,us',rfl,a1,a2⟩:=hs1.bP
    have:us'=[]:=List.eq_nil_of_length_eq_zero (by have:=a2.len;simpa using this.symm)
    subst this
    exact⟨u,a1,by have:=hone u List.mem_cons_self;cases u <;>simp_all [Value.cells,Value.oneCell']⟩
   |ip a=>
    obtain⟨u,us',rfl,a1,a2⟩:=hs1.bP
    have:us'=[]:=List.eq_nil_of_length_eq_zero (by have:=a2.len;simpa using this.symm)
    subst this
    exact⟨u,a1,by have:=hone u List.mem_cons_self;cases u <;>simp_all [Value.cells,Value.oneCell']⟩
   |ap a b c d e=>
    obtain⟨u,us',rfl,a1,a2⟩:=hs1.bP
    have:us'=[]:=List.eq_nil_of_length_eq_zero (by have:=a2.len;simpa using this.symm)
    subst this
    exact⟨u,a1,by have:=hone u List.mem_cons_self;cases u <;>simp_all [Value.cells,Value.oneCell']⟩
   |mp a=>
    obtain⟨u,us',rfl,a1,a2⟩:=hs1.bP
    have:us'=[]:=List.eq_nil_of_length_eq_zero (by have:=a2.len;simpa using this.symm)
    subst this
    exact⟨u,a1,by have:=hone u List.mem_cons_self;cases u <;>simp_all [Value.cells,Value.oneCell']⟩
   |it a=>
    obtain⟨u,us',rfl,a1,a2⟩:=hs1.bP
    have:us'=[]:=List.eq_nil_of_length_eq_zero (by have:=a2.len;simpa using this.symm)
    subst this
    exact⟨u,a1,by have:=hone u List.mem_cons_self;cases u <;>simp_all [Value.cells,Value.oneCell']⟩
  have hul:(us.take s).length=s:=by have:=hs1.len;omega
  refine⟨v::vs,q1.cons r1,?_,?_,?_⟩
  ·intro i u hu
   cases i with
   |zero=>simp at hu;subst hu;rw[←Array.length_toList,r2,hul]
   |succ i=>exact q2 i u (by simpa using hu)
  ·intro u hu x hx
   rcases List.mem_cons.1 hu with rfl|hu
   ·rw[r2]at hx;exact h1 x (List.mem_of_mem_take hx)
   ·exact q3 u hu x hx
  ·show v.cells.toList++fl vs=us
   rw[r2,q4,List.take_append_drop]
theorem Rel.TX{g:Gh}{S:St}{w:World}(h:Rel w0 g S w){b s c:Nat}{ds ys:List DV}(hb:lk S.box b=some ds)(hs:0<s)(he:sA s ys)(hds:ds.take (ys.length*s)=ys.flatMap cd)(hdl:ds.length=c*s)(hc:ys.length≤c)(hcm:c≤maxLen)(L:List (Nat×Ob)):
 ∃m g',g.le g'∧(∀p,p∈S.acc→p.1≠m)∧(∀p,p∈L→p.1≠m)∧Rel w0 g' ⟨S.box.filter (fun p=>p.1 !=b),(m,.arr s ys)::S.acc⟩ w∧aK g' (.acc m ys.length) (.slice (some ⟨b,0,none⟩) ys.length c):=by
 obtain⟨ow,h⟩:=h.open_
 have hmem:=cn hb
 obtain⟨o1,o2,o3,us,e,hh,hr,hone⟩:=h.box b ds hmem
 obtain⟨m0,hm0⟩:=h.fresh
 obtain⟨m,hm1,hm2,hm3⟩:∃m,m0≤m∧(∀p,p∈S.acc→p.1≠m)∧∀p,p∈L→p.1≠m:=by
  have:∀L:List (Nat×Ob),∃k,∀p,p∈L→p.1<k:=by
   intro L
   induction L with
   |nil=>exact⟨0,fun p h=>by cases h⟩
   |cons a l ih=>
    obtain⟨k,hk⟩:=ih
    refine⟨a.1+k+1,fun p hp=>?_⟩
    rcases List.mem_cons.1 hp with rfl|hp
    ·omega
    ·have:=hk p hp;omega
  obtain⟨k1,q1⟩:=this S.acc
  obtain⟨k2,q2⟩:=this L
  exact⟨m0+k1+k2,by omega,fun p hp e=>by have:=q1 p hp;omega,fun p hp e=>by have:=q2 p hp;omega⟩
 have hle:g.le (g.aT m ys.length (.slice (some ⟨b,0,none⟩) ys.length c)):=Gh.iY (.inl (hm0 _ _ hm1))
 have hself:(g.aT m ys.length (.slice (some ⟨b,0,none⟩) ys.length c)).acc m ys.length=some (.slice (some ⟨b,0,none⟩) ys.length c):=by simp[Gh.aT]
 have hbf:∀p,p∈S.box.filter (fun p=>p.1 !=b)→p∈S.box∧p.1≠b:=fun p hp=>by simpa using hp
 refine⟨m,_,hle,hm2,hm3,ir.close (ow:=fun k=>if k=b then some (.a m)else ow k) ⟨h.below.le hle,h.bM,?_,?_,?_,?_,?_,?_,?_,?_⟩,.acc _ _ _ _ hself⟩
 ·exact List.Sublist.nodup ((List.filter_sublist).map _) h.nb
 ·simp only[List.map_cons,List.nodup_cons]
  exact⟨fun hm=>by obtain⟨p,hp,e⟩:=List.mem_map.1 hm;exact hm2 p hp e,h.na⟩
 ·intro l' n' u hu
  simp only[Gh.aT]at hu
  split at hu
  ·rename_i e'
   obtain⟨rfl,rfl⟩:=e'
   exact⟨_,_,(Option.some.inj hu).symm,.inr ⟨b,0,rfl⟩⟩
  ·exact h.gq _ _ _ hu
 ·refine⟨m+1,fun l' n' hl'=>?_⟩
  simp only[Gh.aT]
  rw[if_neg (by omega)]
  exact hm0 _ _ (by omega)
 ·intro l' o' hl' k hk
  simp only[Gh.aT]
  rcases List.mem_cons.1 hl' with e'|hl'
  ·cases e'
   simp only[Ob.len]at hk
   rw[if_neg (by omega)]
   exact hm0 _ _ hm1
  ·rw[if_neg (fun e'=>hm2 _ hl' e'.1)]
   exact h.top _ _ hl' k hk
 ·intro b' ds' hb'
  obtain⟨h1,h2⟩:=hbf _ hb'
  exact(h.box b' ds' h1).step hle fun ho=>⟨(if_neg h2).trans ho,rfl,fun _ hi=>hi⟩
 ·intro l' o' hl'
  rcases List.mem_cons.1 hl' with e'|hl'
  ·cases e'
   have hR:ai g (ys.flatMap cd) (us.toList.take (ys.length*s)):=by rw[←hds];exact hr.take _
   obtain⟨vs,q1,q2,q3,q4⟩:=Er hs hR (fun u hu=>hone u (List.mem_of_mem_take hu)) he
   refine⟨hs,.inr ⟨b,c,us,e,hself,if_pos rfl,o2,o3,hh,?_,hc,hcm,hone,vs,q1.mono hle,q2,q3,fun i u j x a1 a2=>?_⟩⟩
   ·have:=hr.len;rw[hdl,Array.length_toList]at this;exact this.symm
   ·have hj:j<s:=by rw[←q2 i u a1];exact(Array.getElem?_eq_some_iff.1 a2).1
    have hi:i<ys.length:=by rw[q1.len];exact(List.getElem?_eq_some_iff.1 a1).1
    have:=Ft q2 a1 a2
    rw[q4,List.getElem?_take,if_pos (lt_mul hi hj)]at this
    rw[←Array.getElem?_toList];exact this
  ·refine(h.acc l' o' hl').step hle fun b' ho=>⟨?_,rfl,fun _ hi=>hi⟩
   have:b'≠b:=by rintro rfl;rw[o1]at ho;cases ho
   rw[if_neg this];exact ho
 ·intro b' k hk
  split at hk
  ·rename_i e';subst e';exact da hh
  ·exact h.oS _ _ hk
theorem lG{f:FuncId}{args:List DV}{S:St}{l s:Nat}{xs:List DV}{K:List DV→Prop}(hl:lk S.acc l=some (.arr s xs))(hn:xs≠[])(hs:0<s)(he:sA s xs)
 (h:∀b c,jD S.box b→xs.length≤c→c≤maxLen→aa P w0 f (.v (.slice (some ⟨b,0,none⟩) xs.length c)::args) ⟨(b,gL s c xs)::S.box,del S.acc l⟩ fun d S'=>∃b' c' ds ys B,K ys∧d= .v (.slice (some ⟨b',0,none⟩) ys.length c')∧lk S'.box b'=some ds∧S'.acc=del S.acc l∧
  S'.box=B∧S.box.Sublist (B.filter fun p=>p.1 !=b')∧sA s ys∧ds.take (ys.length*s)=ys.flatMap cd∧ds.length=c'*s∧ys.length≤c'∧c'≤maxLen):
 aa P w0 f (.acc l xs.length::args) S fun d S'=>∃ys,∃m:FN S.acc,K ys∧d= .acc m.n ys.length∧S'=⟨S.box,rB S.acc l (m.n,.arr s ys)⟩:=by
 intro g vs w h1 h2
 obtain⟨b,c,hv,hc1,hc2,hbn,hR⟩:=h1.Vx hl hn he
 have h2':ai g (.v (.slice (some ⟨b,0,none⟩) xs.length c)::args) vs.toList:=by
  obtain⟨u,us',e,r1,r2⟩:=h2.bP
  rw[e]
  refine ai.cons ?_ r2
  cases r1 with
  |acc _ _ o' c' ha=>
   rw[hv]at ha
   cases ha
   exact .v _ rfl
 refine(h b c hbn hc1 hc2 g vs w hR h2').mono ?_
 rintro e w' ⟨r,g',d,S',rfl,hle,hR',hd,b',c',ds,ys,B,hK,rfl,hb',hacc,rfl,hsub,he',hds,hdl,hc3,hc4⟩
 obtain⟨m,g2,hle2,hm1,hm2,hR2,hA⟩:=hR'.TX hb' hs he' hds hdl hc3 hc4 S.acc
 have hrv:=ay hd
 subst hrv
 refine⟨_,g2,_,⟨S.box,rB S.acc l (m,.arr s ys)⟩,rfl,hle.trans hle2,?_,hA,ys,⟨m,dn hm2⟩,hK,rfl,rfl⟩
 rw[hacc]at hR2
 have hR3:=hR2.forget (S':=⟨S.box,(m,.arr s ys)::del S.acc l⟩) hsub (List.Sublist.refl _)
 exact(⟨.refl _,(A9 h1.na hl).symm⟩:Y.yB ⟨S.box,(m,.arr s ys)::del S.acc l⟩ ⟨S.box,rB S.acc l (m,.arr s ys)⟩).rel hR3
end
end Aml
namespace Aml
open Go Go.RowKit
def xp(a b:ByteArray):Int:=if Op.bytesLess a.data.toList b.data.toList=true then -1 else if Op.bytesLess b.data.toList a.data.toList=true then 1 else 0
theorem AX:∀x y:List UInt8,Lib.compareBytes x y=if Op.bytesLess x y=true then -1 else if Op.bytesLess y x=true then 1 else 0
 |[],[]=>rfl
 |[],_::_=>rfl
 |_::_,[]=>rfl
 |x::a,y::b=>by
  unfold Lib.compareBytes Op.bytesLess
  by_cases h1:x<y
  ·simp[h1]
  ·by_cases h2:y<x
   ·have:(x==y)=false:=by
     rw[beq_eq_false_iff_ne];rintro rfl;exact h1 h2
    simp[h1,h2,this]
   ·have:x=y:=by
     have:=UInt8.le_antisymm (UInt8.not_lt.1 h2) (UInt8.not_lt.1 h1)
     exact this
    subst this
    simp[h1,AX a b]
section
variable {P:Program} {w0:W0}
theorem XP{f:FuncId}{fn:Func}(hf:P.funcs[f]? =some fn)(hname:(fn.name== "runtime.NumGoroutine")=false)(hb:fn.body.isNone=true)(hn:Extern.findNext fn=none)(he:Extern.find fn=some Extern.BytealgCompare.compare)
 (a b:ByteArray) (S:St) {K:DV→St→Prop} (hk:K (.v (.int .i64 (xp a b))) S):@XC P w0 f [.v (.string a),.v (.string b)] S ⟨K⟩:=by
 intro g w us h r
 obtain⟨u1,us1,rfl,r1,r⟩:=r.bP
 obtain⟨u2,us2,rfl,r2,r⟩:=r.bP
 have:us2=[]:=List.eq_nil_of_length_eq_zero r.len.symm
 subst this
 cases r1;cases r2
 refine⟨.int .i64 (xp a b),w,g,_,S,?_,.refl g,h,.v _ rfl,hk⟩
 rw[run_callFunc_extern hf hname hb hn he]
 have:=Lib.run_compareString (P:=P) a b w
 rw[AX]at this
 unfold xp
 rw[show [Value.string a,Value.string b].toArray= #[.string a,.string b]from rfl,this];rfl
theorem VJ{f:FuncId}{fn:Func}(hf:P.funcs[f]? =some fn)(hname:(fn.name== "runtime.NumGoroutine")=false)(hb:fn.body.isNone=true)(hn:Extern.findNext fn=none){t tb e:TypeId}(he:Extern.find fn=some (Extern.SlicesOverlaps.overlaps #[t,t] #[tb]))
 (ht:P.underlying t=some (.slice e)) {size:Nat} (hz:∀w,(Go.sizeOf e).run P w= .ok size w) {s:Nat} (hs:0<s) (fl:Bool) (xs:List DV) {b:Nat} {ds:List DV} {S:St} (hbx:lk S.box b=some ds) (o n c:Nat) {K:DV→St→Prop} (hk:K (.v (.bool false)) S):
 @XC P w0 f [.sl s fl xs,.v (.slice (some ⟨b,o,none⟩) n c)] S ⟨K⟩:=by
 intro g w us h r
 obtain⟨u1,us1,rfl,r1,r⟩:=r.bP
 obtain⟨u2,us2,rfl,r2,r⟩:=r.bP
 have:us2=[]:=List.eq_nil_of_length_eq_zero r.len.symm
 subst this
 cases r2
 refine⟨.bool false,w,g,_,S,?_,.refl g,h,.v _ rfl,hk⟩
 rw[run_callFunc_extern hf hname hb hn he]
 obtain⟨ow,ho⟩:=h.open_
 obtain⟨_,_,hnone,cs,te,hcs,_,_⟩:=ho.box b ds (cn hbx)
 suffices hrun:(Extern.SlicesOverlaps.overlaps #[t,t] #[tb] #[u1,.slice (some ⟨b,o,none⟩) n c]).run P w= .ok (.bool false) w by
  rw[show [u1,Value.slice (some ⟨b,o,none⟩) n c].toArray= #[u1,.slice (some ⟨b,o,none⟩) n c]from rfl,hrun];rfl
 rcases iJ r1 with⟨he,o',c',hv',_⟩|⟨b',o',c',us,hv',hr,hfl,hlc,hcm,hzz,hone,hc⟩
 ·rw[hv']
  cases o' with
  |none=>
   change Sem.run P (α:=Value) (do
    let some t:=(#[t,t]:Array TypeId)[0]? |stuck "slices.overlaps: no parameter types"
    let .slice elem ←underlying t|stuck "slices.overlaps: slice type expected"
    let size ←sizeOf elem
    pure (Value.bool false)) w=_
   simp[run_underlying ht,hz]
  |some a=>
   change Sem.run P (α:=Value) (do
    let some t:=(#[t,t]:Array TypeId)[0]? |stuck "slices.overlaps: no parameter types"
    let .slice elem ←underlying t|stuck "slices.overlaps: slice type expected"
    let size ←sizeOf elem
    match(some a:Option Addr),(some ⟨b,o,none⟩:Option Addr)with
    |some a,some b=>
     if 0=0∨n=0∨size=0 then pure (Value.bool false)
     else if a.block !=b.block&&(←frozen a)&&(←frozen b)then unsupported .addressObserved
     else do
      if a.block !=b.block then do
       noView a;noView b
       if←mayBeOne a b then return Value.bool ((←choose (.extern "sameAddr.stringBytes" 2))==1)
      pure (Value.bool (a.block==b.block&&a.off<b.off+n*size&&b.off<a.off+0*size))
    |_,_=>pure (Value.bool false)) w=_
   simp[run_underlying ht,hz]
 ·rw[hv']
  change Sem.run P (α:=Value) (do
   let some t:=(#[t,t]:Array TypeId)[0]? |stuck "slices.overlaps: no parameter types"
   let .slice elem ←underlying t|stuck "slices.overlaps: slice type expected"
   let size ←sizeOf elem
   match(some ⟨b',o',none⟩:Option Addr),(some ⟨b,o,none⟩:Option Addr)with
   |some a,some b=>
    if xs.length=0∨n=0∨size=0 then pure (Value.bool false)
    else if a.block !=b.block&&(←frozen a)&&(←frozen b)then unsupported .addressObserved
    else do
     if a.block !=b.block then do
      noView a;noView b
      if←mayBeOne a b then return Value.bool ((←choose (.extern "sameAddr.stringBytes" 2))==1)
     pure (Value.bool (a.block==b.block&&a.off<b.off+n*size&&b.off<a.off+xs.length*size))
   |_,_=>pure (Value.bool false)) w=_
  by_cases h0:xs.length=0∨n=0∨size=0
  ·rcases h0 with h0|h0|h0
   ·have h0:=List.eq_nil_of_length_eq_zero h0
    simp[run_underlying ht,hz,h0]
   ·simp[run_underlying ht,hz,h0]
   ·simp[run_underlying ht,hz,h0]
  ·have hu:0<us.length:=by have:=hr.len;omega
   have h1:¬xs=[]:=fun e=>h0 (.inl (by rw[e];rfl))
   have h2:¬n=0:=fun e=>h0 (.inr (.inl e))
   have h3:¬size=0:=fun e=>h0 (.inr (.inr e))
   have hsz:=hzz 0 us[0] (List.getElem?_eq_getElem hu)
   have himm:=hc 0 us[0] 0 (us[0].cells[0]'(by omega)) (List.getElem?_eq_getElem hu) (Array.getElem?_eq_getElem (by omega))
   have hne:b'≠b:=by rintro rfl;rw[hnone]at himm;cases himm
   have hcell:=ho.bM _ _ _ himm
   have hbl:w.heap[b]? =some (.cells cs te (0,0)):=hcs
   have hfb:∀i,w.frozen? ⟨b,i,none⟩=false:=fun i=>by simp[World.frozen?,hbl]
   have hsb:w.shape? b=some (te,cs.size):=by simp[World.shape?,hbl]
   obtain⟨ta,ka,hsa⟩:∃ta ka,w.shape? b'=some (ta,ka+1):=by
    unfold World.cell? at hcell
    unfold World.shape?
    split at hcell
    ·rename_i cc tt ff e1
     simp only[Option.isSome_none,Bool.false_eq_true,if_false]at hcell
     have:0<cc.size:=by
      have:=(Array.getElem?_eq_some_iff.1 hcell).1
      omega
     simp only at e1
     rw[e1]
     exact⟨tt,cc.size-1,by simp only[Option.some.injEq,Prod.mk.injEq,true_and];omega⟩
    ·cases hcell
   have hnb:(b' !=b)=true:=by simpa using hne
   have hnb':(b'==b)=false:=by simpa using hne
   have hfb1:=hfb o
   have hfb2:=hfb cs.size
   cases hfa:w.frozen? ⟨b',o',none⟩ <;>cases hfe:w.frozen? ⟨b',ka+1,none⟩ <;>
    simp[run_underlying ht,hz,h1,h2,h3,hne,hnb,hnb',frozen,noView,viewAt,mayBeOne,stringish,shape,Sem.run,hsa,hsb,hfa,hfe,hfb1,hfb2]
end
end Aml
