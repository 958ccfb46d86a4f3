/-
  Part 7 of the proof that the last text ends: from 'A text that is being built, in the store: it is made, and its methods are called' to 'Bits listed; the least of some: the program'. By an AI agent.
-/
import Derived.Test.YtoepfmhnapedoaaGreatDoorMD5
import Derived.Test.YtoepfmhnapedoaaGreatDoorMD6
import Derived.Test.YtoepfmhnapedoaaGreatDoorMD3
import Derived.Sort.Grow
import Derived.Lib.MapLaws
import Derived.Lib.ValidLaws
import Derived.Shelf.Strconv.AtoiAll
import Derived.Shelf.Strconv.Itoa3
import Derived.Lib.RuneCountTail
import Derived.Lib.SplitLaws
import Derived.Test.YtoepfmhnapedoaaGreatDoorMD4
import Derived.RecoverIn
import Derived.RangeFuncLeaves
import Derived.RangeFuncNested
set_option linter.unusedVariables false
set_option linter.unusedSimpArgs false
set_option maxRecDepth 100000
set_option maxHeartbeats 16000000
namespace Aml
open Go Go.RowKit Go.Shelf Go.Proofs
section
variable {P:Program} {w0:W0}
end
end Aml
namespace Aml
open Go Go.RowKit
@[go_sem] theorem PQ (l:Nat) (ds:List DV):fH (.mp l::ds)=fH ds:=rfl
section
variable {P:Program} {w0:W0}
def Kn(w0:W0)(X:World→Prop):Prop:=w0.w.drawn=0∧∀w,Below w0.heap.size w0.w w→X w
theorem Kn.mono{w0:W0}{X Y:World→Prop}(h:Kn w0 X)(k:∀w,X w→Y w):Kn w0 Y:=⟨h.1,fun w hw=>k w (h.2 w hw)⟩
theorem Rel.kn{g:Gh}{S:St}{w:World}(h:Rel w0 g S w){X:World→Prop}(k:Kn w0 X):X w:=k.2 w h.below.base.below
theorem yo{f:FuncId}{ds:List DV}{us:List Value}{S:St}{Kd:DV→Prop}(ha:∀g vs,af g ds vs→vs=us)
 (hc:Kn w0 fun w=>Calls P f us.toArray w fun e w'=>∃r d,e= .returned r∧(∀g,aG g d r)∧Kd d∧Below w.heap.size w w'):ab P w0 f ds S (fun d S'=>Kd d∧S'=S):=by
 intro g vs w h hr;have e1:=ha g vs.toList hr;have e2:vs=us.toArray:=by rw[←e1]
 rw[e2];refine(h.kn hc).mono ?_;rintro e w' ⟨r,d,rfl,hd,hk,hb⟩;exact .inl ⟨r,g,d,S,rfl,.refl g,h.Ay hb hc.1,hd g,hk,rfl⟩
theorem TA(us:List Value):∀g vs,af g (us.map DV.v) vs→vs=us:=by
 intro g vs h;refine acy fun i=>?_;have hlen:us.length=vs.length:=by simpa using h.len
 by_cases hi:i<us.length
 ·rw[aac hi,aac (by omega)];have:=h.at_ i (.v us[i]) vs[i] (by simp[hi]) (aac (by omega));rw[ay this]
 ·rw[aaS (by omega),aaS (by omega)]
theorem xg{f:FuncId}{us:List Value}{S:St}{r:Value}{d:DV}(hd:∀g,aG g d r)
 (hc:Kn w0 fun w=>Calls P f us.toArray w fun e w'=>e= .returned r∧Below w.heap.size w w'):ab P w0 f (us.map DV.v) S (fun d' S'=>d'=d∧S'=S):=
 yo (TA us) (Kn.mono hc fun w hw=>hw.mono fun e w' h=>⟨r,d,h.1,hd,rfl,h.2⟩)
end
end Aml
namespace Aml
open Go Go.RowKit Go.Proofs
variable {P:Program} {w0:W0}
theorem uu{f:FuncId}{S:St}{l:Nat}{kk:KK}{es:List (Value×DV×Nat)}{c:Nat}(hl:lk S.acc l=some (.xo (.mp kk es c)))
 (hc:∀(w:World) (b:Nat) (es':Array MapEntry) (clock:Nat),w.heap[b]? =some (.map es' clock)→Calls P f #[.map (some b)] w fun e w'=>e= .returned (.map (some w.heap.size))∧w'=w.alloc (.map es' clock)):
 ab P w0 f [.mp l] S (fun d S'=>∃n:FN S.acc,d= .mp n.n∧S'=⟨S.box,(n.n,.xo (.mp kk es c))::S.acc⟩):=by
 intro g vs w h hr;obtain⟨u,us,hvs,hu,h3⟩:=hr.dJ;have hus:us=[]:=aa0 (by have:=h3.len;simpa using this.symm);subst hus;obtain⟨b,rfl,hgb⟩:=qF hu;have e2:vs= #[.map (some b)]:=by rw[←Array.toArray_toList (xs:=vs),hvs]
 rw[e2];obtain⟨b',o',q1,q2,⟨es',rfl,r,hok⟩,hset⟩:=h.Be hl;rw[hgb]at q1;cases q1;refine(hc w _ _ _ q2).mono ?_;rintro e w' ⟨rfl,rfl⟩;obtain⟨n,g',hle,hne,hR,ha⟩:=h.KE (f:= .mp kk es c) (cN w (.map es'.toArray c)) (aar _) (heap_alloc_new w _) ⟨es',rfl,r,hok⟩;exact .inl ⟨_,g',_,_,rfl,hle,hR,.mp n _ ha,⟨n,cG hne⟩,rfl,rfl⟩
end Aml
namespace Go.Proofs.YtoepfmhnapedoaaGreatDoor
open Aml Go
section
variable {α:Type} [Inhabited α] {enc:α→Value}
theorem vk{l:List α}{j:Nat}{a:α}(h:l[j]? =some a):l.toArray[j]! =a:=by
 obtain⟨hlt,rfl⟩:=aad.1 h;rw[getElem!_pos l.toArray j (by simpa using hlt)];simp
theorem wH{w:World}{n b e:Nat}{cs:Array Value}{zs:List α}{os:Array Obj}(hb:w.heap[b]? =some (.cells cs e (0,0)))(hn:zs.length≤cs.size):
 ∃cs',(Go.Sort.grow (Go.Sort.putRow enc (Go.Sort.ahead w n) b 0 zs.toArray) os).heap[b]? =some (.cells cs' e (0,0))∧cs'.size=cs.size∧(∀(i:Nat) (a:α),zs[i]? =some a→cs'[i]? =some (enc a))∧∀x,x∈cs'.toList→x∈cs.toList∨∃a,x=enc a:=by
 refine⟨Go.Sort.putCells enc 0 zs.toArray cs,?_,by simp[Go.Sort.putCells],fun i a hi=>?_,fun x hx=>?_⟩
 ·rw[adh _ _ (by have:=(aaq.1 hb).1;simpa using this)];simp only[Go.Sort.putRow,Go.Sort.mapBlock,Go.Sort.heap_ahead,ac1,if_true,hb,abH,Go.Sort.onCells]
 ·have hlt:i<zs.length:=(aad.1 hi).1;have hc:cs[i]? =some cs[i]:=acM (by omega);simp only[Go.Sort.putCells,Array.getElem?_mapIdx,hc,abH];rw[if_pos (by simp;omega)];simp only[Nat.sub_zero];rw[vk hi]
 ·obtain⟨i,hi⟩:=abv.1 hx;rw[acv]at hi;simp only[Go.Sort.putCells,Array.getElem?_mapIdx,aay]at hi;obtain⟨y,hy,rfl⟩:=hi;split
  ·exact .inr ⟨_,rfl⟩
  ·exact .inl (Array.mem_toList_iff.2 (Array.mem_of_getElem? hy))
theorem H9(w0:W0){f:FuncId}(srtA:List α→List α)(hnil:srtA []=[])(hlen:∀l,(srtA l).length=l.length)(hcell:∀a,(enc a).cells= #[enc a])(hone:∀a,(enc a).oneCell'=true)
 (hsort:∀(b c:Nat) (zs:List α) (w:World),Go.Sort.Holds enc w b 0 zs.toArray→b<w.heap.size→zs.length<4611686018427387904→Calls Tryz.prog f #[.slice (some ⟨b,0,none⟩) zs.length c] w fun e w'=>e= .returned (.tuple #[])∧∃n os,w'=Go.Sort.grow (Go.Sort.putRow enc (Go.Sort.ahead w n) b 0 (srtA zs).toArray) os)
 (hnone:∀(p:Option Addr) (c:Nat) (w:World),Calls Tryz.prog f #[.slice p 0 c] w fun e w'=>e= .returned (.tuple #[])∧w'=w)
 {l:Nat} {zs:List α} {S:St} (hl:lk S.acc l=some (.arr 1 (zs.map fun a=>DV.v (enc a)))) (hsz:zs.length<4611686018427387904):
 ab Tryz.prog w0 f [.acc l zs.length] S (fun d S'=>d= .cW []∧S'=⟨S.box,up S.acc l (.arr 1 ((srtA zs).map fun a=>DV.v (enc a)))⟩):=by
 intro g vs w h1 h2;obtain⟨u,us,hvs,hr,h3⟩:=h2.dJ;have hus:us=[]:=aa0 (by have:=h3.len;simpa using this.symm);subst hus;have hvs':vs= #[u]:=by rw[←Array.toArray_toList (xs:=vs),hvs]
 subst hvs';obtain⟨o,c,hv,ha⟩:=fS hr;subst hv;by_cases hz:zs=[]
 ·subst hz;refine(hnone o c w).mono ?_;rintro e w' ⟨rfl,rfl⟩;refine .inl ⟨_,g,.cW [],_,rfl,.refl g,?_,.cW [] [] rfl (by intro i d u h;simp at h),rfl,rfl⟩;rw[hnil,se hl];exact h1
 ·have hpos:0<zs.length:=acW.2 hz;obtain⟨ow,hO⟩:=h1.open_;obtain⟨hs,⟨he,o2,_⟩|⟨b,c2,cs,e,q1,q2,q3,q4,q5,q6,q7,q8,q8x,us,q9,q10,q11,q12⟩⟩:=hO.acc l _ (bV hl)
  ·exact absurd (by simpa using he) hz
  ·rw[abI]at q1 q7;have q1':=q1;rw[ha]at q1;simp only[abg,Value.slice.injEq,true_and]at q1;obtain⟨rfl,rfl⟩:=q1;rw[adt]at q6;have hul:us.length=zs.length:=by have:=q9.len;simpa using this.symm
   have hus:∀(i:Nat) (a:α),zs[i]? =some a→us[i]? =some (enc a):=by
    intro i a hi;have hlt:i<us.length:=by rw[hul];exact(aad.1 hi).1
    have hu:us[i]? =some us[i]:=aac hlt;have:=q9.at_ i (DV.v (enc a)) _ (by simp[hi]) hu;have:=ay this;rw[hu,this]
   have hcs:∀(i:Nat) (a:α),zs[i]? =some a→cs[i]? =some (enc a):=by
    intro i a hi;have:=q12 i _ 0 _ (hus i a hi) (show(enc a).cells[0]? =some (enc a)by rw[hcell];rfl);simpa using this
   have hH:Go.Sort.Holds enc w b 0 zs.toArray:=by
    intro j hj;have hj':j<zs.length:=by simpa using hj
    have hi:zs[j]? =some zs[j]:=aac hj';constructor
    ·rw[bS q5,acE,hcs j _ hi,vk hi]
    ·simp[World.frozen?,q5]
   refine(hsort b c zs w hH (lt_of_heap q5) hsz).mono ?_;rintro ex w' ⟨rfl,n,os,rfl⟩;obtain⟨cs',h5,h6,h7,h8⟩:=wH (enc:=enc) (n:=n) (os:=os) (zs:=srtA zs) q5 (by rw[hlen];omega);refine .inl ⟨_,g,.cW [],_,rfl,.refl g,?_,.cW [] [] rfl (by intro i d u h;simp at h),rfl,rfl⟩
   have hold:∀k,k<w.heap.size→k≠b→(Go.Sort.grow (Go.Sort.putRow enc (Go.Sort.ahead w n) b 0 (srtA zs).toArray) os).heap[k]? =w.heap[k]? :=fun k hk hne=>by
    rw[adh _ _ (by simp;exact hk)];have:b≠k:=fun e=>hne e.symm;simp[Go.Sort.putRow,Go.Sort.mapBlock,ac1,this]
   refine h1.Ht (us:=(srtA zs).map fun a=>enc a) (b:=b) (c:=c) (e:=e) (cs:=cs') hl (by rw[abI];exact ha) (by simp[hlen]) (by omega) h5 (by omega) ?_ (by simp) hold ?_ ?_ ?_ ?_ fun x hx=>(h8 x hx).elim (q8x x) fun⟨a,e⟩=>by rw[e];exact hone a
   ·refine h1.below.step ⟨rfl,rfl,rfl,by simp,fun k hk=>?_,Nat.le_add_right _ _⟩ b (mf q5) fun k hk hne=>hold k hk hne;have:=h1.below.size;exact hold k (by omega) (by omega)
   ·exact⟨by simp,fun i d u a1 a2=>by
     simp only[aaE,aay]at a1 a2;obtain⟨x,hx,rfl⟩:=a1;obtain⟨y,hy,rfl⟩:=a2;rw[hx]at hy;cases hy;exact .v _ (hone x)⟩
   ·intro i u hi;simp only[aaE,aay]at hi;obtain⟨x,_,rfl⟩:=hi;rw[hcell];rfl
   ·intro u hu x hx;obtain⟨a,_,rfl⟩:=aaT.1 hu;rw[hcell]at hx;simp at hx;subst hx;exact hone a
   ·intro i u j x hi hj;simp only[aaE,aay]at hi;obtain⟨a,ha',rfl⟩:=hi;rw[hcell]at hj;have hj0:j=0:=by have:=(aaq.1 hj).1;simp at this;exact this
    subst hj0;simp at hj;subst hj;simpa using h7 i a ha'
end
def mS(l:List (List UInt8)):List (List UInt8):=l.mergeSort fun x y=>decide (x≤y)
theorem mI(l:List (List UInt8)):(mS l).length=l.length:=List.length_mergeSort l
theorem Xm(w0:W0){l:Nat}{zs:List (List UInt8)}{S:St}(hl:lk S.acc l=some (.arr 1 (zs.map fun z=>dS ⟨z.toArray⟩)))(hsz:zs.length<4611686018427387904):
 ab Tryz.prog w0 98 [.acc l zs.length] S (fun d S'=>d= .cW []∧S'=⟨S.box,up S.acc l (.arr 1 ((mS zs).map fun z=>dS ⟨z.toArray⟩))⟩):=
 H9 w0 (enc:=fun z:List UInt8=>Value.string ⟨z.toArray⟩) mS (by simp[mS]) mI (fun _=>rfl) (fun _=>rfl) (fun b c zs w hH hb hs=>Tryz.slices_Sort_string b 0 c zs w hH hb hs) (fun p c w=>Tryz.slices_Sort_string_none p c w) hl hsz
theorem Rg(w0:W0){S:St}{l:Nat}{kk:KK}{es:List (Value×DV×Nat)}{c:Nat}(hl:lk S.acc l=some (.xo (.mp kk es c))):
 ab Tryz.prog w0 151 [.mp l] S (fun d S'=>∃n:FN S.acc,d= .mp n.n∧S'=⟨S.box,(n.n,.xo (.mp kk es c))::S.acc⟩):=
 uu hl fun w b es' clock hb=>Tryz.maps_Clone w b es' clock hb
end Go.Proofs.YtoepfmhnapedoaaGreatDoor
namespace Rn
open Go
abbrev dl(l:List UInt8):Nat×Nat:=Lib.decodeL l
theorem sH(l:List UInt8):1≤(dl l).2:=Lib.decodeL_width l
def zE(p:Nat×Nat):Prop:=¬(p.1=65533∧p.2=1)
instance (p:Nat×Nat):Decidable (zE p):=by unfold zE;exact inferInstance
def mg:Nat→List UInt8→List (Nat×List UInt8)
 |0,_=>[]
 |n+1,l=>if l=[]then []else((dl l).1,l.take (dl l).2)::mg n (l.drop (dl l).2)
def bR(l:List UInt8):List (Nat×List UInt8):=mg l.length l
theorem gA(n:Nat):mg n []=[]:=by cases n <;>simp[mg]
theorem qN:∀(n m:Nat) (l:List UInt8),l.length≤n→l.length≤m→mg n l=mg m l
 |0,m,l,hn,_=>by
  have:l=[]:=aa0 (by omega);subst this;rw[gA,gA]
 |n+1,0,l,_,hm=>by
  have:l=[]:=aa0 (by omega);subst this;rw[gA,gA]
 |n+1,m+1,l,hn,hm=>by
  by_cases hne:l=[]
  ·subst hne;rw[gA,gA]
  ·have hw:=sH l;have hl:=acW.2 hne;simp only[mg,if_neg hne];rw[qN n m _ (by rw[acq];omega) (by rw[acq];omega)]
theorem vV:bR []=[]:=rfl
theorem iU{l:List UInt8}(hne:l≠[]):bR l=((dl l).1,l.take (dl l).2)::bR (l.drop (dl l).2):=by
 have hw:=sH l;have hl:=acW.2 hne;unfold bR;obtain⟨n,hn⟩:∃n,l.length=n+1:=⟨l.length-1,by omega⟩;rw[hn];simp only[mg,if_neg hne];rw[qN n _ _ (by rw[acq];omega) (aar _)]
theorem sZ{C:List UInt8→Prop}(h0:C [])(h1:∀l,l≠[]→C (l.drop (dl l).2)→C l):∀l,C l:=by
 intro l;generalize hn:l.length=n
 induction n using Nat.strongRecOn generalizing l with
 |_ n ih=>
  by_cases hne:l=[]
  ·subst hne;exact h0
  ·have hw:=sH l;have hl:=acW.2 hne;exact h1 l hne (ih (l.drop (dl l).2).length (by rw[acq,←hn];omega) _ rfl)
theorem qm(l:List UInt8):(bR l).length≤l.length:=by
 induction l using sZ with
 |h0=>exact aar _
 |h1 l hne ih=>
  rw[iU hne,aaW];have hw:=sH l;have hl:=acW.2 hne;rw[acq]at ih;omega
def gd(r:Nat×List UInt8):Prop:=zE (r.1,r.2.length)
def whole(l:List UInt8):Prop:=∀r,r∈bR l→gd r
theorem Nk{l:List UInt8}(hne:l≠[]):gd ((dl l).1,l.take (dl l).2)↔zE (dl l):=by
 have hle:=Lib.decodeL_le l hne;unfold gd;rw[ab2,adA hle]
theorem sO{l:List UInt8}(hne:l≠[]):whole l↔zE (dl l)∧whole (l.drop (dl l).2):=by
 unfold whole;rw[iU hne];simp only[aaJ,forall_eq_or_imp,Nk hne]
theorem qX{c:UInt8}(hc:c.toNat<128)(y:List UInt8):bR (c::y)=(c.toNat,[c])::bR y:=by
 rw[iU (by simp)]
 have:dl (c::y)=(c.toNat,1):=by
  unfold dl;rw[Lib.decodeL_N];exact Lib.decodeN_ascii _ _ _ _ _ hc
 rw[this];rfl
end Rn
namespace Go.Proofs.YtoepfmhnapedoaaGreatDoor
open Aml Go Go.RowKit Go.Shelf Go.Proofs
def tx(l:List UInt8):ByteArray:=⟨l.toArray⟩
theorem dK(l:List UInt8):(tx l).data.toList=l:=by simp[tx]
theorem xw(s:ByteArray):tx s.data.toList=s:=by simp[tx]
theorem cV(l:List UInt8):(tx l).size=l.length:=by simp[tx,ByteArray.size]
theorem iJ(s:ByteArray):s.data.toList.length=s.size:=rfl
theorem CT{a b:ByteArray}(h:a.data.toList=b.data.toList):a=b:=by rw[←xw a,←xw b,h]
theorem Jy(a b:List UInt8):tx a++tx b=tx (a++b):=by
 apply CT;rw[ByteArray.data_append,acX,dK,dK,dK]
theorem JP(a b:ByteArray):(a++b).data.toList=a.data.toList++b.data.toList:=by rw[ByteArray.data_append,acX]
theorem JW(s:ByteArray)(i j:Nat):(s.extract i j).data.toList=(s.data.toList.take j).drop i:=by
 rw[ByteArray.data_extract,Array.toList_extract];simp[List.extract_eq_take_drop,List.drop_take]
theorem CK{a b:List UInt8}(h:tx a=tx b):a=b:=by rw[←dK a,h,dK]
theorem sU(s:ByteArray)(pos:Nat):Utf8.decode s pos=Lib.decodeL (s.data.toList.drop pos):=by
 unfold Lib.decodeL;have h:=Lib.tail_decode s pos 0;rw[adj]at h;rw[←h];congr 1;apply CT;rw[JW,abf (by rw[iJ];exact aar _)]
@[go_sem] theorem aaj (a b:ByteArray) (K:DV→Prop):gO .add a b K=(a.size+b.size≤9223372036854775807∧K (.v (.string (a++b)))):=rfl
@[go_sem] theorem aah (a b:ByteArray) (K:DV→Prop):gO .eql a b K=K (.v (.bool (decide (a.data.toList=b.data.toList)))):=rfl
@[go_sem] theorem aaB (a b:ByteArray) (K:DV→Prop):gO .neq a b K=K (.v (.bool (!decide (a.data.toList=b.data.toList)))):=rfl
def KU(w0:W0):Prop:=Kn w0 fun w=>Lib.Utf8Tabs 1 2 w
theorem Se(w0:W0)(hk:KU w0)(s:ByteArray)(hs:s.size≤1048576)(S:St):ab Tryz.prog w0 116 [dS s] S (fun d S'=>d=dB (Lib.validD s.data.toList)∧S'=S):=
 xg (us:=[.string s]) (fun g=> .v _ rfl) (Kn.mono hk fun w hw=>Any.utf8_ValidString Tryz.DX s w (by omega) hw)
@[go_sem] def aA (l:List (List UInt8)):List DV:=l.map fun s=>dS (tx s)
end Go.Proofs.YtoepfmhnapedoaaGreatDoor
namespace Go.Proofs.YtoepfmhnapedoaaGreatDoor
open Aml Go Rn
def kT(a:List UInt8):Value:= .string (tx a)
@[go_sem] def gJ (a:List UInt8):DV:=dS (tx a)
theorem fF{x y:List UInt8}(h:kT x=kT y):x=y:=CK (Value.string.inj h)
def sE(es:List (Value×DV×Nat))(pre:List (List UInt8)):Prop:=pre.Nodup∧∀v,v∈pre→∃e,e∈es∧e.1=kT v
def jz(es:List (Value×DV×Nat))(V:List (List UInt8)):Prop:=sE es V∧∀e,e∈es→∃v,v∈V∧e.1=kT v
theorem tX{u:Value}(h:isKey .str u=true):∃a,u=kT a:=by
 cases u with
 |string s=>exact⟨s.data.toList,by unfold kT;rw[xw]⟩
 |_=>simp[isKey]at h
theorem I8(w0:W0){l:Nat}{zs:List (List UInt8)}{S:St}(hl:lk S.acc l=some (.arr 1 (zs.map gJ)))(hsz:zs.length<4611686018427387904):
 ab Tryz.prog w0 98 [.acc l zs.length] S (fun d S'=>d= .cW []∧S'=⟨S.box,up S.acc l (.arr 1 ((mS zs).map gJ))⟩):=Xm w0 hl hsz
theorem mw{es:List (Value×DV×Nat)}{V:List (List UInt8)}(hV:jz es V):V.length≤es.length:=by
 have h1:(V.map kT).Nodup:=aX (fun x y h=>fF h) hV.1.1
 have h2:(V.map kT)⊆es.map (·.1):=fun u hu=>by
  obtain⟨v,hv,rfl⟩:=aaT.1 hu;obtain⟨e',he',h3⟩:=hV.1.2 v hv;exact aaT.2 ⟨e',he',h3⟩
 have:=cu h1 h2;simpa using this
theorem CR(w1:W0)(l b m clk:Nat)(es:List (Value×DV×Nat))(X:List (List UInt8)→St)
 (hb:∀pre,lk (X pre).box b=some [.mp m]) (hm:∀pre,lk (X pre).acc m=some (.xo (.mp .str es clk)))
 (hda:∀pre,(X pre).acc.map (·.1)=(X []).acc.map (·.1)) (hok:fc .str es clk)
 (hy:UB Tryz.prog w1 l X (fun x=>[gJ x]) (sE es)):∀T,Has (X []) T→ab Tryz.prog w1 100 [.v (.func (.yield l) #[] #[]),.v (.pointer (some ⟨b,0,none⟩))] T fun _ T'=>∃V,jz es V∧Has (X V) T':=by
 intro T hT;have t1:lk T.box b=some [.mp m]:=hT.box _ _ (hb []);have t2:lk T.acc m=some (.xo (.mp .str es clk)):=hT.acc _ _ (hm []);refine lO [] mx Tryz.func100 rfl rfl (by kernel_rfl) ?_;simp only[Tryz.ntmps100,aaW,ab8,Nat.reduceAdd,Nat.reduceSub,List.reduceReplicate,acG,acR];refine @aa _ (cL @Tryz.ntmps100 @t1 @t2 ?_);intro li;refine fZ [] [0,5] (fun s:St×List (List UInt8)×List Nat=>[]) (fun s=>s.1) (fun s=>Has (X s.2.1) s.1∧lk s.1.acc li.n=some (.xo (.it m clk s.2.2 clk))∧lk (X s.2.1).acc li.n=none∧sE es s.2.1∧∀e,e∈es→(e.2.2∈s.2.2↔∃v,v∈s.2.1∧e.1=kT v)) (fun s=>es.length-s.2.1.length) (⟨T.box,(li.n,.xo (.it m clk [] clk))::T.acc⟩,[],[]) mx (by kernel_rfl) ?_ ?_
 ·have hnone:lk T.acc li.n=none:=ao li;refine⟨⟨⟨hT.box,fun l' o ho=>?_⟩,by simp[lk],?_,⟨acT,fun v hv=>by cases hv⟩,fun e _=>⟨fun h=>(by cases h),fun⟨v,hv,_⟩=>(by cases hv)⟩⟩,?_,?_⟩
  ·have:=hT.acc _ _ ho;show lk ((li.n,_)::T.acc) l'=_;simp only[lk];rw[if_neg (fun e=>by rw[e,this]at hnone;cases hnone)];exact this
  ·show lk (X []).acc li.n=none
   cases hx:lk (X []).acc li.n with
   |none=>rfl
   |some o=>rw[hT.acc _ _ hx]at hnone;cases hnone
  ·exact @aa _ bY
  ·exact .refl _
 ·rintro⟨T,pre,seen⟩ ⟨hT',hi,hiX,hOk,hs⟩;simp only at hT' hi hiX hOk hs;have u1:lk T.box b=some [.mp m]:=hT'.box _ _ (hb pre);have u2:lk T.acc m=some (.xo (.mp .str es clk)):=hT'.acc _ _ (hm pre);have hne:¬li.n=m:=fun e=>by rw[e,hm pre]at hiX;cases hiX
  refine @aa _ (cL @u1 @u2 @hi ?_);refine⟨fun hall=>⟨pre,⟨hOk,fun e he=>(hs e he).1 (hall e he)⟩,hT'⟩,fun e he hns=>?_⟩;obtain⟨a,ha⟩:=tX (hok.key e he);rw[ae hne,u2];refine @aa _ (av ?_);refine⟨e,he,⟨seen,rfl⟩,?_⟩;rw[ha];have hnew:a∉pre:=fun h=>hns ((hs e he).2 ⟨a,h,ha⟩)
  have hOk':sE es (pre++[a]):=⟨by
   rw[acV];exact⟨hOk.1,by simp,fun x hx y hy=>by rw[aau.1 hy];rintro rfl;exact hnew hx⟩,fun v hv=>by
   rcases aaD.1 hv with h|h
   ·exact hOk.2 v h
   ·rw[aau.1 h];exact⟨e,he,ha⟩⟩
  have hT1:Has (X pre) ⟨T.box,up T.acc li.n (.xo (.it m clk (seen++[e.2.2]) clk))⟩:=⟨hT'.box,fun c o hc=>by
   rw[ae (fun h=>by rw[←h,hiX]at hc;cases hc)];exact hT'.acc c o hc⟩
  simp(maxDischargeDepth:=12) (maxSteps:=1000000) -implicitDefEqProofs only[go_sem,Nat.reduceAdd,Nat.reduceSub,Nat.reduceMul,Nat.reduceLeDiff,Nat.reduceEqDiff,Nat.reduceGT,Nat.reduceBEq,reduceCtorEq,↓reduceIte,Int.reduceToNat,Int.reduceLE,Int.reduceLT,Int.reduceNe,Int.reduceEq,kT];refine SM (hy pre a _ hOk' hT1) ?_;rintro d T2 ⟨rfl,hT2,hK⟩;have ui:lk T2.acc li.n=some (.xo (.it m clk (seen++[e.2.2]) clk)):=hK.acc _ _ hiX (by rw[aM,hi];rfl);have hX2:lk (X (pre++[a])).acc li.n=none:=sh ((hda _).trans (hda _).symm) hiX
  have hs2:∀e',e'∈es→(e'.2.2∈seen++[e.2.2]↔∃v,v∈pre++[a]∧e'.1=kT v):=fun e' he'=>by
   constructor
   ·intro h;rcases aaD.1 h with h|h
    ·obtain⟨v,h1,h2⟩:=(hs e' he').1 h;exact⟨v,acp _ h1,h2⟩
    ·have:e'=e:=fG hok.bn he' he (aau.1 h);rw[this];exact⟨a,by simp,ha⟩
   ·rintro⟨v,h1,h2⟩;rcases aaD.1 h1 with h|h
    ·exact acp _ ((hs e' he').2 ⟨v,h,h2⟩)
    ·have:e'=e:=fG hok.nd he' he (by rw[h2,ha,aau.1 h]);rw[this];simp
  have hlen:(pre++[a]).length≤es.length:=by
   have h1:((pre++[a]).map kT).Nodup:=aX (fun x y h=>fF h) hOk'.1
   have h2:((pre++[a]).map kT)⊆es.map (·.1):=fun u hu=>by
    obtain⟨v,hv,rfl⟩:=aaT.1 hu;obtain⟨e',he',h3⟩:=hOk'.2 v hv;exact aaT.2 ⟨e',he',h3⟩
   have:=cu h1 h2;simpa using this
  refine @aa _ (av ?_);refine⟨(T2,pre++[a],seen++[e.2.2]),⟨hT2,ui,hX2,hOk',hs2⟩,?_,.refl _⟩;show es.length-(pre++[a]).length<es.length-pre.length;rw[aaK]at hlen ⊢;simp only[aaW,ab8]at*;omega
theorem wT(w0:W0){b m clk:Nat}{es:List (Value×DV×Nat)}{S:St}(hb:lk S.box b=some [.mp m])(hm:lk S.acc m=some (.xo (.mp .str es clk)))(hok:fc .str es clk)(hlen:es.length≤1048576):
 ab Tryz.prog w0 139 [.sl 0 true [],.v (.func (.func 100) #[] #[.pointer (some ⟨b,0,none⟩)])] S (fun d S'=>∃(V:List (List UInt8)) (r:FN S.acc),jz es V∧d= .acc r.n V.length∧S'=⟨S.box,(r.n,.arr 1 (V.map gJ))::S.acc⟩):=by
 refine mh [] mx Tryz.func139 rfl rfl (by kernel_rfl) ?_;refine @aa _ (ah @Tryz.ntmps139 ?_);intro s;refine fh s.n 0 1 (by omega) (ds:=[.sl 0 true []]) (by exact @aa _ bY) rfl fun lb=>?_;refine @aa _ (av ?_);refine wF [] (fun pre=>⟨(s.n,[.acc lb.n pre.length])::S.box,(lb.n,.arr 1 (pre.map gJ))::S.acc⟩) (fun x=>[gJ x]) (sE es) (jz es) mx (by kernel_rfl) rfl rfl rfl (fun _=>rfl) (fun _=>rfl) (fun _=>rfl) ?_ ?_ ?_
 ·intro l w1 hy T hT;refine CR w1 l b m clk es _ (fun pre=>?_) (fun pre=>?_) (fun _=>rfl) hok hy T hT
  ·have hsb:¬s.n=b:=fun e=>by have:=ao s;rw[e,hb]at this;cases this
   exact @aa _ (di @hsb @hb)
  ·have hsb:¬lb.n=m:=fun e=>by have:=ao lb;rw[e,hm]at this;cases this
   exact @aa _ (di @hsb @hm)
 ·intro pre x T hOk hT;have t1:lk T.box s.n=some [.acc lb.n pre.length]:=hT.box _ _ (by exact @aa _ bY);have u1:lk T.acc lb.n=some (.arr 1 (pre.map gJ)):=hT.acc _ _ (by exact @aa _ bY)
  have hpl:(pre++[x]).length≤1048576:=by
   have h1:((pre++[x]).map kT).Nodup:=aX (fun x y h=>fF h) hOk.1
   have h2:((pre++[x]).map kT)⊆es.map (·.1):=fun u hu=>by
    obtain⟨v,hv,rfl⟩:=aaT.1 hu;obtain⟨e',he',h3⟩:=hOk.2 v hv;exact aaT.2 ⟨e',he',h3⟩
   have:=cu h1 h2;simp only[abI]at this;omega
  rw[aaK]at hpl;simp only[aaW,ab8]at hpl;have hm8:maxLen=9223372036854775807:=rfl;have hu:(⟨up ((s.n,[.acc lb.n pre.length])::S.box) s.n [.acc lb.n (pre++[x]).length],up ((lb.n,.arr 1 (pre.map gJ))::S.acc) lb.n (.arr 1 ((pre++[x]).map gJ))⟩:St)=⟨(s.n,[.acc lb.n (pre++[x]).length])::S.box,(lb.n,.arr 1 ((pre++[x]).map gJ))::S.acc⟩:=by exact @aa _ bY
  have hH:=qB (b:=s.n) (l:=lb.n) hT [.acc lb.n (pre++[x]).length] (.arr 1 ((pre++[x]).map gJ));have hK:∀v o,Kp ⟨(s.n,[.acc lb.n pre.length])::S.box,(lb.n,.arr 1 (pre.map gJ))::S.acc⟩ T ⟨up T.box s.n v,up T.acc lb.n o⟩:=fun v o=>wU (by exact @aa _ bY) (by exact @aa _ bY);simp only[jB];refine @aa _ (cL @t1 @u1 @hm8 ?_);have hmap:(pre++[x]).map gJ=pre.map gJ++[.v (.string (tx x))]:=by simp[gJ,dS]
  have hlen':(pre++[x]).length=pre.length+1:=by simp
  rw[hu,hmap,hlen']at hH;rw[hmap];exact⟨by omega,by omega,hH,hK _ _⟩
 ·intro V hV;refine @aa _ (av ?_);exact⟨_,_,.refl _,(Sub.refl _).aN,V,lb,hV,rfl,rfl⟩
theorem BY(w0:W0){b m clk:Nat}{es:List (Value×DV×Nat)}{S:St}(hb:lk S.box b=some [.mp m])(hm:lk S.acc m=some (.xo (.mp .str es clk)))(hok:fc .str es clk)(hlen:es.length≤1048576):
 ab Tryz.prog w0 97 [.v (.func (.func 100) #[] #[.pointer (some ⟨b,0,none⟩)])] S (fun d S'=>∃(V:List (List UInt8)) (r:FN S.acc),jz es V∧d= .acc r.n V.length∧S'=⟨S.box,(r.n,.arr 1 (V.map gJ))::S.acc⟩):=by
 refine lO [] mx Tryz.func97 rfl rfl (by kernel_rfl) ?_;refine @aa _ (ah @Tryz.ntmps97 ?_);refine aw (wT w0 hb hm hok hlen) ?_;rintro _ _ ⟨V,r,hV,rfl,rfl⟩;refine @aa _ (av ?_);exact⟨V,r,hV,rfl,rfl⟩
theorem Dv(w0:W0){m:Nat}(S:St):ab Tryz.prog w0 54 [.mp m] S (fun d S'=>∃b:FN S.box,d= .v (.func (.func 100) #[] #[.pointer (some ⟨b.n,0,none⟩)])∧S'=⟨(b.n,[.mp m])::S.box,S.acc⟩):=by
 refine lO [] mx Tryz.func54 rfl rfl (by kernel_rfl) ?_;refine @aa _ (ah @Tryz.ntmps54 ?_);intro b;exact⟨b,rfl,rfl⟩
theorem GK(w0:W0){b m clk:Nat}{es:List (Value×DV×Nat)}{S:St}(hb:lk S.box b=some [.mp m])(hm:lk S.acc m=some (.xo (.mp .str es clk)))(hok:fc .str es clk)(hlen:es.length≤1048576):
 ab Tryz.prog w0 52 [.v (.func (.func 100) #[] #[.pointer (some ⟨b,0,none⟩)])] S (fun d S'=>∃(V:List (List UInt8)) (r:FN S.acc),jz es V∧d= .acc r.n V.length∧S'=⟨S.box,(r.n,.arr 1 ((mS V).map gJ))::S.acc⟩):=by
 refine lO [] mx Tryz.func52 rfl rfl (by kernel_rfl) ?_;refine @aa _ (ah @Tryz.ntmps52 ?_);refine aw (BY w0 hb hm hok hlen) ?_;rintro _ _ ⟨V,r,hV,rfl,rfl⟩;refine @aa _ (av ?_);have hVl:=mw hV;refine .inl (aw (I8 w0 (l:=r.n) (zs:=V) (S:=⟨S.box,(r.n,.arr 1 (V.map gJ))::S.acc⟩) (by simp[lk]) (by omega)) ?_);rintro _ _ ⟨rfl,rfl⟩;refine @aa _ (av ?_);exact⟨V,r,hV,rfl,rfl⟩
theorem Bj(w1:W0)(l b m clk:Nat)(es:List (Value×DV×Nat))(X:List (List UInt8)→St)
 (hb:∀pre,lk (X pre).box b=some [.mp m]) (hm:∀pre,lk (X pre).acc m=some (.xo (.mp .str es clk)))
 (hda:∀pre,(X pre).acc.map (·.1)=(X []).acc.map (·.1)) (hok:fc .str es clk)
 (hy:UB Tryz.prog w1 l X (fun x=>[gJ x]) (sE es)):∀T,Has (X []) T→ab Tryz.prog w1 99 [.v (.func (.yield l) #[] #[]),.v (.pointer (some ⟨b,0,none⟩))] T fun _ T'=>∃V,jz es V∧Has (X V) T':=by
 intro T hT;have t1:lk T.box b=some [.mp m]:=hT.box _ _ (hb []);have t2:lk T.acc m=some (.xo (.mp .str es clk)):=hT.acc _ _ (hm []);refine lO [] mx Tryz.func99 rfl rfl (by kernel_rfl) ?_;simp only[Tryz.ntmps99,aaW,ab8,Nat.reduceAdd,Nat.reduceSub,List.reduceReplicate,acG,acR];refine @aa _ (cL @Tryz.ntmps99 @t1 @t2 ?_);intro li;refine fZ [] [0,5] (fun s:St×List (List UInt8)×List Nat=>[]) (fun s=>s.1) (fun s=>Has (X s.2.1) s.1∧lk s.1.acc li.n=some (.xo (.it m clk s.2.2 clk))∧lk (X s.2.1).acc li.n=none∧sE es s.2.1∧∀e,e∈es→(e.2.2∈s.2.2↔∃v,v∈s.2.1∧e.1=kT v)) (fun s=>es.length-s.2.1.length) (⟨T.box,(li.n,.xo (.it m clk [] clk))::T.acc⟩,[],[]) mx (by kernel_rfl) ?_ ?_
 ·have hnone:lk T.acc li.n=none:=ao li;refine⟨⟨⟨hT.box,fun l' o ho=>?_⟩,by simp[lk],?_,⟨acT,fun v hv=>by cases hv⟩,fun e _=>⟨fun h=>(by cases h),fun⟨v,hv,_⟩=>(by cases hv)⟩⟩,?_,?_⟩
  ·have:=hT.acc _ _ ho;show lk ((li.n,_)::T.acc) l'=_;simp only[lk];rw[if_neg (fun e=>by rw[e,this]at hnone;cases hnone)];exact this
  ·show lk (X []).acc li.n=none
   cases hx:lk (X []).acc li.n with
   |none=>rfl
   |some o=>rw[hT.acc _ _ hx]at hnone;cases hnone
  ·exact @aa _ bY
  ·exact .refl _
 ·rintro⟨T,pre,seen⟩ ⟨hT',hi,hiX,hOk,hs⟩;simp only at hT' hi hiX hOk hs;have u1:lk T.box b=some [.mp m]:=hT'.box _ _ (hb pre);have u2:lk T.acc m=some (.xo (.mp .str es clk)):=hT'.acc _ _ (hm pre);have hne:¬li.n=m:=fun e=>by rw[e,hm pre]at hiX;cases hiX
  refine @aa _ (cL @u1 @u2 @hi ?_);refine⟨fun hall=>⟨pre,⟨hOk,fun e he=>(hs e he).1 (hall e he)⟩,hT'⟩,fun e he hns=>?_⟩;obtain⟨a,ha⟩:=tX (hok.key e he);rw[ae hne,u2];refine @aa _ (av ?_);refine⟨e,he,⟨seen,rfl⟩,?_⟩;rw[ha];have hnew:a∉pre:=fun h=>hns ((hs e he).2 ⟨a,h,ha⟩)
  have hOk':sE es (pre++[a]):=⟨by
   rw[acV];exact⟨hOk.1,by simp,fun x hx y hy=>by rw[aau.1 hy];rintro rfl;exact hnew hx⟩,fun v hv=>by
   rcases aaD.1 hv with h|h
   ·exact hOk.2 v h
   ·rw[aau.1 h];exact⟨e,he,ha⟩⟩
  have hT1:Has (X pre) ⟨T.box,up T.acc li.n (.xo (.it m clk (seen++[e.2.2]) clk))⟩:=⟨hT'.box,fun c o hc=>by
   rw[ae (fun h=>by rw[←h,hiX]at hc;cases hc)];exact hT'.acc c o hc⟩
  simp(maxDischargeDepth:=12) (maxSteps:=1000000) -implicitDefEqProofs only[go_sem,Nat.reduceAdd,Nat.reduceSub,Nat.reduceMul,Nat.reduceLeDiff,Nat.reduceEqDiff,Nat.reduceGT,Nat.reduceBEq,reduceCtorEq,↓reduceIte,Int.reduceToNat,Int.reduceLE,Int.reduceLT,Int.reduceNe,Int.reduceEq,kT];refine SM (hy pre a _ hOk' hT1) ?_;rintro d T2 ⟨rfl,hT2,hK⟩;have ui:lk T2.acc li.n=some (.xo (.it m clk (seen++[e.2.2]) clk)):=hK.acc _ _ hiX (by rw[aM,hi];rfl);have hX2:lk (X (pre++[a])).acc li.n=none:=sh ((hda _).trans (hda _).symm) hiX
  have hs2:∀e',e'∈es→(e'.2.2∈seen++[e.2.2]↔∃v,v∈pre++[a]∧e'.1=kT v):=fun e' he'=>by
   constructor
   ·intro h;rcases aaD.1 h with h|h
    ·obtain⟨v,h1,h2⟩:=(hs e' he').1 h;exact⟨v,acp _ h1,h2⟩
    ·have:e'=e:=fG hok.bn he' he (aau.1 h);rw[this];exact⟨a,by simp,ha⟩
   ·rintro⟨v,h1,h2⟩;rcases aaD.1 h1 with h|h
    ·exact acp _ ((hs e' he').2 ⟨v,h,h2⟩)
    ·have:e'=e:=fG hok.nd he' he (by rw[h2,ha,aau.1 h]);rw[this];simp
  have hlen:(pre++[a]).length≤es.length:=by
   have h1:((pre++[a]).map kT).Nodup:=aX (fun x y h=>fF h) hOk'.1
   have h2:((pre++[a]).map kT)⊆es.map (·.1):=fun u hu=>by
    obtain⟨v,hv,rfl⟩:=aaT.1 hu;obtain⟨e',he',h3⟩:=hOk'.2 v hv;exact aaT.2 ⟨e',he',h3⟩
   have:=cu h1 h2;simpa using this
  refine @aa _ (av ?_);refine⟨(T2,pre++[a],seen++[e.2.2]),⟨hT2,ui,hX2,hOk',hs2⟩,?_,.refl _⟩;show es.length-(pre++[a]).length<es.length-pre.length;rw[aaK]at hlen ⊢;simp only[aaW,ab8]at*;omega
theorem v8(w0:W0){b m clk:Nat}{es:List (Value×DV×Nat)}{S:St}(hb:lk S.box b=some [.mp m])(hm:lk S.acc m=some (.xo (.mp .str es clk)))(hok:fc .str es clk)(hlen:es.length≤1048576):
 ab Tryz.prog w0 139 [.sl 0 true [],.v (.func (.func 99) #[] #[.pointer (some ⟨b,0,none⟩)])] S (fun d S'=>∃(V:List (List UInt8)) (r:FN S.acc),jz es V∧d= .acc r.n V.length∧S'=⟨S.box,(r.n,.arr 1 (V.map gJ))::S.acc⟩):=by
 refine mh [] mx Tryz.func139 rfl rfl (by kernel_rfl) ?_;refine @aa _ (ah @Tryz.ntmps139 ?_);intro s;refine fh s.n 0 1 (by omega) (ds:=[.sl 0 true []]) (by exact @aa _ bY) rfl fun lb=>?_;refine @aa _ (av ?_);refine wF [] (fun pre=>⟨(s.n,[.acc lb.n pre.length])::S.box,(lb.n,.arr 1 (pre.map gJ))::S.acc⟩) (fun x=>[gJ x]) (sE es) (jz es) mx (by kernel_rfl) rfl rfl rfl (fun _=>rfl) (fun _=>rfl) (fun _=>rfl) ?_ ?_ ?_
 ·intro l w1 hy T hT;refine Bj w1 l b m clk es _ (fun pre=>?_) (fun pre=>?_) (fun _=>rfl) hok hy T hT
  ·have hsb:¬s.n=b:=fun e=>by have:=ao s;rw[e,hb]at this;cases this
   exact @aa _ (di @hsb @hb)
  ·have hsb:¬lb.n=m:=fun e=>by have:=ao lb;rw[e,hm]at this;cases this
   exact @aa _ (di @hsb @hm)
 ·intro pre x T hOk hT;have t1:lk T.box s.n=some [.acc lb.n pre.length]:=hT.box _ _ (by exact @aa _ bY);have u1:lk T.acc lb.n=some (.arr 1 (pre.map gJ)):=hT.acc _ _ (by exact @aa _ bY)
  have hpl:(pre++[x]).length≤1048576:=by
   have h1:((pre++[x]).map kT).Nodup:=aX (fun x y h=>fF h) hOk.1
   have h2:((pre++[x]).map kT)⊆es.map (·.1):=fun u hu=>by
    obtain⟨v,hv,rfl⟩:=aaT.1 hu;obtain⟨e',he',h3⟩:=hOk.2 v hv;exact aaT.2 ⟨e',he',h3⟩
   have:=cu h1 h2;simp only[abI]at this;omega
  rw[aaK]at hpl;simp only[aaW,ab8]at hpl;have hm8:maxLen=9223372036854775807:=rfl;have hu:(⟨up ((s.n,[.acc lb.n pre.length])::S.box) s.n [.acc lb.n (pre++[x]).length],up ((lb.n,.arr 1 (pre.map gJ))::S.acc) lb.n (.arr 1 ((pre++[x]).map gJ))⟩:St)=⟨(s.n,[.acc lb.n (pre++[x]).length])::S.box,(lb.n,.arr 1 ((pre++[x]).map gJ))::S.acc⟩:=by exact @aa _ bY
  have hH:=qB (b:=s.n) (l:=lb.n) hT [.acc lb.n (pre++[x]).length] (.arr 1 ((pre++[x]).map gJ));have hK:∀v o,Kp ⟨(s.n,[.acc lb.n pre.length])::S.box,(lb.n,.arr 1 (pre.map gJ))::S.acc⟩ T ⟨up T.box s.n v,up T.acc lb.n o⟩:=fun v o=>wU (by exact @aa _ bY) (by exact @aa _ bY);simp only[jB];refine @aa _ (cL @t1 @u1 @hm8 ?_);have hmap:(pre++[x]).map gJ=pre.map gJ++[.v (.string (tx x))]:=by simp[gJ,dS]
  have hlen':(pre++[x]).length=pre.length+1:=by simp
  rw[hu,hmap,hlen']at hH;rw[hmap];exact⟨by omega,by omega,hH,hK _ _⟩
 ·intro V hV;refine @aa _ (av ?_);exact⟨_,_,.refl _,(Sub.refl _).aN,V,lb,hV,rfl,rfl⟩
theorem CJ(w0:W0){b m clk:Nat}{es:List (Value×DV×Nat)}{S:St}(hb:lk S.box b=some [.mp m])(hm:lk S.acc m=some (.xo (.mp .str es clk)))(hok:fc .str es clk)(hlen:es.length≤1048576):
 ab Tryz.prog w0 97 [.v (.func (.func 99) #[] #[.pointer (some ⟨b,0,none⟩)])] S (fun d S'=>∃(V:List (List UInt8)) (r:FN S.acc),jz es V∧d= .acc r.n V.length∧S'=⟨S.box,(r.n,.arr 1 (V.map gJ))::S.acc⟩):=by
 refine lO [] mx Tryz.func97 rfl rfl (by kernel_rfl) ?_;refine @aa _ (ah @Tryz.ntmps97 ?_);refine aw (v8 w0 hb hm hok hlen) ?_;rintro _ _ ⟨V,r,hV,rfl,rfl⟩;refine @aa _ (av ?_);exact⟨V,r,hV,rfl,rfl⟩
theorem NT(w0:W0){m:Nat}(S:St):ab Tryz.prog w0 53 [.mp m] S (fun d S'=>∃b:FN S.box,d= .v (.func (.func 99) #[] #[.pointer (some ⟨b.n,0,none⟩)])∧S'=⟨(b.n,[.mp m])::S.box,S.acc⟩):=by
 refine lO [] mx Tryz.func53 rfl rfl (by kernel_rfl) ?_;refine @aa _ (ah @Tryz.ntmps53 ?_);intro b;exact⟨b,rfl,rfl⟩
theorem Gs(w0:W0){b m clk:Nat}{es:List (Value×DV×Nat)}{S:St}(hb:lk S.box b=some [.mp m])(hm:lk S.acc m=some (.xo (.mp .str es clk)))(hok:fc .str es clk)(hlen:es.length≤1048576):
 ab Tryz.prog w0 52 [.v (.func (.func 99) #[] #[.pointer (some ⟨b,0,none⟩)])] S (fun d S'=>∃(V:List (List UInt8)) (r:FN S.acc),jz es V∧d= .acc r.n V.length∧S'=⟨S.box,(r.n,.arr 1 ((mS V).map gJ))::S.acc⟩):=by
 refine lO [] mx Tryz.func52 rfl rfl (by kernel_rfl) ?_;refine @aa _ (ah @Tryz.ntmps52 ?_);refine aw (CJ w0 hb hm hok hlen) ?_;rintro _ _ ⟨V,r,hV,rfl,rfl⟩;refine @aa _ (av ?_);have hVl:=mw hV;refine .inl (aw (I8 w0 (l:=r.n) (zs:=V) (S:=⟨S.box,(r.n,.arr 1 (V.map gJ))::S.acc⟩) (by simp[lk]) (by omega)) ?_);rintro _ _ ⟨rfl,rfl⟩;refine @aa _ (av ?_);exact⟨V,r,hV,rfl,rfl⟩
end Go.Proofs.YtoepfmhnapedoaaGreatDoor
namespace Go.Proofs.YtoepfmhnapedoaaGreatDoor
open Aml Go
theorem OT{a b:List Int}(h1:a.Pairwise (·≤·))(h2:a.Perm b):uW b=a:=by
 have hb:(uW b).Pairwise (·≤·):=by
  have:=List.pairwise_mergeSort (le:=fun x y:Int=>decide (x≤y)) (by intro a b c;simp;omega) (by intro a b;simp;omega) b;exact this.imp fun h=>by simpa using h
 exact(h2.trans (adq b _).symm).symm.eq_of_pairwise (fun a b _ _ h k=>Int.le_antisymm h k) hb h1
theorem KW{es:List (Value×DV×Nat)}{V sn:List Int}(hV:sy es V)(hes:∀x,aT es (kI x)=if x∈sn then some (dI 1)else none)(hr:sn.Pairwise (·<·)):uW V=sn:=by
 refine OT (hr.imp fun h=>Int.le_of_lt h) ((List.perm_ext_iff_of_nodup (hr.imp fun h=>by omega) hV.1.1).2 fun x=>?_);have h1:=hes x;constructor
 ·intro hx;rw[if_pos hx]at h1;obtain⟨bn,hm⟩:=oW h1;obtain⟨v,hv,e⟩:=hV.2 _ hm;unfold kI at e;cases e;exact hv
 ·intro hx;obtain⟨e,he,hk⟩:=hV.1.2 x hx;by_cases hn:x∈sn
  ·exact hn
  ·rw[if_neg hn]at h1;exact absurd hk (gv.1 h1 e he)
theorem Sa(w0:W0){S:St}{t l1 l2:Nat}{es1:List (Value×DV×Nat)}{c1:Nat}{es2:List (Value×DV×Nat)}{c2:Nat}(h:vJ S t l1 l2 es1 c1 es2 c2)(lv n:Int)(b m:Nat)(hg:aT es2 (r8 lv n)=some (bC b))(la:Int)(es:List (Value×DV×Nat))(c:Nat)
 (hb:lk S.box b=some [dI la,.mp m]) (hm:lk S.acc m=some (.xo (.mp (.int .i64) es c))) (sn:List Int) (hes:∀x,aT es (kI x)=if x∈sn then some (dI 1)else none) (hr:sn.Pairwise (·<·)) (hl:es.length≤1048576):
 ab Tryz.prog w0 153 [bC t,CS lv n] S (fun d S'=>d=dL sn∧S'=S):=by
 have ho:=fun T (hT:vJ T t l1 l2 es1 c1 es2 c2)=>Q4 w0 hT lv n (some b) hg;refine gV hm fun hok=>?_;refine bI [] mx Tryz.func153 rfl rfl (by kernel_rfl) ?_;refine @aa _ (ah @Tryz.ntmps153 ?_);intro b3;refine aq (ho _ ⟨by exact @aa _ (ft @h.tb),h.m1,h.m2⟩) ?_;unfold xV;refine @aa _ (ah @hb ?_);refine aw (TG w0 _) ?_;rintro _ _ ⟨b4,rfl,rfl⟩;refine @aa _ (av ?_);refine aw (Lb w0 (b:=b4.n) (m:=m) (clk:=c) (es:=es) (by simp[lk]) hm hok hl) ?_;rintro _ _ ⟨V,r,hV,rfl,rfl⟩;have hs:=KW hV hes hr;rw[hs];refine @aa _ (av ?_);rw[←hs];exact n9 V
theorem MK(w0:W0){S:St}{t l1 l2:Nat}{es1:List (Value×DV×Nat)}{c1:Nat}{es2:List (Value×DV×Nat)}{c2:Nat}(h:vJ S t l1 l2 es1 c1 es2 c2)(lv n:Int)(hg:aT es2 (r8 lv n)=none):
 ab Tryz.prog w0 153 [bC t,CS lv n] S (fun d S'=>d=dL []∧S'=S):=by
 have ho:=fun T (hT:vJ T t l1 l2 es1 c1 es2 c2)=>Q4 w0 hT lv n none hg;refine bI [] mx Tryz.func153 rfl rfl (by kernel_rfl) ?_;refine @aa _ (ah @Tryz.ntmps153 ?_);intro b3;refine aq (ho _ ⟨by exact @aa _ (ft @h.tb),h.m1,h.m2⟩) ?_;unfold xV;exact @aa _ bY
theorem lF{α:Type}{p:α→Bool}:∀{l:List α} {i:Nat} {a b:α},l[i]? =some a→p b=p a→(l.set i b).findIdx p=l.findIdx p
 |[],i,a,b,h,_=>by simp at h
 |x::l,0,a,b,h,e=>by
  cases h;rw[List.set_cons_zero,adY,adY,e]
 |x::l,i+1,a,b,h,e=>by
  rw[List.set_cons_succ,adY,adY,lF (l:=l) (by simpa using h) e]
theorem l6{α:Type}{p:α→Bool}:∀{l:List α} {i:Nat} {a b:α},l[i]? =some a→p b=p a→(l.set i b).countP p=l.countP p
 |[],i,a,b,h,_=>by simp at h
 |x::l,0,a,b,h,e=>by
  cases h;rw[List.set_cons_zero,List.countP_cons,List.countP_cons,e]
 |x::l,i+1,a,b,h,e=>by
  rw[List.set_cons_succ,List.countP_cons,List.countP_cons,l6 (l:=l) (by simpa using h) e]
theorem Af(l:List RH)(lv:Int){i j:Nat}(h:i≤j):ic (l.take i) lv≤ic (l.take j) lv:=by
 have:l.take i=(l.take j).take i:=by rw[List.take_take,adA h]
 rw[this];exact(List.take_sublist _ _).countP_le
structure mH(w:List RH):Prop where
 num:∀(i:Nat) s,w[i]? =some s→s.n=(ic (w.take i) s.lv:Int)+1
 up:∀s,s∈w→s.sn.Pairwise (·<·)
 Qk:∀s,s∈w→∀x,x∈s.sn→1≤x∧x≤s.last
 la:∀s,s∈w→0≤s.last
theorem mH.nil:mH []:=⟨fun i s h=>by simp at h,fun s h=>by simp at h,fun s h=>by simp at h,fun s h=>by simp at h⟩
theorem mH.le{w:List RH}(h:mH w){i:Nat}{s:RH}(hs:w[i]? =some s):1≤s.n∧s.n≤ic w s.lv:=by
 have h1:=h.num i s hs;have h2:=th (lv:=s.lv) hs;rw[if_pos rfl]at h2;have h3:=Af w s.lv (i:=i+1) (j:=w.length) (by have:=(aad.1 hs).1;omega);rw[List.take_length]at h3;omega
theorem mH.uq{w:List RH}(h:mH w){i j:Nat}{s r:RH}(hs:w[i]? =some s)(hr:w[j]? =some r)(e1:s.lv=r.lv)(e2:s.n=r.n):i=j:=by
 have key:∀{i j:Nat} {s r:RH},w[i]? =some s→w[j]? =some r→s.lv=r.lv→i<j→s.n<r.n:=fun{i j s r} hs hr e1 hij=>by
  have h1:=h.num i s hs;have h2:=h.num j r hr;have h3:=th (lv:=s.lv) hs;rw[if_pos rfl]at h3;have h4:=Af w s.lv (i:=i+1) (j:=j) (by omega);rw[←e1]at h2;omega
 rcases acU i j with q|q|q
 ·have:=key hs hr e1 q;omega
 ·exact q
 ·have:=key hr hs e1.symm q;omega
theorem lg{lv n:Int}{s:RH}:uH lv n s=true↔s.lv=lv∧s.n=n∧s.gone=false:=by
 unfold uH;simp[and_assoc]
theorem eE{w:List RH}{lv n:Int}{s:RH}(h:w[dm w lv n]? =some s):s.lv=lv∧s.n=n∧s.gone=false:=by
 obtain⟨c,hc,h2⟩:=nI (aad.1 h).1;rw[h]at hc;cases hc;exact lg.1 h2
theorem mH.set{w:List RH}(h:mH w){i:Nat}{s r:RH}(hs:w[i]? =some s)(e1:r.lv=s.lv)(e2:r.n=s.n)(h1:r.sn.Pairwise (·<·))(h2:∀x,x∈r.sn→1≤x∧x≤r.last)(h3:0≤r.last):mH (w.set i r):=by
 have hm:∀a,a∈w.set i r→a∈w∨a=r:=fun a ha=>acN ha;refine⟨fun j a ha=>?_,fun a ha=>(hm a ha).elim (h.up a) fun e=>e▸h1,fun a ha=>(hm a ha).elim (h.Qk a) fun e=>e▸h2,fun a ha=>(hm a ha).elim (h.la a) fun e=>e▸h3⟩
 have hc:∀lv,ic ((w.set i r).take j) lv=ic (w.take j) lv:=fun lv=>by
  rcases abz i j with q|q
  ·rw[List.take_set];refine l6 (a:=s) (by rw[List.getElem?_take_of_lt q];exact hs) ?_;rw[e1]
  ·rw[List.take_set_of_le q]
 rw[hc];by_cases q:i=j
 ·subst q;rw[abZ (aad.1 hs).1]at ha;cases ha;rw[e2,e1];exact h.num i s hs
 ·rw[ab5 q]at ha;exact h.num j a ha
theorem mH.op{w:List RH}(h:mH w)(lv:Int):mH (oB w lv).1:=by
 have hm:∀a,a∈(oB w lv).1→a∈w∨a=⟨lv,(ic w lv:Int)+1,[],0,false⟩:=fun a ha=>by
  unfold oB at ha;rcases aaD.1 ha with q|q
  ·exact .inl q
  ·exact .inr (aau.1 q)
 refine⟨fun j a ha=>?_,fun a ha=>(hm a ha).elim (h.up a) fun e=>e▸List.Pairwise.nil,fun a ha=>(hm a ha).elim (h.Qk a) fun e=>e▸fun x hx=>(by cases hx),fun a ha=>(hm a ha).elim (h.la a) fun e=>e▸adU _⟩;unfold oB at ha ⊢;simp only at ha ⊢;rcases acU j w.length with q|q|q
 ·rw[abE q]at ha;rw[List.take_append_of_le_length (by omega)];exact h.num j a ha
 ·subst q;rw[abl (aar _),ad0]at ha;cases ha;rw[List.take_left]
 ·rw[abl (by omega)]at ha;have:¬j-w.length=0:=by omega
  cases hj:j-w.length with
  |zero=>omega
  |succ k=>rw[hj]at ha;simp at ha
theorem mH.cl{w:List RH}(h:mH w)(lv n:Int):mH (oy w lv n).1:=by
 unfold oy;split
 ·rename_i q;obtain⟨s,hs,_⟩:=nI q;obtain⟨e1,e2,_⟩:=eE hs;exact h.set hs e1.symm e2.symm List.Pairwise.nil (fun x hx=>by cases hx) (adU _)
 ·exact h
theorem mH.sn{w:List RH}(h:mH w)(lv n:Int):mH (oz w lv n).1:=by
 unfold oz;split
 ·rename_i s hs;have hm:=aaf hs;have h1:=h.la s hm;refine h.set hs rfl rfl ?_ (fun x hx=>?_) (by unfold Kc;simp only;omega)
  ·unfold Kc;simp only;rw[adl]
   exact⟨h.up s hm,adN _ _,fun x hx y hy=>by
    rw[aau.1 hy];have:=(h.Qk s hm x hx).2;omega⟩
  ·unfold Kc at hx ⊢;simp only at hx ⊢;rcases aaD.1 hx with q|q
   ·have:=h.Qk s hm x q;omega
   ·rw[aau.1 q];omega
 ·exact h
theorem mH.un{w:List RH}(h:mH w)(lv n x:Int):mH (oA w lv n x).1:=by
 unfold oA;split
 ·rename_i s hs;have hm:=aaf hs;split
  ·exact h
  ·exact h.set hs rfl rfl ((h.up s hm).sublist List.filter_sublist) (fun y hy=>h.Qk s hm y ((abO.1 hy).1)) (h.la s hm)
 ·exact h
theorem PT{w:List RH}(hw:mH w)(lv lv' n':Int):dm (oB w lv).1 lv' n'=if dm w lv' n'<w.length then dm w lv' n' else if lv'=lv∧n'=(ic w lv:Int)+1 then w.length else w.length+1:=by
 unfold oB dm;simp only;rw[List.findIdx_append];split
 ·rfl
 ·rw[adY,List.findIdx_nil];by_cases q:lv'=lv∧n'=(ic w lv:Int)+1
  ·rw[if_pos q];have:uH lv' n' ⟨lv,(ic w lv:Int)+1,[],0,false⟩=true:=lg.2 ⟨q.1.symm,q.2.symm,rfl⟩;rw[this];simp
  ·rw[if_neg q]
   have:uH lv' n' ⟨lv,(ic w lv:Int)+1,[],0,false⟩=false:=by
    rw[←ads,lg];exact fun⟨a,b,_⟩=>q ⟨a.symm,b.symm⟩
   rw[this];simp;omega
theorem Ke{w:List RH}(hw:mH w)(lv:Int):dm w lv ((ic w lv:Int)+1)=w.length:=by
 refine xe fun j a ha=>?_;rw[←ads,lg];rintro⟨e1,e2,_⟩;have:=(hw.le ha).2;rw[e1]at this;omega
theorem Ds{w:List RH}{i:Nat}{s r:RH}(hs:w[i]? =some s)(e1:r.lv=s.lv)(e2:r.n=s.n)(e3:r.gone=s.gone)(lv n:Int):dm (w.set i r) lv n=dm w lv n:=
 lF hs (by unfold uH;rw[e1,e2,e3])
theorem PU{w:List RH}(hw:mH w){lv n:Int}(h:dm w lv n<w.length)(lv' n':Int):dm (oy w lv n).1 lv' n'=if lv'=lv∧n'=n then w.length else dm w lv' n':=by
 unfold oy;rw[if_pos h];obtain⟨s,hs,_⟩:=nI h;obtain⟨e1,e2,e3⟩:=eE hs;simp only;split
 ·rename_i q;obtain⟨rfl,rfl⟩:=q;have hl:w.length=(w.set (dm w lv' n') ⟨lv',n',[],0,true⟩).length:=by rw[acZ]
  rw[hl];refine xe fun j a ha=>?_;rw[←ads,lg];rintro⟨a1,a2,a3⟩;by_cases q:dm w lv' n'=j
  ·rw[←q,abZ h]at ha;cases ha;cases a3
  ·rw[ab5 q]at ha;exact q (hw.uq hs ha (by rw[e1,a1]) (by rw[e2,a2]))
 ·rename_i q;refine lF hs ?_
  have x1:uH lv' n' ⟨lv,n,[],0,true⟩=false:=by
   rw[←ads,lg];rintro⟨_,_,q3⟩;cases q3
  have x2:uH lv' n' s=false:=by
   rw[←ads,lg];rintro⟨q1,q2,_⟩;exact q ⟨by rw[←q1,e1],by rw[←q2,e2]⟩
  rw[x1,x2]
theorem wo{w:List RH}{i:Nat}{s r:RH}(hs:w[i]? =some s)(e1:r.lv=s.lv)(lv:Int):ic (w.set i r) lv=ic w lv:=l6 hs (by rw[e1])
theorem Qj(w:List RH)(lv lv':Int):ic (oB w lv).1 lv'=ic w lv'+if lv=lv' then 1 else 0:=by
 unfold oB ic;simp only;rw[List.countP_append];congr 1;by_cases e:lv=lv' <;>simp[e]
theorem PR(w:List RH)(lv n lv':Int):ic (oy w lv n).1 lv'=ic w lv':=by
 unfold oy;split
 ·rename_i q;obtain⟨s,hs,_⟩:=nI q;exact wo hs (eE hs).1.symm _
 ·rfl
theorem Wd(w:List RH)(lv n lv':Int):ic (oz w lv n).1 lv'=ic w lv':=by
 unfold oz;split
 ·rename_i s hs;exact wo (r:=Kc s) hs rfl _
 ·rfl
theorem Vw(w:List RH)(lv n x lv':Int):ic (oA w lv n x).1 lv'=ic w lv':=by
 unfold oA;split
 ·rename_i s hs;split
  ·rfl
  ·exact wo (r:=⟨s.lv,s.n,pX x s.sn,s.last,s.gone⟩) hs rfl _
 ·rfl
theorem DR(w:List RH)(lv:Int):(oB w lv).1.length=w.length+1:=by unfold oB;simp
theorem DS(w:List RH)(lv n:Int):(oy w lv n).1.length=w.length:=by unfold oy;split <;>simp
theorem NJ(w:List RH)(lv n:Int):(oz w lv n).1.length=w.length:=by unfold oz;split <;>simp
theorem M5(w:List RH)(lv n x:Int):(oA w lv n x).1.length=w.length:=by
 unfold oA;split
 ·split <;>simp
 ·rfl
def rK(w:List RH)(k:Int):Prop:=∀s,s∈w→s.last≤k
theorem rK.op{w:List RH}{k:Int}(h:rK w k)(hk:0≤k)(lv:Int):rK (oB w lv).1 (k+1):=fun a ha=>by
 unfold oB at ha;rcases aaD.1 ha with q|q
 ·have:=h a q;omega
 ·rw[aau.1 q];show(0:Int)≤k+1;omega
theorem rK.set{w:List RH}{k:Int}(h:rK w k){i:Nat}{r:RH}(hr:r.last≤k+1):rK (w.set i r) (k+1):=fun a ha=>by
 rcases acN ha with q|q
 ·have:=h a q;omega
 ·rw[q];exact hr
theorem rK.up{w:List RH}{k:Int}(h:rK w k):rK w (k+1):=fun a ha=>by have:=h a ha;omega
theorem rK.cl{w:List RH}{k:Int}(h:rK w k)(hk:0≤k)(lv n:Int):rK (oy w lv n).1 (k+1):=by
 unfold oy;split
 ·exact h.set (by show(0:Int)≤k+1;omega)
 ·exact h.up
theorem rK.sn{w:List RH}{k:Int}(h:rK w k)(lv n:Int):rK (oz w lv n).1 (k+1):=by
 unfold oz;split
 ·rename_i s hs;have:=h s (aaf hs);exact h.set (by unfold Kc;simp only;omega)
 ·exact h.up
theorem rK.un{w:List RH}{k:Int}(h:rK w k)(lv n x:Int):rK (oA w lv n x).1 (k+1):=by
 unfold oA;split
 ·rename_i s hs;have:=h s (aaf hs);split
  ·exact h.up
  ·exact h.set (by simp only;omega)
 ·exact h.up
structure fI where
 t:Nat
 l1:Nat
 l2:Nat
 ids:List (Nat×Nat)
def fI.bx(θ:fI):List Nat:=θ.t::θ.ids.map (·.1)
def fI.ax(θ:fI):List Nat:=θ.l1::θ.l2::θ.ids.map (·.2)
def Wx(S:St)(p:Nat×Nat)(s:RH):Prop:=∃es c,lk S.box p.1=some [dI s.last,.mp p.2]∧lk S.acc p.2=some (.xo (.mp (.int .i64) es c))∧∀x,aT es (kI x)=if x∈s.sn then some (dI 1)else none
structure TI(S:St)(θ:fI)(w:List RH):Prop where
 ok:mH w
 len:θ.ids.length=w.length
 UQ:θ.bx.Nodup
 F1:θ.ax.Nodup
 ny:∀c,c∈θ.bx→lk S.box c≠none
 xn:∀c,c∈θ.ax→lk S.acc c≠none
 tb:∃es1 c1 es2 c2,vJ S θ.t θ.l1 θ.l2 es1 c1 es2 c2∧(∀lv,aT es1 (.int .i64 lv)=if ic w lv=0 then none else some (dI (ic w lv)))∧∀lv n,aT es2 (r8 lv n)=(θ.ids[dm w lv n]?).map fun p=>bC p.1
 az:∀(i:Nat) s p,w[i]? =some s→s.gone=false→θ.ids[i]? =some p→Wx S p s
theorem TI.mono{S S':St}{θ:fI}{w:List RH}(h:TI S θ w)(hb:∀c x,c∈θ.bx→lk S.box c=some x→lk S'.box c=some x)(ha:∀c x,c∈θ.ax→lk S.acc c=some x→lk S'.acc c=some x):TI S' θ w:=by
 obtain⟨es1,c1,es2,c2,h1,h2,h3⟩:=h.tb
 have nn:∀{α:Type} {o:Option α},o≠none→∃x,o=some x:=fun{α o} q=>by cases o with
  |none=>exact absurd rfl q
  |some x=>exact⟨x,rfl⟩
 refine⟨h.ok,h.len,h.UQ,h.F1,fun c hc=>?_,fun c hc=>?_,⟨es1,c1,es2,c2,⟨hb _ _ (aaQ ..) h1.tb,ha _ _ (aaQ ..) h1.m1,ha _ _ (aat _ (aaQ ..)) h1.m2⟩,h2,h3⟩,fun i s p hs hg hp=>?_⟩
 ·obtain⟨x,hx⟩:=nn (h.ny c hc);rw[hb c x hc hx];exact fun q=>by cases q
 ·obtain⟨x,hx⟩:=nn (h.xn c hc);rw[ha c x hc hx];exact fun q=>by cases q
 ·obtain⟨es,c,q1,q2,q3⟩:=h.az i s p hs hg hp;have hm:=aaf hp;exact⟨es,c,hb _ _ (aat _ (abL hm)) q1,ha _ _ (aat _ (aat _ (abL hm))) q2,q3⟩
theorem ai{α:Type}{L:List (Nat×α)}{b c:Nat}{x y:α}(hb:lk L b=none)(h:lk L c=some x):lk ((b,y)::L) c=some x:=by
 simp only[lk];rw[if_neg (fun e=>by rw[e,h]at hb;cases hb)];exact h
theorem Ls{α:Type}{L:List (Nat×α)}{b c:Nat}{y:α}(hb:¬b=c)(h:lk L c=none):lk ((b,y)::L) c=none:=by
 simp only[lk];rw[if_neg hb];exact h
theorem TI.aN{B:List (Nat×List DV)}{A:List (Nat×Ob)}{θ:fI}{w:List RH}(h:TI ⟨B,A⟩ θ w){b:Nat}(hb:lk B b=none)(ds:List DV):TI ⟨(b,ds)::B,A⟩ θ w:=h.mono (fun c x _ hc=>ai hb hc) fun c x _ hc=>hc
structure yi(S S':St)(θ θ':fI):Prop where
 t:θ'.t=θ.t
 box:∀c x,c∉θ.bx→lk S.box c=some x→lk S'.box c=some x
 acc:∀c x,c∉θ.ax→lk S.acc c=some x→lk S'.acc c=some x
 nb:∀c,c∈θ'.bx→c∈θ.bx∨lk S.box c=none
 na:∀c,c∈θ'.ax→c∈θ.ax∨lk S.acc c=none
theorem yi.refl(S:St)(θ:fI):yi S S θ θ:=⟨rfl,fun _ _ _ h=>h,fun _ _ _ h=>h,fun _ h=> .inl h,fun _ h=> .inl h⟩
structure Dj(θ φ:fI):Prop where
 b:∀c,c∈θ.bx→c∉φ.bx
 a:∀c,c∈θ.ax→c∉φ.ax
theorem Dj.symm{θ φ:fI}(h:Dj θ φ):Dj φ θ:=⟨fun c h1 h2=>h.b c h2 h1,fun c h1 h2=>h.a c h2 h1⟩
theorem Dj.step{θ θ' φ:fI}{S S':St}{w:List RH}(h:Dj θ φ)(hf:yi S S' θ θ')(hφ:TI S φ w):Dj θ' φ:=⟨fun c h1 h2=>(hf.nb c h1).elim (fun q=>h.b c q h2) fun q=>hφ.ny c h2 q,fun c h1 h2=>(hf.na c h1).elim (fun q=>h.a c q h2) fun q=>hφ.xn c h2 q⟩
theorem TI.other{θ θ' φ:fI}{S S':St}{w:List RH}(hφ:TI S φ w)(h:Dj θ φ)(hf:yi S S' θ θ'):TI S' φ w:=hφ.mono (fun c x hc=>hf.box c x fun q=>h.b c q hc) fun c x hc=>hf.acc c x fun q=>h.a c q hc
theorem C5{lv n lv' n':Int}(h:r8 lv n=r8 lv' n'):lv=lv'∧n=n':=by
 unfold r8 at h;simpa using h
theorem TI.get{S:St}{θ:fI}{w:List RH}(h:TI S θ w)(lv n:Int):(∃s p,w[dm w lv n]? =some s∧θ.ids[dm w lv n]? =some p∧dm w lv n<w.length)∨(w[dm w lv n]? =none∧θ.ids[dm w lv n]? =none∧¬dm w lv n<w.length):=by
 have hl:=h.len;rcases abz (dm w lv n) w.length with q|q
 ·exact .inl ⟨_,_,aac q,aac (by omega),q⟩
 ·exact .inr ⟨aaS q,aaS (by omega),by omega⟩
theorem YH(w0:W0){S:St}{θ:fI}{w:List RH}(h:TI S θ w)(lv n:Int):ab Tryz.prog w0 37 [bC θ.t,CS lv n] S (fun d S'=>d=dB (decide (dm w lv n<w.length))∧S'=S):=by
 obtain⟨es1,c1,es2,c2,h1,h2,h3⟩:=h.tb;rcases h.get lv n with⟨s,p,q1,q2,q3⟩|⟨q1,q2,q3⟩
 ·have:=Uo w0 h1 lv n (some p.1) (by rw[h3,q2];rfl);rw[decide_eq_true q3];exact this
 ·have:=Uo w0 h1 lv n none (by rw[h3,q2];rfl);rw[decide_eq_false q3];exact this
theorem xp{S:St}{θ:fI}{w:List RH}{k:Int}(h:TI S θ w)(hk:rK w k){s:RH}(hs:s∈w):(s.sn.length:Int)≤k:=by
 have h1:∀(l:List Int) (a b:Int),l.Pairwise (·<·)→a≤b+1→(∀x,x∈l→a≤x∧x≤b)→(l.length:Int)≤b-a+1:=fun l=>by
  induction l with
  |nil=>intro a b _ h1 _;simp only[ab8];omega
  |cons y l ih=>
   intro a b hp _ hx;rw[acD]at hp;have hy:=hx y (aaQ ..);have:=ih (y+1) b hp.2 (by omega) fun x hx'=>⟨by have:=hp.1 x hx';omega,(hx x (aat _ hx')).2⟩;simp only[aaW];omega
 have:=h1 s.sn 1 s.last (h.ok.up s hs) (by have:=h.ok.la s hs;omega) (h.ok.Qk s hs);have:=hk s hs;omega
theorem Sn(w0:W0){S:St}{θ:fI}{w:List RH}(h:TI S θ w){k:Int}(hk:rK w k)(hk2:k≤1000000)(lv n:Int):ab Tryz.prog w0 153 [bC θ.t,CS lv n] S (fun d S'=>d=dL (lL w lv n)∧S'=S):=by
 obtain⟨es1,c1,es2,c2,h1,h2,h3⟩:=h.tb;unfold lL;rcases h.get lv n with⟨s,p,q1,q2,q3⟩|⟨q1,q2,q3⟩
 ·obtain⟨es,c,r1,r2,r3⟩:=h.az _ s p q1 (eE q1).2.2 q2;have hm:=aaf q1;rw[q1];refine gV r2 fun hok=>?_
  have hle:es.length≤s.sn.length:=by
   have:es.map (·.1)⊆s.sn.map kI:=fun u hu=>by
    obtain⟨e,he,rfl⟩:=aaT.1 hu;obtain⟨a,ha⟩:=y9 (hok.key e he);have:=r3 a;by_cases q:a∈s.sn
    ·rw[ha];exact abL q
    ·rw[if_neg q]at this;exact absurd ha (gv.1 this e he)
   have:=cu hok.nd this;simpa using this
  have:=xp h hk hm;exact Sa w0 h1 lv n p.1 p.2 (by rw[h3,q2];rfl) s.last es c r1 r2 s.sn r3 (h.ok.up s hm) (by omega)
 ·rw[q1];exact MK w0 h1 lv n (by rw[h3,q2];rfl)
theorem U4(w0:W0)(S:St):ab Tryz.prog w0 31 [] S (fun d S'=>∃θ,d=bC θ.t∧TI S' θ []∧(∀c x,lk S.box c=some x→lk S'.box c=some x)∧(∀c x,lk S.acc c=some x→lk S'.acc c=some x)∧(∀c,c∈θ.bx→lk S.box c=none)∧∀c,c∈θ.ax→lk S.acc c=none):=by
 refine(Zq w0 S).mono ?_;rintro d S' ⟨l1,l2,t,rfl,rfl⟩;have f1:=ao l1;have f2:=ao l2;have f3:=ao t;have hne:¬l1.n=l2.n:=fun e=>by rw[←e]at f2;simp[lk]at f2
 have hne':¬l2.n=l1.n:=fun e=>hne e.symm
 have f4:lk S.acc l2.n=none:=by
  simp only[lk]at f2;rw[if_neg hne]at f2;exact f2
 refine⟨⟨t.n,l1.n,l2.n,[]⟩,rfl,⟨mH.nil,rfl,?_,?_,?_,?_,⟨[],0,[],0,⟨?_,?_,?_⟩,fun lv=>by simp[ic,aT],fun lv n=>by simp[aT]⟩,fun i s p hs=>by simp at hs⟩,fun c x hc=>ai f3 hc,fun c x hc=>ai (Ls hne f4) (ai f1 hc),?_,?_⟩
 ·simp[fI.bx]
 ·simp[fI.ax,hne]
 ·intro c hc;simp[fI.bx]at hc;subst hc;simp[lk]
 ·intro c hc;simp[fI.ax]at hc;rcases hc with rfl|rfl <;>simp[lk,hne']
 ·simp[lk]
 ·simp[lk,hne']
 ·simp[lk]
 ·intro c hc;simp[fI.bx]at hc;subst hc;exact f3
 ·intro c hc;simp[fI.ax]at hc;rcases hc with rfl|rfl
  ·exact f1
  ·exact f4
end Go.Proofs.YtoepfmhnapedoaaGreatDoor
namespace Go.Proofs.YtoepfmhnapedoaaGreatDoor
open Aml Go Rn
theorem D2(a b c:List UInt8)(h:decide (a≤b)=true)(k:decide (b≤c)=true):decide (a≤c)=true:=by
 simp only[decide_eq_true_eq]at*;exact List.le_trans h k
theorem Fx(a b:List UInt8):(decide (a≤b)||decide (b≤a))=true:=by
 rw[acx,decide_eq_true_eq,decide_eq_true_eq];exact List.le_total a b
theorem lR(l:List (List UInt8)):(mS l).Pairwise (·≤·):=
 (List.pairwise_mergeSort (le:=fun x y:List UInt8=>decide (x≤y)) D2 Fx l).imp fun h=>by simpa using h
theorem FG{a b:List (List UInt8)}(h:a.Perm b):mS a=mS b:=
 (((adq a _).trans h).trans (adq b _).symm).eq_of_pairwise (fun a b _ _ h k=>List.le_antisymm h k) (lR a) (lR b)
noncomputable def dp{α:Type}(f:List UInt8→Option α):List (List UInt8):=open Classical in if h:∃V:List (List UInt8),V.Nodup∧∀k,k∈V↔f k≠none then mS h.choose else []
theorem s7{α:Type}{f:List UInt8→Option α}{V:List (List UInt8)}(hn:V.Nodup)(hm:∀k,k∈V↔f k≠none):dp f=mS V:=by
 have h:∃V:List (List UInt8),V.Nodup∧∀k,k∈V↔f k≠none:=⟨V,hn,hm⟩;unfold dp;rw[dif_pos h];exact FG ((List.perm_ext_iff_of_nodup h.choose_spec.1 hn).2 fun k=>(h.choose_spec.2 k).trans (hm k).symm)
theorem Oy{es:List (Value×DV×Nat)}{e:Value×DV×Nat}(h:(es.map (·.1)).Nodup)(he:e∈es):aT es e.1=some e.2.1:=by
 obtain⟨j,hj⟩:=abv.1 he;exact Di h hj
theorem xN{α:Type}{f:List UInt8→Option α}{d:α→DV}{es:List (Value×DV×Nat)}{V:List (List UInt8)}(hV:jz es V)(h:∀k,aT es (kT k)=(f k).map d)(k:List UInt8):k∈V↔f k≠none:=by
 constructor
 ·intro hk hf;obtain⟨e,he,e1⟩:=hV.1.2 k hk;have h1:=h k;rw[hf]at h1;exact gv.1 h1 e he e1
 ·intro hf;obtain⟨x,hx⟩:=abr.1 hf;have h1:=h k;rw[hx]at h1;obtain⟨b,hm⟩:=oW h1;obtain⟨v,hv,e⟩:=hV.2 _ hm;rw[fF e];exact hv
theorem SG{α:Type}{f:List UInt8→Option α}{d:α→DV}{es:List (Value×DV×Nat)}{V:List (List UInt8)}(hV:jz es V)(h:∀k,aT es (kT k)=(f k).map d):mS V=dp f:=(s7 hV.1.1 (xN hV h)).symm
def IM(S:St)(l N:Nat)(f:List UInt8→Option (List UInt8)):Prop:=∃es c,lk S.acc l=some (.xo (.mp .str es c))∧es.length≤N∧∀k,aT es (kT k)=(f k).map gJ
structure BM(S:St)(l N:Nat)(ids:List UInt8→Option Nat)(F:List UInt8→Option (List UInt8→Option (List UInt8))):Prop where
 top:∃es c,lk S.acc l=some (.xo (.mp .str es c))∧es.length≤N∧∀n,aT es (kT n)=(ids n).map DV.mp
 some_:∀n,ids n=none↔F n=none
 low:∀n i f,ids n=some i→F n=some f→IM S i N f
 inj:∀n m i,ids n=some i→ids m=some i→n=m
 ne:∀n i,ids n=some i→i≠l
theorem IM.mono{S S':St}{l N:Nat}{f:List UInt8→Option (List UInt8)}(h:IM S l N f)(ha:∀x,lk S.acc l=some x→lk S'.acc l=some x):IM S' l N f:=by
 obtain⟨es,c,h1,h2,h3⟩:=h;exact⟨es,c,ha _ h1,h2,h3⟩
theorem BM.mono{S S':St}{l N:Nat}{ids:List UInt8→Option Nat}{F:List UInt8→Option (List UInt8→Option (List UInt8))}(h:BM S l N ids F)(ha:∀c x,c=l∨(∃n,ids n=some c)→lk S.acc c=some x→lk S'.acc c=some x):BM S' l N ids F:=by
 obtain⟨es,c,h1,h2,h3⟩:=h.top;exact⟨⟨es,c,ha _ _ (.inl rfl) h1,h2,h3⟩,h.some_,fun n i f q1 q2=>(h.low n i f q1 q2).mono fun x=>ha i x (.inr ⟨n,q1⟩),h.inj,h.ne⟩
theorem IM.lk{S:St}{l N:Nat}{f:List UInt8→Option (List UInt8)}(h:IM S l N f):lk S.acc l≠none:=by
 obtain⟨es,c,h1,_⟩:=h;rw[h1];simp
theorem BM.lk{S:St}{l N:Nat}{ids:List UInt8→Option Nat}{F:List UInt8→Option (List UInt8→Option (List UInt8))}(h:BM S l N ids F):lk S.acc l≠none:=by
 obtain⟨es,c,h1,_⟩:=h.top;rw[h1];simp
theorem IX(w0:W0){S:St}{b m N:Nat}{f:List UInt8→Option (List UInt8)}(hb:Aml.lk S.box b=some [.mp m])(h:IM S m N f)(hN:N≤1048576):
 ab Tryz.prog w0 52 [.v (.func (.func 100) #[] #[.pointer (some ⟨b,0,none⟩)])] S (fun d S'=>∃r:FN S.acc,d= .acc r.n (dp f).length∧(dp f).length≤N∧S'=⟨S.box,(r.n,.arr 1 ((dp f).map gJ))::S.acc⟩):=by
 obtain⟨es,c,h1,h2,h3⟩:=h;refine gV h1 fun hok=>(GK w0 hb h1 hok (by omega)).mono ?_;rintro d S' ⟨V,r,hV,rfl,rfl⟩;have e:=SG hV h3;have el:(dp f).length=V.length:=by rw[←e,mI]
 have hl:=mw hV;exact⟨r,by rw[el],by omega,by rw[e]⟩
theorem Un(w0:W0){S:St}{b m N:Nat}{ids:List UInt8→Option Nat}{F:List UInt8→Option (List UInt8→Option (List UInt8))}(hb:Aml.lk S.box b=some [.mp m])(h:BM S m N ids F)(hN:N≤1048576):
 ab Tryz.prog w0 52 [.v (.func (.func 99) #[] #[.pointer (some ⟨b,0,none⟩)])] S (fun d S'=>∃r:FN S.acc,d= .acc r.n (dp F).length∧(dp F).length≤N∧S'=⟨S.box,(r.n,.arr 1 ((dp F).map gJ))::S.acc⟩):=by
 obtain⟨es,c,h1,h2,h3⟩:=h.top;refine gV h1 fun hok=>(Gs w0 hb h1 hok (by omega)).mono ?_;rintro d S' ⟨V,r,hV,rfl,rfl⟩;have e:mS V=dp F:=(s7 hV.1.1 fun k=>(xN hV h3 k).trans (not_congr (h.some_ k))).symm;have el:(dp F).length=V.length:=by rw[←e,mI]
 have hl:=mw hV;exact⟨r,by rw[el],by omega,by rw[e]⟩
theorem Mm{pre:List (List UInt8)}{a:List UInt8}(h:pre.Nodup)(ha:a∉pre):(pre++[a]).Nodup:=by
 rw[acV];exact⟨h,by simp,fun x hx y hy=>by rw[aau.1 hy];rintro rfl;exact ha hx⟩
structure ClS where
 T:St
 pre:List (List UInt8)
 seen:List Nat
 ids:List UInt8→Option Nat
 es:List (Value×DV×Nat)
 c:Nat
structure ClI(S:St)(l N c lo li:Nat)(es:List (Value×DV×Nat))(F:List UInt8→Option (List UInt8→Option (List UInt8)))(s:ClS):Prop where
 box:s.T.box=S.box
 acc:∀i x,lk S.acc i=some x→lk s.T.acc i=some x
 it:lk s.T.acc li=some (.xo (.it l c s.seen c))
 out:lk s.T.acc lo=some (.xo (.mp .str s.es s.c))
 len:s.es.length≤s.pre.length
 ok:sE es s.pre
 Ye:∀e,e∈es→(e.2.2∈s.seen↔∃v,v∈s.pre∧e.1=kT v)
 get:∀n,aT s.es (kT n)=(s.ids n).map DV.mp
 ZZ:∀n,s.ids n≠none↔n∈s.pre
 low:∀n i,s.ids n=some i→lk S.acc i=none∧i≠lo∧i≠li∧∀f,F n=some f→IM s.T i N f
 inj:∀n m i,s.ids n=some i→s.ids m=some i→n=m
 mU:∀n i,s.ids n=some i→lk s.T.acc i≠none
theorem tG(es:List (Value×DV×Nat))(clk:Nat)(k:Value)(d:DV):(ep es clk k d).length≤es.length+1:=by
 unfold ep;split <;>simp
theorem JY(w0:W0){S:St}{l N:Nat}{ids:List UInt8→Option Nat}{F:List UInt8→Option (List UInt8→Option (List UInt8))}(h:BM S l N ids F)(hN:N≤1048576):
 ab Tryz.prog w0 120 [.mp l] S (fun d S'=>∃l' ids',d= .mp l'∧BM S' l' N ids' F∧S'.box=S.box∧(∀c x,lk S.acc c=some x→lk S'.acc c=some x)∧lk S.acc l'=none∧∀n i,ids' n=some i→lk S.acc i=none):=by
 obtain⟨es,c,h1,h2,h3⟩:=h.top;refine gV h1 fun hok=>?_;refine lO [] mx Tryz.func120 rfl rfl (by kernel_rfl) ?_;refine @aa _ (cK @Tryz.ntmps120 @h1 ?_);intro lo li;have hlo:lk S.acc lo.n=none:=ao lo;have hli0:=ao li
 have hlne:¬li.n=lo.n:=fun e=>by
  rw[e]at hli0;simp[lk]at hli0
 have hli:lk S.acc li.n=none:=by
  simp only[lk]at hli0;rw[if_neg (fun e=>hlne e.symm)]at hli0;exact hli0
 refine fZ [] [3,8] (σ:=ClS) (fun s=>[]) (fun s=>s.T) (ClI S l N c lo.n li.n es F) (fun s=>es.length-s.pre.length) ⟨⟨S.box,(li.n,.xo (.it l c [] c))::(lo.n,.xo (.mp .str [] 0))::S.acc⟩,[],[],fun _=>none,[],0⟩ mx (by kernel_rfl) ⟨?_,?_⟩ ?_
 ·refine⟨rfl,fun i x hx=>?_,by simp[lk],?_,aar _,⟨acT,fun v hv=>by cases hv⟩,fun e _=>⟨fun h=>(by cases h),fun⟨v,hv,_⟩=>(by cases hv)⟩,fun n=>by simp[aT],fun n=>by simp,fun n i hi=>(by cases hi),fun n m i hi=>(by cases hi),fun n i hi=>(by cases hi)⟩
  ·show lk ((li.n,_)::(lo.n,_)::S.acc) i=_;simp only[lk];rw[if_neg (fun e=>by rw[e,hx]at hli;cases hli),if_neg (fun e=>by rw[e,hx]at hlo;cases hlo)];exact hx
  ·show lk ((li.n,_)::(lo.n,_)::S.acc) lo.n=_;simp only[lk];rw[if_neg hlne];simp
 ·exact @aa _ bY
 ·intro s hs;have t1:=hs.acc l _ h1;have hit:=hs.it;have hout:=hs.out;refine @aa _ (cL @t1 @hit @hout ?_);refine⟨fun hall=>?_,fun e he hns=>?_⟩
  ·have hV:jz es s.pre:=⟨hs.ok,fun e he=>(hs.Ye e he).1 (hall e he)⟩;have hl1:=mw hV;have hl2:=hs.len;refine⟨lo.n,s.ids,rfl,⟨⟨s.es,s.c,hs.out,by omega,hs.get⟩,fun n=>?_,fun n i f q1 q2=>(hs.low n i q1).2.2.2 f q2,hs.inj,fun n i q=>(hs.low n i q).2.1⟩,hs.box,hs.acc,hlo,fun n i hi=>(hs.low n i hi).1⟩;rw[←h.some_ n];have q1:=hs.ZZ n;have q2:=xN hV h3 n;exact Decidable.not_iff_not.1 (q1.trans q2)
  ·obtain⟨a,ha⟩:=tX (hok.key e he);have hget:aT es (kT a)=some e.2.1:=by rw[←ha];exact Oy hok.nd he
   rw[h3]at hget;obtain⟨i,hi,hei⟩:=aay.1 hget;obtain⟨f,hf⟩:=abr.1 (fun q=>by rw[(h.some_ a).2 q]at hi;cases hi);obtain⟨esi,ci,g1,g2,g3⟩:=h.low a i f hi hf;have hil:¬li.n=i:=fun q=>by rw[←q,hli]at g1;cases g1
   have hol:¬lo.n=i:=fun q=>by rw[←q,hlo]at g1;cases g1
   have hlm:¬li.n=l:=fun q=>by rw[←q,hli]at h1;cases h1
   rw[ae hlm,t1];refine @aa _ (av ?_);refine⟨e,he,⟨s.seen,rfl⟩,?_⟩;rw[←hei,ha];unfold kT;have hc1:lk (up s.T.acc li.n (.xo (.it l c (s.seen++[e.2.2]) c))) i=some (.xo (.mp .str esi ci)):=by rw[ae hil];exact hs.acc _ _ g1
   refine @aa _ (av ?_);refine aw (Rg w0 (l:=i) (kk:= .str) (es:=esi) (c:=ci) hc1) ?_;rintro _ _ ⟨nn,rfl,rfl⟩;have hnn:=ao nn;have hc2:lk (up s.T.acc li.n (.xo (.it l c (s.seen++[e.2.2]) c))) lo.n=some (.xo (.mp .str s.es s.c)):=by rw[ae hlne];exact hs.out
   have hnlo:¬nn.n=lo.n:=fun q=>by rw[q,hc2]at hnn;cases hnn
   refine @aa _ (cK @hnlo @hc2 ?_);have hli1:lk (up s.T.acc li.n (.xo (.it l c (s.seen++[e.2.2]) c))) li.n=some (.xo (.it l c (s.seen++[e.2.2]) c)):=by rw[aM,hit];rfl
   generalize hA1:up s.T.acc li.n (.xo (.it l c (s.seen++[e.2.2]) c))=A1 at*;have hnli:¬nn.n=li.n:=fun q=>by rw[q,hli1]at hnn;cases hnn
   have hA:∀j,¬j=li.n→lk A1 j=lk s.T.acc j:=fun j hj=>by rw[←hA1,ae (fun q=>hj q.symm)]
   generalize hnv:XO.mp KK.str (ep s.es s.c (Value.string (tx a)) (DV.mp nn.n)) (gq s.es s.c (Value.string (tx a)))=nv
   have hT:∀j,¬nn.n=j→¬lo.n=j→lk ((nn.n,Ob.xo (.mp .str esi ci))::up A1 lo.n (.xo nv)) j=lk A1 j:=fun j q1 q2=>by
    simp only[lk];rw[if_neg q1,ae q2]
   have hT0:lk ((nn.n,Ob.xo (.mp .str esi ci))::up A1 lo.n (.xo nv)) nn.n=some (.xo (.mp .str esi ci)):=by simp[lk]
   have hK:∀j x,¬j=li.n→¬lo.n=j→lk s.T.acc j=some x→lk ((nn.n,Ob.xo (.mp .str esi ci))::up A1 lo.n (.xo nv)) j=some x:=fun j x q1 q2 q3=>by
    rw[←hA j q1]at q3;rw[hT j (fun q=>by rw[←q]at q3;rw[show lk A1 nn.n=none from hnn]at q3;cases q3) q2,q3]
   have hnT:lk s.T.acc nn.n=none:=by rw[←hA _ hnli];exact hnn
   have hnew:a∉s.pre:=fun q=>hns ((hs.Ye e he).2 ⟨a,q,ha⟩)
   have hOk':sE es (s.pre++[a]):=⟨Mm hs.ok.1 hnew,fun v hv=>by
    rcases aaD.1 hv with q|q
    ·exact hs.ok.2 v q
    ·rw[aau.1 q];exact⟨e,he,ha⟩⟩
   refine⟨⟨⟨s.T.box,(nn.n,.xo (.mp .str esi ci))::up A1 lo.n (.xo nv)⟩,s.pre++[a],s.seen++[e.2.2],fun n=>if n=a then some nn.n else s.ids n,ep s.es s.c (kT a) (.mp nn.n),gq s.es s.c (kT a)⟩,⟨hs.box,fun j x hj=>?_,?_,?_,?_,hOk',fun e' he'=>?_,fun n=>?_,fun n=>?_,fun n j hj=>?_,fun n m j hn hm=>?_,fun n j hj=>?_⟩,?_,.refl _⟩
   ·exact hK j x (fun q=>by rw[q,hli]at hj;cases hj) (fun q=>by rw[←q,hlo]at hj;cases hj) (hs.acc j x hj)
   ·show lk (_::_) li.n=_;rw[hT li.n hnli (fun q=>hlne q.symm)];exact hli1
   ·show lk (_::_) lo.n=_;simp only[lk];rw[if_neg hnlo,aM,hc2,←hnv];rfl
   ·have q1:=tG s.es s.c (kT a) (.mp nn.n);have q2:=hs.len;simp only[aaK,acQ];omega
   ·constructor
    ·intro q;rcases aaD.1 q with q|q
     ·obtain⟨v,r1,r2⟩:=(hs.Ye e' he').1 q;exact⟨v,acp _ r1,r2⟩
     ·have:e'=e:=fG hok.bn he' he (aau.1 q);rw[this];exact⟨a,by simp,ha⟩
    ·rintro⟨v,r1,r2⟩;rcases aaD.1 r1 with q|q
     ·exact acp _ ((hs.Ye e' he').2 ⟨v,q,r2⟩)
     ·have:e'=e:=fG hok.nd he' he (by rw[r2,ha,aau.1 q]);rw[this];simp
   ·show aT (ep s.es s.c (kT a) (.mp nn.n)) (kT n)=(if n=a then some nn.n else s.ids n).map DV.mp;by_cases q:n=a
    ·rw[if_pos q,q,bD];rfl
    ·rw[if_neg q,cM _ _ (fun r=>q (fF r)),hs.get]
   ·show(if n=a then some nn.n else s.ids n)≠none↔n∈s.pre++[a];by_cases q:n=a
    ·rw[if_pos q];simp[q]
    ·rw[if_neg q,hs.ZZ n];simp[q]
   ·have hj:(if n=a then some nn.n else s.ids n)=some j:=hj;by_cases q:n=a
    ·rw[if_pos q]at hj;cases hj;refine⟨?_,hnlo,hnli,fun f' hf'=>?_⟩
     ·cases hx:lk S.acc nn.n with
      |none=>rfl
      |some x=>rw[hs.acc _ _ hx]at hnT;cases hnT
     ·rw[q,hf]at hf';cases hf';exact⟨esi,ci,hT0,g2,g3⟩
    ·rw[if_neg q]at hj;obtain⟨r1,r2,r3,r4⟩:=hs.low n j hj;exact⟨r1,r2,r3,fun f' hf'=>(r4 f' hf').mono fun x hx=>hK j x r3 (fun q=>r2 q.symm) hx⟩
   ·have hn:(if n=a then some nn.n else s.ids n)=some j:=hn;have hm:(if m=a then some nn.n else s.ids m)=some j:=hm;by_cases q:n=a
    ·rw[if_pos q]at hn;by_cases r:m=a
     ·rw[q,r]
     ·rw[if_neg r]at hm;cases hn;exact absurd hnT (hs.mU m _ hm)
    ·rw[if_neg q]at hn;by_cases r:m=a
     ·rw[if_pos r]at hm;cases hm;exact absurd hnT (hs.mU n _ hn)
     ·rw[if_neg r]at hm;exact hs.inj n m j hn hm
   ·have hj:(if n=a then some nn.n else s.ids n)=some j:=hj;by_cases q:n=a
    ·rw[if_pos q]at hj;cases hj;show lk (_::_) nn.n≠none;rw[hT0];simp
    ·rw[if_neg q]at hj;obtain⟨x,hx⟩:=abr.1 (hs.mU n j hj);obtain⟨r1,r2,r3,r4⟩:=hs.low n j hj;show lk (_::_) j≠none;rw[hK j x r3 (fun q=>r2 q.symm) hx];simp
   ·have hlen:(s.pre++[a]).length≤es.length:=by
     have q1:((s.pre++[a]).map kT).Nodup:=aX (fun x y h=>fF h) hOk'.1
     have q2:((s.pre++[a]).map kT)⊆es.map (·.1):=fun u hu=>by
      obtain⟨v,hv,rfl⟩:=aaT.1 hu;obtain⟨e',he',h3⟩:=hOk'.2 v hv;exact aaT.2 ⟨e',he',h3⟩
     have:=cu q1 q2;simpa using this
    show es.length-(s.pre++[a]).length<es.length-s.pre.length;rw[aaK,acQ]at hlen ⊢;omega
end Go.Proofs.YtoepfmhnapedoaaGreatDoor
namespace Go.Proofs.YtoepfmhnapedoaaGreatDoor
open Aml Go
theorem VM{θ:fI}(h:θ.bx.Nodup){p:Nat×Nat}(hp:p∈θ.ids):¬p.1=θ.t:=fun e=>by
 unfold fI.bx at h;rw[aaV]at h;exact h.1 (e▸abL hp)
theorem HG{θ:fI}(h:θ.ax.Nodup){p:Nat×Nat}(hp:p∈θ.ids):¬p.2=θ.l1:=fun e=>by
 unfold fI.ax at h;rw[aaV]at h;exact h.1 (e▸aat _ (abL hp))
theorem CC{θ:fI}(h:θ.ax.Nodup){p:Nat×Nat}(hp:p∈θ.ids):¬p.2=θ.l2:=fun e=>by
 unfold fI.ax at h;rw[aaV,aaV]at h;exact h.2.1 (e▸abL hp)
theorem wS{θ:fI}(h:θ.ax.Nodup):¬θ.l1=θ.l2:=fun e=>by
 unfold fI.ax at h;rw[aaV]at h;exact h.1 (e▸aaQ ..)
theorem IQ{α β:Type}{f:α→β}{l:List α}(h:(l.map f).Nodup){i j:Nat}{p q:α}(hi:l[i]? =some p)(hj:l[j]? =some q)(e:f p=f q):i=j:=by
 have h1:(l.map f)[i]? =some (f p):=by rw[aaE,hi];rfl
 have h2:(l.map f)[j]? =some (f p):=by rw[aaE,hj,e];rfl
 obtain⟨a1,b1⟩:=aad.1 h1;obtain⟨a2,b2⟩:=aad.1 h2;exact(List.getElem_inj h).1 (b1.trans b2.symm)
theorem gE{α:Type}{L:List (Nat×α)}{b c:Nat}{v:α}(h:¬lk L c=none):¬lk (up L b v) c=none:=fun e=>h (o0 e)
theorem Xa(w0:W0){S:St}{θ:fI}{w:List RH}(h:TI S θ w)(hk:w.length≤1000000)(lv:Int):ab Tryz.prog w0 35 [bC θ.t,dI lv] S (fun d S'=>d=dI (oB w lv).2∧∃θ',TI S' θ' (oB w lv).1∧yi S S' θ θ'):=by
 obtain⟨es1,c1,es2,c2,h1,h2,h3⟩:=h.tb;have hne:=wS h.F1;have hcl:=B5 w lv;refine(Ws w0 h1 hne lv (ic w lv) (by omega) (h2 lv)).mono ?_;rintro d S' ⟨b,m,fb,fm,rfl,rfl⟩;have bt:¬b=θ.t:=fun e=>h.ny _ (aaQ ..) (e▸fb);have ml1:¬m=θ.l1:=fun e=>h.xn _ (aaQ ..) (e▸fm);have ml2:¬m=θ.l2:=fun e=>h.xn _ (aat _ (aaQ ..)) (e▸fm)
 have fr:yi S ⟨(b,[dI 0,.mp m])::S.box,(m,.xo (.mp (.int .i64) [] 0))::up (up S.acc θ.l1 (.xo (.mp (.int .i64) (ep es1 c1 (.int .i64 lv) (dI ((ic w lv:Int)+1))) (gq es1 c1 (.int .i64 lv))))) θ.l2 (.xo (.mp (.st [.i64,.i64]) (ep es2 c2 (r8 lv ((ic w lv:Int)+1)) (bC b)) (gq es2 c2 (r8 lv ((ic w lv:Int)+1)))))⟩ θ ⟨θ.t,θ.l1,θ.l2,θ.ids++[(b,m)]⟩:=by
  refine⟨rfl,fun c x _ hc=>ai fb hc,fun c x hn hc=>?_,fun c hc=>?_,fun c hc=>?_⟩
  ·unfold fI.ax at hn;rw[aaJ,aaJ,not_or,not_or]at hn;refine ai ?_ ?_
   ·rw[ae (fun e=>ml2 e.symm),ae (fun e=>ml1 e.symm)];exact fm
   ·rw[ae (fun e=>hn.2.1 e.symm),ae (fun e=>hn.1 e.symm)];exact hc
  ·unfold fI.bx at hc ⊢;rw[aaJ]at hc ⊢;rcases hc with q|q
   ·exact .inl (.inl q)
   ·rw[aaZ,aaD]at q;rcases q with q|q
    ·exact .inl (.inr q)
    ·rw[adw,aau]at q;exact .inr (q▸fb)
  ·unfold fI.ax at hc ⊢;rw[aaJ,aaJ]at hc ⊢;rcases hc with q|q|q
   ·exact .inl (.inl q)
   ·exact .inl (.inr (.inl q))
   ·rw[aaZ,aaD]at q;rcases q with q|q
    ·exact .inl (.inr (.inr q))
    ·rw[adw,aau]at q;exact .inr (q▸fm)
 refine⟨rfl,⟨θ.t,θ.l1,θ.l2,θ.ids++[(b,m)]⟩,?_,fr⟩
 have fm':∀v v',lk (up (up S.acc θ.l1 v) θ.l2 v') m=none:=fun v v'=>by
  rw[ae (fun e=>ml2 e.symm),ae (fun e=>ml1 e.symm)];exact fm
 refine⟨h.ok.op lv,by rw[DR,aaK,h.len];rfl,?_,?_,?_,?_,⟨ep es1 c1 (.int .i64 lv) (dI ((ic w lv:Int)+1)),gq es1 c1 (.int .i64 lv),ep es2 c2 (r8 lv ((ic w lv:Int)+1)) (bC b),gq es2 c2 (r8 lv ((ic w lv:Int)+1)),⟨ai fb h1.tb,ai (fm' _ _) ?_,ai (fm' _ _) ?_⟩,fun lv'=>?_,fun lv' n'=>?_⟩,fun i s p hs hg hp=>?_⟩
 ·have h4:=h.UQ;unfold fI.bx at h4 ⊢;rw[aaZ];rw[←acG,acV];refine⟨h4,by simp,fun a ha y hy=>?_⟩;rw[adw,aau]at hy;rintro rfl;exact h.ny a ha (hy▸fb)
 ·have h4:=h.F1;unfold fI.ax at h4 ⊢;rw[aaZ];rw[←acG,←acG,acV];refine⟨h4,by simp,fun a ha y hy=>?_⟩;rw[adw,aau]at hy;rintro rfl;exact h.xn a ha (hy▸fm)
 ·intro c hc;show lk ((b,_)::S.box) c≠none;simp only[lk];split
  ·exact fun e=>by cases e
  ·rename_i q;rcases fr.nb c hc with q2|q2
   ·exact h.ny c q2
   ·exfalso
    unfold fI.bx at hc;rw[aaJ,aaZ,aaD,adw,aau]at hc;rcases hc with q3|q3|q3
    ·exact h.ny c (q3▸aaQ ..) q2
    ·exact h.ny c (aat _ q3) q2
    ·exact q q3.symm
 ·intro c hc;show lk ((m,_)::up (up S.acc _ _) _ _) c≠none;simp only[lk];split
  ·exact fun e=>by cases e
  ·rename_i q;refine gE (gE ?_);rcases fr.na c hc with q2|q2
   ·exact h.xn c q2
   ·exfalso
    unfold fI.ax at hc;rw[aaJ,aaJ,aaZ,aaD,adw,aau]at hc;rcases hc with q3|q3|q3|q3
    ·exact h.xn c (q3▸aaQ ..) q2
    ·exact h.xn c (q3▸aat _ (aaQ ..)) q2
    ·exact h.xn c (aat _ (aat _ q3)) q2
    ·exact q q3.symm
 ·rw[ae (fun e=>hne e.symm),aM,h1.m1];rfl
 ·rw[aM,ae hne,h1.m2];rfl
 ·rw[Qj];by_cases q:lv=lv'
  ·subst q;rw[bD,if_pos rfl,if_neg (by omega)];rfl
  ·rw[cM _ _ (k:= .int .i64 lv) (k':= .int .i64 lv') (fun e=>q (by cases e;rfl)),if_neg q,h2];rfl
 ·show _=((θ.ids++[(b,m)])[dm (oB w lv).1 lv' n']?).map fun p=>bC p.1;rw[PT h.ok];by_cases q:lv'=lv∧n'=(ic w lv:Int)+1
  ·obtain⟨rfl,rfl⟩:=q;rw[bD,if_neg (by rw[Ke h.ok];omega),if_pos ⟨rfl,rfl⟩,←h.len,abl (aar _),ad0];rfl
  ·rw[cM _ _ (fun e=>q (C5 e)),h3,if_neg q];have:=h.len;split
   ·rw[abE (by omega)]
   ·rw[aaS (by omega),aaS (by rw[aaK];simp;omega)]
 ·have hl:=h.len;unfold oB at hs;rcases abz i w.length with q|q
  ·rw[abE q]at hs
   have hp':θ.ids[i]? =some p:=by
    have:(θ.ids++[(b,m)])[i]? =some p:=hp
    rwa [abE (by omega)]at this
   obtain⟨es,c,q1,q2,q3⟩:=h.az i s p hs hg hp';have hm:=aaf hp';exact⟨es,c,ai fb q1,ai (fm' _ _) (by rw[ae (fun e=>CC h.F1 hm e.symm),ae (fun e=>HG h.F1 hm e.symm)];exact q2),q3⟩
  ·have hi:i=w.length:=by
    have:=(aad.1 hs).1;simp at this;omega
   subst hi;rw[abl (aar _),ad0]at hs;cases hs;have hp':(θ.ids++[(b,m)])[w.length]? =some p:=hp;rw[←hl,abl (aar _),ad0]at hp';cases hp';exact⟨[],0,by simp[lk],by simp[lk],fun x=>by simp[aT]⟩
theorem J2(w0:W0){S:St}{θ:fI}{w:List RH}(h:TI S θ w)(lv n:Int):ab Tryz.prog w0 119 [bC θ.t,CS lv n] S (fun d S'=>d=dB (oy w lv n).2∧TI S' θ (oy w lv n).1∧yi S S' θ θ):=by
 obtain⟨es1,c1,es2,c2,h1,h2,h3⟩:=h.tb;have hne:=wS h.F1;have hcn:=PR w lv n;have hok:=h.ok.cl lv n;have hle:=DS w lv n;rcases h.get lv n with⟨s,p,q1,q2,q3⟩|⟨q1,q2,q3⟩
 ·refine(DK w0 h1 lv n (some p.1) (by rw[h3,q2];rfl)).mono ?_;rintro d S' ⟨rfl,rfl⟩;have hix:=PU h.ok q3;have e2:(oy w lv n).2=true:=by unfold oy;rw[if_pos q3]
  have e1:(oy w lv n).1=w.set (dm w lv n) ⟨lv,n,[],0,true⟩:=by unfold oy;rw[if_pos q3]
  rw[e2];refine⟨rfl,?_,rfl,fun c x _ hc=>hc,fun c x hn hc=>?_,fun _ hc=> .inl hc,fun _ hc=> .inl hc⟩
  ·refine⟨hok,by rw[hle];exact h.len,h.UQ,h.F1,h.ny,fun c hc=>gE (h.xn c hc),⟨es1,c1,jR es2 (r8 lv n),c2,⟨h1.tb,?_,?_⟩,fun lv'=>?_,fun lv' n'=>?_⟩,fun i a b ha hg hb=>?_⟩
   ·show lk (up S.acc _ _) θ.l1=_;rw[ae (fun e=>hne e.symm)];exact h1.m1
   ·show lk (up S.acc _ _) θ.l2=_;rw[aM,h1.m2];rfl
   ·rw[hcn];exact h2 lv'
   ·rw[hix];by_cases q:lv'=lv∧n'=n
    ·rw[if_pos q,q.1,q.2,eC,aaS (by have:=h.len;omega)];rfl
    ·rw[if_neg q,eX _ (fun e=>q (C5 e))];exact h3 lv' n'
   ·rw[e1]at ha;by_cases q:dm w lv n=i
    ·rw[←q,abZ q3]at ha;cases ha;cases hg
    ·rw[ab5 q]at ha;obtain⟨es,c,r1,r2,r3⟩:=h.az i a b ha hg hb
     exact⟨es,c,r1,by
      show lk (up S.acc _ _) b.2=_;rw[ae (fun e=>CC h.F1 (aaf hb) e.symm)];exact r2,r3⟩
  ·unfold fI.ax at hn;rw[aaJ,aaJ,not_or,not_or]at hn;show lk (up S.acc _ _) c=_;rw[ae (fun e=>hn.2.1 e.symm)];exact hc
 ·refine(DK w0 h1 lv n none (by rw[h3,q2];rfl)).mono ?_;rintro d S' ⟨rfl,rfl⟩;have e:oy w lv n=(w,false):=by unfold oy;rw[if_neg q3]
  rw[e];exact⟨rfl,h,yi.refl _ _⟩
theorem TI.put{S S':St}{θ:fI}{w:List RH}(h:TI S θ w){i:Nat}{s r:RH}{p:Nat×Nat}(hs:w[i]? =some s)(hp:θ.ids[i]? =some p)(hok:mH (w.set i r))(e1:r.lv=s.lv)(e2:r.n=s.n)(e3:r.gone=s.gone)
 (hb:∀c,c≠p.1→lk S'.box c=lk S.box c) (ha:∀c,c≠p.2→lk S'.acc c=lk S.acc c) (hr:Wx S' p r):TI S' θ (w.set i r)∧yi S S' θ θ:=by
 obtain⟨es1,c1,es2,c2,h1,h2,h3⟩:=h.tb;have hm:=aaf hp;have nt:=VM h.UQ hm;have n1:=HG h.F1 hm;have n2:=CC h.F1 hm;obtain⟨es,c,r1,r2,r3⟩:=hr;refine⟨⟨hok,by rw[acZ];exact h.len,h.UQ,h.F1,fun c hc=>?_,fun c hc=>?_,⟨es1,c1,es2,c2,⟨?_,?_,?_⟩,fun lv'=>?_,fun lv' n'=>?_⟩,fun j a b hja hg hjb=>?_⟩,rfl,fun c x hn hc=>?_,fun c x hn hc=>?_,fun _ hc=> .inl hc,fun _ hc=> .inl hc⟩
 ·by_cases q:c=p.1
  ·rw[q,r1];exact fun e=>by cases e
  ·rw[hb c q];exact h.ny c hc
 ·by_cases q:c=p.2
  ·rw[q,r2];exact fun e=>by cases e
  ·rw[ha c q];exact h.xn c hc
 ·rw[hb _ (fun e=>nt e.symm)];exact h1.tb
 ·rw[ha _ (fun e=>n1 e.symm)];exact h1.m1
 ·rw[ha _ (fun e=>n2 e.symm)];exact h1.m2
 ·rw[wo hs e1];exact h2 lv'
 ·rw[Ds hs e1 e2 e3];exact h3 lv' n'
 ·by_cases q:i=j
  ·subst q;rw[abZ (aad.1 hs).1]at hja;cases hja;rw[hp]at hjb;cases hjb;exact⟨es,c,r1,r2,r3⟩
  ·rw[ab5 q]at hja;obtain⟨es',c',q1,q2,q3⟩:=h.az j a b hja hg hjb;have hndb:(θ.ids.map (·.1)).Nodup:=(aaV.1 h.UQ).2;have hnda:(θ.ids.map (·.2)).Nodup:=(aaV.1 (aaV.1 h.F1).2).2;exact⟨es',c',by rw[hb _ (fun e=>q (IQ hndb hp hjb e.symm))];exact q1,by rw[ha _ (fun e=>q (IQ hnda hp hjb e.symm))];exact q2,q3⟩
 ·rw[hb c (fun e=>hn (by rw[e];exact aat _ (abL hm)))];exact hc
 ·rw[ha c (fun e=>hn (by rw[e];exact aat _ (aat _ (abL hm))))];exact hc
theorem U1(w0:W0){S:St}{θ:fI}{w:List RH}(h:TI S θ w){k:Int}(hk:rK w k)(hk2:k≤1000000)(lv n:Int):ab Tryz.prog w0 129 [bC θ.t,CS lv n] S (fun d S'=>d=dI (oz w lv n).2∧TI S' θ (oz w lv n).1∧yi S S' θ θ):=by
 obtain⟨es1,c1,es2,c2,h1,h2,h3⟩:=h.tb;have hok:=h.ok.sn lv n;unfold oz at hok ⊢;rcases h.get lv n with⟨s,p,q1,q2,q3⟩|⟨q1,q2,q3⟩
 ·obtain⟨es,c,r1,r2,r3⟩:=h.az _ s p q1 (eE q1).2.2 q2;have hm:=aaf q1;have hla:=h.ok.la s hm;have hlk:=hk s hm
  have hnn:aT es (kI (s.last+1))=none:=by
   rw[r3,if_neg fun q=>by have:=(h.ok.Qk s hm _ q).2;omega]
  rw[q1]at hok ⊢;simp only at hok ⊢;refine(WB w0 h1 lv n p.1 p.2 (by rw[h3,q2];rfl) s.last es c r1 r2 hnn hla (by omega)).mono ?_;rintro d S' ⟨rfl,rfl⟩;refine⟨rfl,h.put (r:=Kc s) q1 q2 hok rfl rfl rfl (fun c hc=>ae (fun e=>hc e.symm) _ _) (fun c hc=>ae (fun e=>hc e.symm) _ _) ⟨ep es c (.int .i64 (s.last+1)) (dI 1),gq es c (.int .i64 (s.last+1)),?_,?_,fun x=>?_⟩⟩
  ·show lk (up S.box _ _) p.1=_;rw[aM,r1];rfl
  ·show lk (up S.acc _ _) p.2=_;rw[aM,r2];rfl
  ·unfold Kc;simp only[aaD,aau];by_cases q:x=s.last+1
   ·subst q;rw[show kI (s.last+1)=Value.int .i64 (s.last+1)from rfl,bD,if_pos (.inr rfl)]
   ·rw[cM _ _ (k:= .int .i64 (s.last+1)) (k':=kI x) (fun e=>q (by unfold kI at e;cases e;rfl)),r3];simp[q]
 ·rw[q1]at hok ⊢;refine(TW w0 h1 lv n (by rw[h3,q2];rfl)).mono ?_;rintro d S' ⟨rfl,rfl⟩;exact⟨rfl,h,yi.refl _ _⟩
theorem zc{x:Int}{l:List Int}:(pX x l).length=l.length↔¬x∈l:=by
 unfold pX;rw[List.length_filter_eq_length_iff];constructor
 ·intro h hx;have:=h x hx;simp at this
 ·intro h a ha;simp only[abU,decide_eq_false_iff_not];exact fun e=>h (e▸ha)
theorem MY(w0:W0){S:St}{θ:fI}{w:List RH}(h:TI S θ w)(lv n x:Int):ab Tryz.prog w0 130 [bC θ.t,CS lv n,dI x] S (fun d S'=>d=dB (oA w lv n x).2∧TI S' θ (oA w lv n x).1∧yi S S' θ θ):=by
 obtain⟨es1,c1,es2,c2,h1,h2,h3⟩:=h.tb;have hok:=h.ok.un lv n x;unfold oA at hok ⊢;rcases h.get lv n with⟨s,p,q1,q2,q3⟩|⟨q1,q2,q3⟩
 ·obtain⟨es,c,r1,r2,r3⟩:=h.az _ s p q1 (eE q1).2.2 q2;have hm:=aaf q1;rw[q1]at hok ⊢;simp only at hok ⊢;have hx:=r3 x;by_cases q:x∈s.sn
  ·rw[if_pos q]at hx;rw[if_neg (fun e=>zc.1 e q)]at hok ⊢;refine(DO w0 h1 lv n x p.1 p.2 (by rw[h3,q2];rfl) s.last es c r1 r2 true hx).mono ?_;rintro d S' ⟨rfl,rfl⟩;refine⟨rfl,h.put (r:=⟨s.lv,s.n,pX x s.sn,s.last,s.gone⟩) q1 q2 hok rfl rfl rfl (fun c hc=>rfl) (fun c hc=>ae (fun e=>hc e.symm) _ _) ⟨jR es (.int .i64 x),c,?_,?_,fun y=>?_⟩⟩
   ·exact r1
   ·show lk (up S.acc _ _) p.2=_;rw[aM,r2];rfl
   ·unfold pX;simp only[abO,abU,decide_eq_false_iff_not];by_cases q5:y=x
    ·subst q5;rw[show kI y=Value.int .i64 y from rfl,eC,if_neg fun e=>e.2 rfl]
    ·rw[eX _ (k:= .int .i64 x) (k':=kI y) (fun e=>q5 (by unfold kI at e;cases e;rfl)),r3];simp[q5]
  ·rw[if_neg q]at hx;rw[if_pos (zc.2 q)]at hok ⊢;refine(DO w0 h1 lv n x p.1 p.2 (by rw[h3,q2];rfl) s.last es c r1 r2 false hx).mono ?_;rintro d S' ⟨rfl,rfl⟩;exact⟨rfl,h,yi.refl _ _⟩
 ·rw[q1]at hok ⊢;refine(HB w0 h1 lv n x (by rw[h3,q2];rfl)).mono ?_;rintro d S' ⟨rfl,rfl⟩;exact⟨rfl,h,yi.refl _ _⟩
theorem Lp(w0:W0){S:St}{θ:fI}{w:List RH}(h:TI S θ w):ab Tryz.prog w0 67 [bC θ.t] S (fun d S'=>∃θ',TI S' θ' []∧yi S S' θ θ'):=by
 obtain⟨es1,c1,es2,c2,h1,h2,h3⟩:=h.tb;have hne:=wS h.F1;refine(RO w0 h1 hne).mono ?_;rintro d S' rfl;refine⟨⟨θ.t,θ.l1,θ.l2,[]⟩,⟨mH.nil,rfl,by simp[fI.bx],by simp[fI.ax,hne],fun c hc=>?_,fun c hc=>?_,⟨[],c1,[],c2,⟨h1.tb,?_,?_⟩,fun lv=>by simp[ic,aT],fun lv n=>by simp[aT]⟩,fun i s p hs=>by simp at hs⟩,rfl,fun c x _ hc=>hc,fun c x hn hc=>?_,fun c hc=> .inl ?_,fun c hc=> .inl ?_⟩
 ·simp[fI.bx]at hc;subst hc;exact h.ny _ (aaQ ..)
 ·simp[fI.ax]at hc;refine gE (gE ?_);rcases hc with rfl|rfl
  ·exact h.xn _ (aaQ ..)
  ·exact h.xn _ (aat _ (aaQ ..))
 ·show lk (up (up S.acc _ _) _ _) θ.l1=_;rw[ae (fun e=>hne e.symm),aM,h1.m1];rfl
 ·show lk (up (up S.acc _ _) _ _) θ.l2=_;rw[aM,ae hne,h1.m2];rfl
 ·unfold fI.ax at hn;rw[aaJ,aaJ,not_or,not_or]at hn;show lk (up (up S.acc _ _) _ _) c=_;rw[ae (fun e=>hn.2.1 e.symm),ae (fun e=>hn.1 e.symm)];exact hc
 ·simp[fI.bx]at hc;subst hc;exact aaQ ..
 ·simp[fI.ax]at hc;rcases hc with rfl|rfl
  ·exact aaQ ..
  ·exact aat _ (aaQ ..)
end Go.Proofs.YtoepfmhnapedoaaGreatDoor
namespace Aml
open Go Go.RowKit
def Same(T:List Nat)(a0 a:Act):Prop:=(∀t,t∈T→a.tmps[t]? =a0.tmps[t]?)∧a.defers=a0.defers∧a.tmps.size=a0.tmps.size
def Kt(T:List Nat)(a0:Act)(Q:Exit→Act→World→Prop)(e:Exit)(a:Act)(w:World):Prop:=match e with
 | .outgrown=>Q .outgrown a w
 |e=>Q e a w∧Same T a0 a
def NK:Op→Bool
 | .defer _=>true
 |_=>false
def mi(T:List Nat)(o:Oper):Bool:=!NK o.op&&(match o.dst with|some d=>!T.contains d|none=>true)
section
variable {P:Program} {w0:W0} {F:Fence} {n:Nat} {Q:Exit→Act→World→Prop}
theorem oD{T:List Nat}{a0 a:Act}{o:Oper}(hd:mi T o=true)(h:Same T a0 a)(u:Value):Same T a0 (a.put o.dst u):=by
 refine⟨fun t ht=>?_,(put_defers _ _ _).trans h.2.1,Eq.trans (by cases o.dst <;>simp[Act.put]) h.2.2⟩;unfold mi at hd;simp only[aak]at hd
 cases hq:o.dst with
 |none=>exact h.1 t ht
 |some d=>
  have hd:=hd.2;rw[hq]at hd;simp only[abU,List.contains_eq_mem,decide_eq_false_iff_not]at hd;have:d≠t:=fun e=>hd (e▸ht);simp only[Act.put];rw[aa9,if_neg this];exact h.1 t ht
theorem kS{ro:Option Nat}{ops:Array Oper}{g0:Gh}{Q:Exit→List DV→St→Prop}{T:List Nat}{a0:Act}:∀(l:List Oper) (fr:List DV) (S:St) (g:Gh) (a:Act) (w:World),l.all (mi T)=true→Same T a0 a→g0.le g→Rel w0 g S w→af g fr a.tmps.toList→Dk w0 g a w→
 DM P w0 ops (fun fr S=>Q .normal fr S) l fr S→wpListIn (fz ro) 0 P ops (Kt T a0 (Good w0 g0 Q)) l a w
 |[],fr,S,g,a,w,_,hs,k,h1,h2,h3,h=>⟨⟨k.kd h3,g,fr,S,k,h1,h2,h⟩,hs⟩
 |o::rest,fr,S,g,a,w,hl,hs,k,h1,h2,h3,h=>by
  simp only[ado,aak]at hl;unfold DM at h;unfold wpListIn;rcases ju h2 h with⟨hw,fr',h2',hA⟩|⟨hw,fr',h2',hB⟩
  ·rw[if_pos hw];refine il hA h1 (fun x _=>eA h2' x) h3 k h2' (Q:=Q) (fun v w' hg=>⟨hg,hs⟩) fun g' d u S' w' k1 k2 k3 k4 k5=>?_;exact kS rest _ _ g' _ _ hl.2 (oD hl.1 hs u) (k.trans k1) k2 (bu (h2'.mono k1) _ k3) (k1.dk k5) k4
  ·rw[if_neg (by simp[hw])];exact⟨fun _ _=>trivial,kS rest _ _ g _ _ hl.2 (oD hl.1 hs undef) k h1 (bu h2' _ (gu g)) (h3.cC (put_defers _ _ _) fun _ _ h _=>h) hB⟩
end
section
variable {P:Program} {w0:W0}
def P2(T:List Nat)(P:Program)(w0:W0)(c:Code)(fr:List DV)(S:St)(Q:Exit→List DV→St→Prop):Prop:=
 ∀g a0 a w,Rel w0 g S w→af g fr a.tmps.toList→Dk w0 g a w→Same T a0 a→uC P c (Kt T a0 (Good w0 g Q)) a w
def tN(t:List Nat):Code→Bool
 | .skip=>true
 | .ret=>true
 | .exit _=>true
 | .seq a b=>tN t a&&tN t b
 | .cond _ a b=>tN t a&&tN t b
 | .block _ c=>tN t c
 | .region _ ops false=>ops.toList.all (fun o=>eo o.op&&mi t o)
 |_=>false
theorem Kt.mono{t:List Nat}{v:Act}{Q Q':Exit→Act→World→Prop}(h:∀e a w,Q e a w→Q' e a w){e:Exit}{a:Act}{w:World}(k:Kt t v Q e a w):Kt t v Q' e a w:=by
 cases e <;>first|exact⟨h _ _ _ k.1,k.2⟩|exact h _ _ _ k
theorem fQ{t:List Nat}:∀(c:Code) {fr:List DV} {S:St} {Q:Exit→List DV→St→Prop},tN t c=true→vw P w0 [] c fr S Q→P2 t P w0 c fr S Q
 | .skip,fr,S,Q,_,h=>fun g v a w h1 h2 h3 h4=>oH ⟨⟨h3,g,fr,S,.refl g,h1,h2,h⟩,h4⟩
 | .ret,fr,S,Q,_,h=>fun g v a w h1 h2 h3 h4=>rE ⟨⟨h3,g,fr,S,.refl g,h1,h2,h⟩,h4⟩
 | .exit n,fr,S,Q,_,h=>fun g v a w h1 h2 h3 h4=>sG ⟨⟨h3,g,fr,S,.refl g,h1,h2,h⟩,h4⟩
 | .seq x y,fr,S,Q,ho,h=>fun g v a w h1 h2 h3 h4=>by
  simp only[tN,aak]at ho;refine lC (bg (fQ x ho.1 h g v a w h1 h2 h3 h4) ?_);intro e a' w' hg
  cases e with
  |normal=>
   obtain⟨⟨hd,g',fr',S',k1,k2,k3,k4⟩,ht⟩:=hg;exact bg (fQ y ho.2 k4 g' v a' w' k2 k3 (k1.dk hd) ht) fun _ _ _ k=>k.mono fun _ _ _ k=>k.of_le k1
  |exit n=>exact hg
  |goto n=>exact hg
  |ret=>exact hg
  |panic ch=>exact hg
  |outgrown=>exact hg
 | .cond c x y,fr,S,Q,ho,h=>fun g v a w h1 h2 h3 h4=>by
  simp only[tN,aak]at ho;have h:dq (ev fr c) (vw P w0 [] x fr S Q) (vw P w0 [] y fr S Q):=h;have hr:=eA h2 c;unfold dq at h;split at h
  ·rename_i b he;rw[he]at hr;exact dY (mj hr) (fun hb=>fQ x ho.1 (h.1 hb) g v a w h1 h2 h3 h4) (fun hb=>fQ y ho.2 (h.2 hb) g v a w h1 h2 h3 h4)
  ·exact h.elim
 | .block n c,fr,S,Q,ho,h=>fun g v a w h1 h2 h3 h4=>by
  unfold tN at ho
  have h:vw P w0 [] c fr S (gH n Q):=by
   unfold vw cF at h;simpa using h
  refine ky (bg (fQ c ho h g v a w h1 h2 h3 h4) ?_);intro e a' w' hg
  cases e with
  |exit m=>
   obtain⟨⟨hd,g',fr',S',k1,k2,k3,k4⟩,ht⟩:=hg;simp only[Exit.inBlock];simp only[Qp,gH]at k4;split
   ·rename_i e;rw[if_pos e]at k4;exact⟨⟨hd,g',fr',S',k1,k2,k3,k4⟩,ht⟩
   ·rename_i e;rw[if_neg e]at k4;exact⟨⟨hd,g',fr',S',k1,k2,k3,k4⟩,ht⟩
  |normal=>exact hg
  |goto n=>exact hg
  |ret=>exact hg
  |panic ch=>exact hg
  |outgrown=>exact hg
 | .region n ops false,fr,S,Q,ho,h=>fun g v a w h1 h2 h3 h4=>by
  unfold tN at ho
  have ho1:ops.toList.all (fun o=>eo o.op)=true:=aa8.2 fun o hm=>by
   have:=aa8.1 ho o hm;rw[aak]at this;exact this.1
  have ho2:ops.toList.all (mi t)=true:=aa8.2 fun o hm=>by
   have:=aa8.1 ho o hm;rw[aak]at this;exact this.2
  have h:rV P w0 ops (fun fr S=>Q .normal fr S) ops.toList fr S:=by
   unfold vw cF at h;simpa using h
  have h:=iQ _ ho1 h;have:=fR (P:=P) (id:=n) (l:=ops.toList) (Q:=Kt t v (Good w0 g Q)) (a:=a) (w:=w) fun ro=>kS (ro:=ro) (g0:=g) (Q:=Q) ops.toList fr S g a w ho2 h4 (.refl g) h1 h2 h3 (by simpa using h);simpa using this
 | .region n ops true,fr,S,Q,ho,h=>by cases ho
 | .loop c,fr,S,Q,ho,h=>by cases ho
 | .rangeFunc f ps a b,fr,S,Q,ho,h=>by cases ho
 | .scope c,fr,S,Q,ho,h=>by cases ho
 | .label l,fr,S,Q,ho,h=>by cases ho
 | .goto l,fr,S,Q,ho,h=>by cases ho
 | .refuse w,fr,S,Q,ho,h=>by cases ho
theorem P2.mono{T:List Nat}{c:Code}{fr:List DV}{S:St}{Q Q':Exit→List DV→St→Prop}(h:P2 T P w0 c fr S Q)(hq:∀e fr S,Q e fr S→Q' e fr S):P2 T P w0 c fr S Q':=
 fun g v a w h1 h2 h3 h4=>bg (h g v a w h1 h2 h3 h4) fun e a w k=>k.mono fun e a w k=>k.mono hq
def lJ:ResultVar→Nat
 | .tmp t=>t
 | .cell a _=>a
theorem wA{fn:Func}{rs:List ResultVar}(hrs:fn.results=rs.toArray){a a':Act}(h:∀r,r∈rs→a'.tmps[lJ r]? =a.tmps[lJ r]?):results fn a'.tmps=results fn a.tmps:=by
 have:∀l:List ResultVar,(∀r,r∈l→a'.tmps[lJ r]? =a.tmps[lJ r]?)→l.mapM (uG a'.tmps)=l.mapM (uG a.tmps):=by
  intro l
  induction l with
  |nil=>intro _;rfl
  |cons r l ih=>
   intro h
   have e:uG a'.tmps r=uG a.tmps r:=by
    have h1:=h r aaQ
    cases r with
    |tmp t=>simp only[uG,lJ]at h1 ⊢;rw[aaI,aaI,h1]
    |cell p t=>simp only[uG,lJ]at h1 ⊢;rw[aaI,aaI,h1]
   rw[List.mapM_cons,List.mapM_cons,e,ih fun r hr=>h r (aat _ hr)]
 rw[kR,kR,hrs];simp only[List.mapM_toArray,this rs h]
def Idle(P:Program)(cl:FuncId)(bs:List Value):Prop:=∀w,CallsDIn (fz none) 0 P cl bs.toArray .returning w fun e u' w'=>(∃r,e= .returned r)∧u'= .returning∧w'=w
def TZ(P:Program)(w0:W0)(cl:FuncId)(bs:List Value)(pq:DV→St→Prop)(K:St→Prop):Prop:=∀g T w v d,Rel w0 g T w→aG g d v→pq d T→
 CallsDIn (fz none) 0 P cl bs.toArray (.panicking [{v,recovered:=false}]) w fun e u' w'=>(∃r,e= .returned r)∧u'= .panicking [{v,recovered:=true}]∧∃g' T',g.le g'∧Rel w0 g' T' w'∧K T'
theorem eY{F:Fence}{n:Nat}{f:FuncId}{args:Array Value}{u:FrameMode}{w:World}{R R':Ending→FrameMode→World→Prop}(h:CallsDIn F n P f args u w R)(hr:∀e u w,R e u w→R' e u w):CallsDIn F n P f args u w R':=
 ⟨h.1,fun c cs hu hroom=>let⟨e,u',w',fr,hR,x⟩:=h.2 c cs hu hroom;⟨e,u',w',fr,hr _ _ _ hR,x⟩⟩
end
end Aml
namespace Lat
def bt(o:List Nat)(a b:Nat):Bool:=(o.getD a 0).testBit b
def ca(up:List Nat)(a:Nat):Nat:=up.getD a 0%2^up.length
def kO(up:List Nat):List Nat:=(List.range up.length).map fun a=>ca up a ||| 2^a
def pz(c:Nat)(o:List Nat)(a:Nat):List Nat:=if bt o a c then o.set a (o.getD a 0 ||| o.getD c 0)else o
def fT(c:Nat)(o:List Nat)(k:Nat):List Nat:=(List.range k).foldl (pz c) o
def cA(up:List Nat)(k:Nat):List Nat:=(List.range k).foldl (fun o c=>fT c o up.length) (kO up)
def fM(up:List Nat):List Nat:=cA up up.length
theorem gZ(up:List Nat):(kO up).length=up.length:=by simp[kO]
theorem lY{f:Nat→Nat}{n a:Nat}(h:a<n):((List.range n).map f).getD a 0=f a:=by
 rw[abj,aaE,acB h];rfl
theorem xF{up:List Nat}{a b:Nat}(h:a<up.length):bt (kO up) a b=((decide (b<up.length)&&bt up a b)||decide (a=b)):=by
 unfold bt kO;rw[lY h,Nat.testBit_or,ca,Nat.testBit_mod_two_pow,Nat.testBit_two_pow]
theorem GU(c:Nat)(o:List Nat)(a:Nat):(pz c o a).length=o.length:=by
 unfold pz;split <;>simp
theorem Ih{c:Nat}{o:List Nat}{a x b:Nat}(h:a<o.length):bt (pz c o a) x b=(if x=a then bt o a b||(bt o a c&&bt o c b)else bt o x b):=by
 unfold pz;split
 ·rename_i hc;by_cases e:x=a
  ·subst e;rw[if_pos rfl,hc,ac5];unfold bt;rw[abj,abZ h];simp[Nat.testBit_or]
  ·rw[if_neg e];unfold bt;rw[abj,ab5 (fun q=>e q.symm),←abj]
 ·rename_i hc;have hc:bt o a c=false:=by simpa using hc
  by_cases e:x=a
  ·subst e;rw[if_pos rfl,hc,Bool.false_and,Bool.or_false]
  ·rw[if_neg e]
theorem Ag(c:Nat)(o:List Nat):fT c o 0=o:=rfl
theorem jt(c:Nat)(o:List Nat)(k:Nat):fT c o (k+1)=pz c (fT c o k) k:=by
 unfold fT;rw[adm,ac9];rfl
theorem nH(c:Nat)(o:List Nat)(k:Nat):(fT c o k).length=o.length:=by
 induction k with
 |zero=>rfl
 |succ k ih=>rw[jt,GU,ih]
theorem vX{c:Nat}{o:List Nat}:∀{k:Nat},k≤o.length→∀x b,bt (fT c o k) x b=(if x<k then bt o x b||(bt o x c&&bt o c b)else bt o x b)
 |0,_,x,b=>by rw[Ag,if_neg (by omega)]
 |k+1,hk,x,b=>by
  have ih:=fun x b=>vX (c:=c) (o:=o) (k:=k) (by omega) x b;rw[jt,Ih (by rw[nH];omega)]
  have hc:∀b,bt (fT c o k) c b=bt o c b:=fun b=>by
   rw[ih];split
   ·cases bt o c b <;>simp
   ·rfl
  by_cases e:x=k
  ·subst e;rw[if_pos rfl,if_pos (by omega),ih,if_neg (by omega),ih,if_neg (by omega),hc]
  ·rw[if_neg e,ih];by_cases h:x<k
   ·rw[if_pos h,if_pos (by omega)]
   ·rw[if_neg h,if_neg (by omega)]
theorem qR(up:List Nat):cA up 0=kO up:=rfl
theorem jG(up:List Nat)(k:Nat):cA up (k+1)=fT k (cA up k) up.length:=by
 unfold cA;rw[adm,ac9];rfl
theorem eV(up:List Nat)(k:Nat):(cA up k).length=up.length:=by
 induction k with
 |zero=>exact gZ up
 |succ k ih=>rw[jG,nH,ih]
theorem kE{up:List Nat}{k x b:Nat}(hx:x<up.length):bt (cA up (k+1)) x b=(bt (cA up k) x b||(bt (cA up k) x k&&bt (cA up k) k b)):=by
 rw[jG,vX (by rw[eV];exact aar _),if_pos hx]
theorem Il{o:List Nat}{a b:Nat}(h:o.length≤a):bt o a b=false:=by
 unfold bt;rw[abj,aaS h];simp
theorem ig{o:List Nat}{a b:Nat}(h:bt o a b=true):a<o.length:=by
 rcases abz a o.length with h'|h'
 ·exact h'
 ·rw[Il h']at h;cases h
theorem ql{up:List Nat}:∀{k:Nat},k≤up.length→∀x b,bt (cA up k) x b=true→b<up.length
 |0,_,x,b,h=>by
  have hx:=ig h;rw[qR,gZ]at hx;rw[qR,xF hx]at h;simp at h;rcases h with h|h
  ·exact h.1
  ·omega
 |k+1,hk,x,b,h=>by
  have hx:=ig h;rw[eV]at hx;rw[kE hx,acx,aak]at h;rcases h with h|h
  ·exact ql (by omega) _ _ h
  ·exact ql (by omega) _ _ h.2
theorem sq{up:List Nat}:∀{k:Nat},k≤up.length→∀x b,bt (kO up) x b=true→bt (cA up k) x b=true
 |0,_,x,b,h=>h
 |k+1,hk,x,b,h=>by
  have hx:=ig h;rw[gZ]at hx;rw[kE hx,sq (by omega) _ _ h];rfl
theorem py{up:List Nat}:∀{k:Nat},k≤up.length→∀x c b,c<k→bt (cA up k) x c=true→bt (cA up k) c b=true→bt (cA up k) x b=true
 |0,_,x,c,b,h,_,_=>by omega
 |k+1,hk,x,c,b,hc,h1,h2=>by
  have hx:x<up.length:=by have:=ig h1;rwa [eV]at this
  have hc':c<up.length:=by omega
  have T:=fun x c b=>py (up:=up) (k:=k) (by omega) x c b;rw[kE hx]at h1 ⊢;rw[kE hc']at h2;simp only[acx,aak]at h1 h2 ⊢;by_cases e:c=k
  ·subst e;refine .inr ⟨?_,?_⟩
   ·rcases h1 with h|h
    ·exact h
    ·exact h.1
   ·rcases h2 with h|h
    ·exact h
    ·exact h.2
  ·have hlt:c<k:=by omega
   rcases h1 with h1|h1 <;>rcases h2 with h2|h2
   ·exact .inl (T _ _ _ hlt h1 h2)
   ·exact .inr ⟨T _ _ _ hlt h1 h2.1,h2.2⟩
   ·exact .inr ⟨h1.1,T _ _ _ hlt h1.2 h2⟩
   ·exact .inr ⟨h1.1,h2.2⟩
theorem iC{up:List Nat}{R:Nat→Nat→Prop}(h0:∀a b,bt (kO up) a b=true→R a b)(ht:∀a b c,R a b→R b c→R a c):∀{k:Nat},k≤up.length→∀x b,bt (cA up k) x b=true→R x b
 |0,_,x,b,h=>h0 x b h
 |k+1,hk,x,b,h=>by
  have hx:x<up.length:=by have:=ig h;rwa [eV]at this
  rw[kE hx,acx,aak]at h;rcases h with h|h
  ·exact iC h0 ht (by omega) _ _ h
  ·exact ht _ _ _ (iC h0 ht (by omega) _ _ h.1) (iC h0 ht (by omega) _ _ h.2)
theorem r7(up:List Nat):(fM up).length=up.length:=eV up _
theorem Lt{up:List Nat}{x b:Nat}(h:bt (fM up) x b=true):b<up.length:=ql (aar _) _ _ h
theorem C8{up:List Nat}{x b:Nat}(h:bt (kO up) x b=true):bt (fM up) x b=true:=sq (aar _) _ _ h
theorem EX{up:List Nat}{x c b:Nat}(h1:bt (fM up) x c=true)(h2:bt (fM up) c b=true):bt (fM up) x b=true:=py (aar _) _ _ _ (Lt h1) h1 h2
theorem D5{up:List Nat}{R:Nat→Nat→Prop}(h0:∀a b,bt (kO up) a b=true→R a b)(ht:∀a b c,R a b→R b c→R a c){x b:Nat}(h:bt (fM up) x b=true):R x b:=iC h0 ht (aar _) _ _ h
theorem zx{o p:List Nat}(hl:o.length=p.length)(h:∀a b,bt o a b=bt p a b):o=p:=by
 refine acy fun a=>?_;by_cases ha:a<o.length
 ·rw[aac ha,aac (hl▸ha)];congr 1;refine adD fun b=>?_;have:=h a b;unfold bt at this
  rwa [abj,aac ha,abj,aac (hl▸ha)]at this
 ·rw[aaS (by omega),aaS (by omega)]
structure Cl(up:List Nat):Prop where
 lt:∀a b,bt up a b=true→b<up.length
 refl:∀a,a<up.length→bt up a a=true
 trans:∀a b c,bt up a b=true→bt up b c=true→bt up a c=true
theorem TX(up:List Nat):Cl (fM up):=
 ⟨fun a b h=>by rw[r7];exact Lt h,fun a h=>C8 (by rw[r7]at h;rw[xF h];simp),fun a b c=>EX⟩
theorem sQ{up:List Nat}(h:Cl up):kO up=up:=by
 refine zx (gZ up) fun a b=>?_;rcases abz a up.length with ha|ha
 ·rw[xF ha]
  cases e:bt up a b with
  |true=>simp[h.lt a b e]
  |false=>
   have:¬a=b:=by rintro rfl;rw[h.refl a ha]at e;cases e
   simp[this]
 ·rw[Il (by rw[gZ];exact ha),Il ha]
theorem vC{up:List Nat}(h:Cl up):fM up=up:=by
 refine zx (r7 up) fun a b=>?_
 cases e:bt up a b with
 |true=>exact C8 (by rw[sQ h];exact e)
 |false=>
  cases e2:bt (fM up) a b with
  |false=>rfl
  |true=>
   have:=D5 (R:=fun a b=>bt up a b=true) (fun a b q=>by rw[sQ h]at q;exact q) (fun a b c=>h.trans a b c) e2;rw[this]at e;cases e
theorem sX{up:List Nat}:fM up=up↔Cl up:=⟨fun h=>h▸TX up,vC⟩
def dW(up:List Nat)(a b:Nat):Bool:=decide (up.length≤64)&&decide (a<up.length)&&decide (b<up.length)&&bt up a b
def gM(up:List Nat)(a b:Int):Bool:=decide (0≤a)&&decide (0≤b)&&dW up a.toNat b.toNat
theorem dy{up:List Nat}{a b:Nat}:dW up a b=true↔up.length≤64∧a<up.length∧b<up.length∧bt up a b=true:=by
 unfold dW;simp[and_assoc]
def ix(up:List Nat)(a k:Nat):Nat:=(List.range k).foldl (fun x i=>if dW up i a then x ||| 2^i else x) 0
def cY(up:List Nat)(a:Nat):Nat:=ix up a up.length
theorem nN(up:List Nat)(a k:Nat):ix up a (k+1)=if dW up k a then ix up a k ||| 2^k else ix up a k:=by
 unfold ix;rw[adm,ac9];rfl
theorem ku(up:List Nat)(a:Nat):∀k i,(ix up a k).testBit i=(decide (i<k)&&dW up i a)
 |0,i=>by simp[ix]
 |k+1,i=>by
  rw[nN];split
  ·rename_i h;rw[Nat.testBit_or,ku up a k,Nat.testBit_two_pow];by_cases e:k=i
   ·subst e;simp[h]
   ·have:(i<k+1)=(i<k):=by simp;omega
    simp[this,e]
  ·rename_i h;rw[ku up a k];by_cases e:k=i
   ·subst e;simp[h]
   ·have:(i<k+1)=(i<k):=by simp;omega
    simp[this]
theorem Iz(up:List Nat)(a k:Nat):ix up a k<2^k:=Nat.lt_pow_two_of_testBit _ fun i hi=>by rw[ku];simp;omega
theorem pY(up:List Nat)(a i:Nat):(cY up a).testBit i=dW up i a:=by
 unfold cY;rw[ku]
 cases e:dW up i a with
 |false=>simp
 |true=>simp[(dy.1 e).2.1]
theorem Ti{x k:Nat}(h:x.testBit k=false):x ||| 2^k=x+2^k:=by
 refine adD fun i=>?_
 have hm:x/2^k%2=0:=by
  rw[ade]at h;have:=of_decide_eq_false h;omega
 have hx:x=2^(k+1)*(x/2^(k+1))+x%2^k:=by
  have h1:=Nat.div_add_mod x (2^k);have h2:=Nat.div_add_mod (x/2^k) 2;rw[Nat.div_div_eq_div_mul,←adx]at h2;rw[hm]at h2
  have:2^k*(x/2^k)=2^(k+1)*(x/2^(k+1)):=by
   rw[←h2,adx,Nat.mul_assoc];simp
  omega
 have hlt:x%2^k<2^k:=Nat.mod_lt _ (adB k);have hp:2^(k+1)=2*2^k:=by rw[adx];omega
 have hlt2:x%2^k+2^k<2^(k+1):=by omega
 rw[Nat.testBit_or,Nat.testBit_two_pow];rcases acU i k with hi|hi|hi
 ·rw[ac2,Nat.testBit_two_pow_add_gt hi];have:¬k=i:=by omega
  simp[this]
 ·subst hi;rw[ac2,Nat.testBit_two_pow_add_eq,h];simp
 ·have hne:¬k=i:=by omega
  conv=>rhs;rw[hx,acw,Nat.testBit_two_pow_mul_add _ hlt2]
  conv=>lhs;rw[hx,Nat.testBit_two_pow_mul_add _ (by omega:x%2^k<2^(k+1))]
  rw[if_neg (by omega),if_neg (by omega)];simp[hne]
theorem Ec(up:List Nat)(a k:Nat):ix up a (k+1)=if dW up k a then ix up a k+2^k else ix up a k:=by
 rw[nN];split
 ·rw[Ti (by rw[ku];simp)]
 ·rfl
def bq(x:Nat):List Nat:=(List.range 64).filter fun i=>x.testBit i
theorem vO{x i:Nat}:i∈bq x↔i<64∧x.testBit i=true:=by simp[bq]
def I9(le:Nat→Nat→Bool)(n a b c:Nat):Prop:=c<n∧le a c=true∧le b c=true∧∀d,d<n→le a d=true→le b d=true→le c d=true
def ng(le:Nat→Nat→Bool)(n:Nat)(a b:Nat):Prop:=∃c,I9 le n a b c
structure uS(up:List Nat):Prop where
 pos:1≤up.length
 le:up.length≤64
 cl:Cl up
 Hs:∀a b,bt up a b=true→bt up b a=true→a=b
 join:∀a b,b<a→a<up.length→ng (dW up) up.length a b
 meet:∀a b,b<a→a<up.length→ng (fun x y=>dW up y x) up.length a b
end Lat
namespace Lat
def SY(le:Nat→Nat→Bool)(n a b c:Nat):Prop:=I9 le n a b c∧∀d,d<c→¬I9 le n a b d
open Classical in
noncomputable def jF(le:Nat→Nat→Bool)(n a b:Nat):Int:=if h:∃c,SY le n a b c then(Classical.choose h:Nat)else -1
theorem DT{le:Nat→Nat→Bool}{n a b c:Nat}(h0:∀d,d<c→¬I9 le n a b d)(h:I9 le n a b c):jF le n a b=(c:Int):=by
 unfold jF;have hx:∃c,SY le n a b c:=⟨c,h,h0⟩;rw[dif_pos hx];have h2:=Classical.choose_spec hx
 have:Classical.choose hx=c:=by
  rcases acU (Classical.choose hx) c with q|q|q
  ·exact absurd h2.1 (h0 _ q)
  ·exact q
  ·exact absurd h (h2.2 _ q)
 rw[this]
theorem Dz{le:Nat→Nat→Bool}{n a b:Nat}(h:∀d,¬I9 le n a b d):jF le n a b= -1:=by
 unfold jF;rw[dif_neg];rintro⟨c,hc,_⟩;exact h c hc
theorem wx{le:Nat→Nat→Bool}{n a b:Nat}:jF le n a b<0↔¬ng le n a b:=by
 constructor
 ·rintro hneg ⟨c,hc⟩
  have:∀m c,c≤m→I9 le n a b c→∃c,SY le n a b c:=by
   intro m
   induction m with
   |zero=>intro c h1 h2;exact⟨c,h2,fun d hd=>by omega⟩
   |succ m ih=>
    intro c h1 h2;by_cases q:∃d,d<c∧I9 le n a b d
    ·obtain⟨d,q1,q2⟩:=q;exact ih d (by omega) q2
    ·exact⟨c,h2,fun d hd h=>q ⟨d,hd,h⟩⟩
  obtain⟨c',h⟩:=this c c (aar _) hc;rw[DT h.2 h.1]at hneg;omega
 ·intro h;rw[Dz fun d hd=>h ⟨d,hd⟩];omega
theorem GO{up:List Nat}(hl:up.length≤64)(x y:Nat):dW ((List.range up.length).map (cY up)) x y=dW up y x:=by
 have hlen:((List.range up.length).map (cY up)).length=up.length:=by simp
 by_cases hx:x<up.length
 ·have e:bt ((List.range up.length).map (cY up)) x y=dW up y x:=by
   unfold bt;rw[lY hx,pY]
  cases q:dW up y x with
  |true=>
   have:=dy.1 q;exact dy.2 ⟨by omega,by omega,by omega,by rw[e,q]⟩
  |false=>
   cases r:dW ((List.range up.length).map (cY up)) x y with
   |false=>rfl
   |true=>have:=(dy.1 r).2.2.2;rw[e,q]at this;cases this
 ·cases q:dW up y x with
  |true=>have:=dy.1 q;omega
  |false=>
   cases r:dW ((List.range up.length).map (cY up)) x y with
   |false=>rfl
   |true=>have:=dy.1 r;omega
end Lat
namespace Lat
structure Jo(up o:List Nat):Prop where
 len:o.length=up.length
 lt:∀x,x∈o→x<2^up.length
 sub:∀a b,bt (kO up) a b=true→bt o a b=true
 inc:∀a b,bt o a b=true→bt (fM up) a b=true
theorem vj{o:List Nat}{a b x:Nat}(h:o[a]? =some x):bt o a b=x.testBit b:=by
 unfold bt;rw[abj,h];rfl
theorem Qz{n x y:Nat}(hx:x<2^n)(hy:y<2^n):x ||| y<2^n:=Nat.or_lt_two_pow hx hy
theorem MP{n k:Nat}(h:k<n):2^k<2^n:=Nat.pow_lt_pow_right (by omega) h
theorem Nt{up:List Nat}:∀x,x∈kO up→x<2^up.length:=by
 intro x hx;obtain⟨a,ha,rfl⟩:=aaT.1 hx;have:=ace.1 ha;exact Qz (Nat.mod_lt _ (adB _)) (MP this)
theorem yt{o:List Nat}{a:Nat}:o.getD a 0∈o∨o.getD a 0=0:=by
 rw[abj]
 cases h:o[a]? with
 |none=>exact .inr rfl
 |some x=>exact .inl (aaf h)
theorem Lh{n c:Nat}{o:List Nat}{a:Nat}(h:∀x,x∈o→x<2^n):∀x,x∈pz c o a→x<2^n:=by
 unfold pz;split
 ·intro x hx
  have hg:∀i,o.getD i 0<2^n:=fun i=>by
   rcases yt (o:=o) (a:=i)with q|q
   ·exact h _ q
   ·rw[q];exact adB _
  rcases acN hx with q|q
  ·exact h x q
  ·rw[q];exact Qz (hg _) (hg _)
 ·exact h
theorem vW{n c:Nat}{o:List Nat}(h:∀x,x∈o→x<2^n)(k:Nat):∀x,x∈fT c o k→x<2^n:=by
 induction k with
 |zero=>exact h
 |succ k ih=>rw[jt];exact Lh ih
theorem Bs{up:List Nat}(k:Nat):∀x,x∈cA up k→x<2^up.length:=by
 induction k with
 |zero=>exact Nt
 |succ k ih=>rw[jG];exact vW ih _
end Lat
namespace Lat
structure zC(up:List Nat)(a b:Nat):Prop where
 lt:bt up a b=true→b<up.length
 refl:a=b→bt up a b=true
 Hs:bt up a b=true→a≠b→bt up b a=false
 trans:∀c,c<up.length→bt up a b=true→bt up b c=true→bt up a c=true
def uj(up:List Nat)(a b:Nat):Prop:=ng (dW up) up.length a b∧ng (fun x y=>dW up y x) up.length a b
theorem I3{up:List Nat}(hb:∀x,x∈up→x<2^64)(h1:1≤up.length)(h2:up.length≤64):uS up↔(∀a,a<up.length→∀b,b<64→zC up a b)∧∀a,a<up.length→∀b,b<a→uj up a b:=by
 have h64:∀a b,bt up a b=true→b<64:=by
  intro a b h;rcases abz b 64 with q|q
  ·exact q
  ·exfalso
   have ha:=ig h;have e:up[a]? =some up[a]:=aac ha;rw[vj e]at h;have hx:=hb _ (aaf e);have:=Nat.testBit_lt_two_pow (acS hx (Nat.pow_le_pow_right (by omega) q));rw[this]at h;cases h
 constructor
 ·intro h;refine⟨fun a ha b hb=>⟨h.cl.lt a b,fun e=>e▸h.cl.refl a ha,fun q hne=>?_,fun c hc=>h.cl.trans a b c⟩,fun a ha b hb=>⟨h.join a b hb ha,h.meet a b hb ha⟩⟩
  cases e:bt up b a with
  |false=>rfl
  |true=>exact absurd (h.Hs a b q e) hne
 ·rintro⟨h3,h4⟩;refine⟨h1,h2,⟨fun a b q=>(h3 a (ig q) b (h64 _ _ q)).lt q,fun a ha=>(h3 a ha a (by omega)).refl rfl,fun a b c q r=>?_⟩,fun a b q r=>?_,fun a b hb ha=>(h4 a ha b hb).1,fun a b hb ha=>(h4 a ha b hb).2⟩
  ·have hc:=(h3 b (ig r) c (h64 _ _ r)).lt r;exact(h3 a (ig q) b (h64 _ _ q)).trans c hc q r
  ·by_cases e:a=b
   ·exact e
   ·have:=(h3 a (ig q) b (h64 _ _ q)).Hs q e;rw[r]at this;cases this
end Lat
namespace Lat
def ue(x k:Nat):Prop:=x.testBit k=true∧∀i,i<k→x.testBit i=false
theorem TF{x:Nat}(h0:x≠0)(hx:x<18446744073709551616):∃k,k<64∧ue x k:=by
 have h1:∃k,x.testBit k=true:=by
  refine abF fun h=>h0 (adD fun i=>?_);rw[Nat.zero_testBit]
  cases e:x.testBit i with
  |false=>rfl
  |true=>exact absurd ⟨i,e⟩ h
 obtain⟨k0,hk0⟩:=h1
 have:∀m k,k≤m→x.testBit k=true→∃k,ue x k:=by
  intro m
  induction m with
  |zero=>intro k h1 h2;exact⟨k,h2,fun i hi=>by omega⟩
  |succ m ih=>
   intro k h1 h2;by_cases q:∃d,d<k∧x.testBit d=true
   ·obtain⟨d,q1,q2⟩:=q;exact ih d (by omega) q2
   ·refine⟨k,h2,fun i hi=>?_⟩
    cases e:x.testBit i with
    |false=>rfl
    |true=>exact absurd ⟨i,hi,e⟩ q
 obtain⟨k,hk⟩:=this k0 k0 (aar _) hk0;refine⟨k,?_,hk⟩;refine Nat.lt_of_not_le fun h=>?_;have h2:(2:Nat)^64≤2^k:=Nat.pow_le_pow_right (by decide) h;have:=Nat.testBit_lt_two_pow (x:=x) (i:=k) (by omega);have hk1:=hk.1;rw[this]at hk1;cases hk1
theorem Ln{x k:Nat}(h:ue x k):x=2^k*(2*(x/2^(k+1))+1):=by
 have h1:x%2^k=0:=by
  refine adD fun i=>?_;rw[Nat.testBit_mod_two_pow,Nat.zero_testBit];by_cases hi:i<k
  ·rw[h.2 i hi];simp
  ·simp[hi]
 have h2:x/2^k%2=1:=by
  have:=h.1;rw[ade]at this;exact of_decide_eq_true this
 have h3:=Nat.div_add_mod x (2^k);have h4:=Nat.div_add_mod (x/2^k) 2;rw[Nat.div_div_eq_div_mul,←adx,h2]at h4;rw[h4];omega
theorem BQ{k m i:Nat}:(2^k*(2*m+1)).testBit i=(decide (k≤i)&&(if i=k then true else m.testBit (i-k-1))):=by
 rw[Nat.testBit_two_pow_mul];by_cases h:k≤i
 ·simp only[h,decide_true,ac5];by_cases e:i=k
  ·subst e;rw[ad0,if_pos rfl,Nat.testBit_zero];simp
  ·rw[if_neg e];obtain⟨j,hj⟩:∃j,i-k=j+1:=⟨i-k-1,by omega⟩;rw[hj,Nat.testBit_succ,show(2*m+1)/2=m by omega];rfl
 ·simp[h]
theorem FJ{x k:Nat}(h:ue x k):∀i,(x &&& (x-1)).testBit i=(x.testBit i&&decide (i≠k)):=by
 intro i;have e:=Ln h;generalize x/2^(k+1)=m at e;have hp:=adB k
 have e1:x-1=2^(k+1)*m+(2^k-1):=by
  rw[e,Nat.mul_add,adt,adx,Nat.mul_assoc];omega
 rw[Nat.testBit_and,e1,Nat.testBit_two_pow_mul_add _ (by rw[adx];omega)];by_cases hi:i<k+1
 ·rw[if_pos hi];by_cases e2:i=k
  ·subst e2;have:(2^i-1).testBit i=false:=Nat.testBit_lt_two_pow (by omega);rw[this];simp
  ·rw[h.2 i (by omega)];simp
 ·rw[if_neg hi,e,BQ];have h1:k≤i:=by omega
  have h2:¬i=k:=by omega
  simp[h1,h2,show i-(k+1)=i-k-1 by omega]
theorem PI{x k:Nat}(h:ue x k)(hk:k<64)(hx:x<18446744073709551616):x &&& (18446744073709551616-x)=2^k:=by
 have e:=Ln h;generalize hm:x/2^(k+1)=m at e;have hp:=adB k;have h64:2^k*2^(64-k)=18446744073709551616:=by rw[←Nat.pow_add,show k+(64-k)=64 by omega]
 have h63:2^(64-k)=2*2^(63-k):=by rw[show 64-k=(63-k)+1 by omega,adx];omega
 have hml:m<2^(63-k):=by
  rw[←hm];refine Nat.div_lt_of_lt_mul ?_;rw[←Nat.pow_add,show k+1+(63-k)=64 by omega];exact hx
 have e1:18446744073709551616-x=2^k*(2*(2^(63-k)-(m+1))+1):=by
  rw[←h64,e,←Nat.mul_sub];congr 1;omega
 refine adD fun i=>?_;rw[Nat.testBit_and,e1]
 conv=>lhs;lhs;rw[e]
 rw[BQ,BQ,Nat.testBit_two_pow];by_cases h1:k≤i
 ·by_cases h2:i=k
  ·subst h2;simp
  ·have h3:¬k=i:=fun q=>h2 q.symm;have hc:=Nat.testBit_two_pow_sub_succ hml (i-k-1);simp only[h1,h2,h3,decide_true,decide_false,ac5,if_false];rw[hc];cases m.testBit (i-k-1) <;>simp
 ·have h3:¬k=i:=by omega
  simp[h1,h3]
theorem BI:bq 0=[]:=by
 unfold bq;rw[List.filter_eq_nil_iff];intro i _;simp
theorem range_split{k n:Nat}(h:k<n):List.range n=List.range k++k::((List.range (n-k-1)).map (k+1+·)):=by
 refine acy fun i=>?_;rcases acU i k with h1|h1|h1
 ·rw[acB (by omega),abE (by simpa using h1),acB h1]
 ·subst h1;rw[acB h,abl (by simp),List.length_range,ad0];rfl
 ·rw[abl (by simp;omega),List.length_range];obtain⟨j,hj⟩:∃j,i-k=j+1:=⟨i-k-1,by omega⟩;rw[hj,adM,aaE];by_cases hi:i<n
  ·rw[acB hi,acB (by omega)];simp only[abH,abg];omega
  ·rw[aaS (by simp;omega),aaS (by simp;omega)];rfl
theorem FF{x k:Nat}(h:ue x k)(hk:k<64):bq x=k::bq (x &&& (x-1)):=by
 have hc:=FJ h;unfold bq;rw[range_split hk,acK,acK,List.filter_cons,List.filter_cons]
 have e1:∀y:Nat,(∀i,i<k→y.testBit i=false)→(List.range k).filter (fun i=>y.testBit i)=[]:=fun y hy=>by
  rw[List.filter_eq_nil_iff];intro i hi;rw[hy i (ace.1 hi)];simp
 have e2:(x &&& (x-1)).testBit k=false:=by rw[hc];simp
 rw[e1 x h.2,e1 _ (fun i hi=>by rw[hc,h.2 i hi];rfl),e2];simp only[h.1,if_true,acR,abQ,if_false];congr 1;refine List.filter_congr fun i hi=>?_;obtain⟨j,_,rfl⟩:=aaT.1 hi;rw[hc];have:k+1+j≠k:=by omega
 simp[this]
end Lat
namespace Go.Proofs.YtoepfmhnapedoaaGreatDoor
open Aml Go Lat
@[go_sem] def dH (up:List Nat):DV:= .sl 1 false (up.map fun x:Nat=>dU (x:Int))
def eN(up:List Nat):Prop:=∀x,x∈up→x<18446744073709551616
theorem eN.at_{up:List Nat}(h:eN up){i x:Nat}(hx:up[i]? =some x):x<18446744073709551616:=h x (aaf hx)
def mM(up:List Nat)(a:Int):Bool:=decide (up.length≤64∧0≤a∧a<(up.length:Int))
theorem r9{up:List Nat}{a:Int}:mM up a=true↔up.length≤64∧0≤a∧a<(up.length:Int):=decide_eq_true_iff
theorem wR(w0:W0)(up:List Nat)(a:Int)(S:St):ab Tryz.prog w0 144 [dH up,dI a] S (fun d S'=>d=dB (mM up a)∧S'=S):=by
 unfold mM;refine bI [] mx Tryz.func144 rfl rfl (by kernel_rfl) ?_;refine @aa _ (ah @Tryz.ntmps144 ?_);refine⟨fun h1=>⟨fun h2=>⟨fun h3=>⟨by omega,by omega,by omega⟩,fun h3=>h3.2.2⟩,fun h2 h3=>by omega⟩,fun h1 h2=>by omega⟩
theorem td2(n:Nat):((n:Int).tdiv 2)=((n/2:Nat):Int):=rfl
theorem tm2(n:Nat):((n:Int).tmod 2)=((n%2:Nat):Int):=rfl
theorem G1(x i:Nat):x/2^i/2=x/2^(i+1):=by rw[Nat.div_div_eq_div_mul,adx]
theorem x9{k:Nat}(h:k<64):2^k<18446744073709551616:=Nat.pow_lt_pow_right (by omega) (show k<64 from h)
theorem wN{x:Nat}(h:x<18446744073709551616):IntKind.u64.wrap (x:Int)=(x:Int):=ZS (by omega) (by omega)
theorem aJ{i:Nat}(h:i<4611686018427387905):IntKind.i64.wrap ((i:Int)+1)=((i+1:Nat):Int):=by rw[nJ (by omega) (by omega)];omega
theorem LI(w0:W0)(x k:Nat)(hx:x<18446744073709551616)(hk:k<4611686018427387904)(S:St):ab Tryz.prog w0 60 [dU (x:Int),dI (k:Int)] S (fun d S'=>d=dB (x.testBit k)∧S'=S):=by
 refine bI [] mx Tryz.func60 rfl rfl (by kernel_rfl) ?_;refine @aa _ (ah @Tryz.ntmps60 ?_);refine aQ [] k [0,1,5] (fun i=>[(0,dU ((x/2^i:Nat):Int)),(5,dI i)]) (fun _=>S) (fun _=>True) mx (by kernel_rfl) ?_ ?_
 ·refine @aa _ (av ?_);exact(Nat.div_one x).symm
 ·intro i hi _;refine @aa _ (av ?_);refine⟨fun h=>⟨h,?_,aJ (by omega)⟩,fun h=>?_⟩
  ·have:=Nat.div_le_self (x/2^i) 2;have:=Nat.div_le_self x (2^i);rw[td2,wN (by omega),G1]
  ·have e:i=k:=by omega
   subst e;rw[tm2,ade];exact decide_eq_decide.2 ⟨fun h=>by omega,fun h=>by omega⟩
theorem Yl(w0:W0)(k:Nat)(hk:k<64)(S:St):ab Tryz.prog w0 194 [dI (k:Int)] S (fun d S'=>d=dU ((2^k:Nat):Int)∧S'=S):=by
 refine bI [] mx Tryz.func194 rfl rfl (by kernel_rfl) ?_;refine @aa _ (ah @Tryz.ntmps194 ?_);refine aQ [] k [0,3,4] (fun i=>[(3,dU ((2^i:Nat):Int)),(4,dI i)]) (fun _=>S) (fun _=>True) mx (by kernel_rfl) ?_ ?_
 ·refine @aa _ (av ?_);rfl
 ·intro i hi _;refine @aa _ (av ?_);refine⟨fun h=>⟨h,?_,aJ (by omega)⟩,fun h=>by rw[show i=k by omega]⟩;have h1:((2^i:Nat):Int)*2=((2^(i+1):Nat):Int):=by rw[adx];push_cast;rfl
  have h2:=x9 (show i+1≤63+0 by omega|>fun h=>Nat.lt_succ_of_le h);rw[h1,wN h2]
theorem gB{x y:Nat}(hx:x<18446744073709551616)(hy:y<18446744073709551616):cZ .and .u64 (x:Int) (y:Int)=((x &&& y:Nat):Int):=by
 have h1:(BitVec.ofInt 64 (x:Int)).toNat=x:=by rw[adE,adS];exact adb hx
 have h2:(BitVec.ofInt 64 (y:Int)).toNat=y:=by rw[adE,adS];exact adb hy
 show IntKind.u64.wrap (((BitVec.ofInt 64 (x:Int) &&& BitVec.ofInt 64 (y:Int)).toNat:Nat):Int)=_;rw[BitVec.toNat_and,h1,h2];exact wN (ady Nat.and_le_left hx)
theorem qq{x y:Nat}(hx:x<18446744073709551616)(hy:y<18446744073709551616):cZ .or .u64 (x:Int) (y:Int)=((x ||| y:Nat):Int):=by
 have h1:(BitVec.ofInt 64 (x:Int)).toNat=x:=by rw[adE,adS];exact adb hx
 have h2:(BitVec.ofInt 64 (y:Int)).toNat=y:=by rw[adE,adS];exact adb hy
 show IntKind.u64.wrap (((BitVec.ofInt 64 (x:Int) ||| BitVec.ofInt 64 (y:Int)).toNat:Nat):Int)=_;rw[BitVec.toNat_or,h1,h2];exact wN (Nat.or_lt_two_pow (n:=64) hx hy)
theorem Vo{x k:Nat}(hk:k<64):((x:Int)).fdiv (2^min k 64)=((x/2^k:Nat):Int):=by
 rw[adA (by omega),Int.fdiv_eq_ediv_of_nonneg _ (by exact Int.le_of_lt (Int.pow_pos (by decide)))]
 push_cast;rfl
theorem Qb{x k:Nat}(hx:x<18446744073709551616)(hk:k<64):decide (cZ .and .u64 ((x:Int).fdiv (2^min k 64)) 1=1)=x.testBit k:=by
 rw[Vo hk];have:=Nat.div_le_self x (2^k);have e:=gB (x:=x/2^k) (y:=1) (by omega) (by omega);rw[show((1:Nat):Int)=1 from rfl]at e;rw[e,Nat.and_one_is_mod,ade];exact decide_eq_decide.2 ⟨fun h=>by omega,fun h=>by omega⟩
theorem wC{up:List Nat}{a b:Int}:gM up a b=true↔up.length≤64∧0≤a∧a<(up.length:Int)∧0≤b∧b<(up.length:Int)∧bt up a.toNat b.toNat=true:=by
 unfold gM;simp only[aak,decide_eq_true_eq,dy];constructor
 ·rintro⟨⟨h1,h2⟩,h3,h4,h5,h6⟩;exact⟨h3,h1,by omega,h2,by omega,h6⟩
 ·rintro⟨h1,h2,h3,h4,h5,h6⟩;exact⟨⟨h2,h4⟩,h1,by omega,by omega,h6⟩
theorem ou{up:List Nat}{a b:Int}(h:¬(up.length≤64∧0≤a∧a<(up.length:Int)∧0≤b∧b<(up.length:Int))):false=gM up a b:=by
 cases e:gM up a b with
 |false=>rfl
 |true=>rw[wC]at e;exact absurd ⟨e.1,e.2.1,e.2.2.1,e.2.2.2.1,e.2.2.2.2.1⟩ h
theorem Hh{up:List Nat}{a b:Int}(h1:up.length≤64)(h2:0≤a)(h3:a<(up.length:Int))(h4:0≤b)(h5:b<(up.length:Int)){x:Nat}(hx:up[a.toNat]? =some x):gM up a b=x.testBit b.toNat:=by
 have e:bt up a.toNat b.toNat=x.testBit b.toNat:=by unfold bt;rw[abj,hx];rfl
 rw[←e]
 cases q:bt up a.toNat b.toNat with
 |true=>exact wC.2 ⟨h1,h2,h3,h4,h5,q⟩
 |false=>
  cases r:gM up a b with
  |false=>rfl
  |true=>rw[wC,q]at r;exact absurd r.2.2.2.2.2 (by simp)
theorem qb(w0:W0)(up:List Nat)(hu:eN up)(a b:Int)(S:St):ab Tryz.prog w0 22 [dH up,dI a,dI b] S (fun d S'=>d=dB (gM up a b)∧S'=S):=by
 refine bI [] mx Tryz.func22 rfl rfl (by kernel_rfl) ?_;refine @aa _ (ah @Tryz.ntmps22 ?_);refine⟨fun h1=>⟨fun h2=>⟨fun h3=>⟨fun h4=>⟨fun h5=>⟨h2,h3,fun x hx=>?_⟩,fun h5=>ou (by omega)⟩,fun h4=>ou (by omega)⟩,fun h3=>ou (by omega)⟩,fun h2=>ou (by omega)⟩,fun h1=>ou (by omega)⟩;obtain⟨n,rfl⟩:∃n:Nat,b=(n:Int):=⟨b.toNat,by omega⟩;refine aq (LI _ x n (hu.at_ hx) (by omega) _) (@aa _ (av ?_));exact(Hh (by omega) h2 h3 h4 h5 hx).symm
theorem wO(w0:W0)(up:List Nat)(hu:eN up)(a b:Int)(S:St):ab Tryz.prog w0 110 [dH up,dI a,dI b] S (fun d S'=>d=dB (gM up a b)∧S'=S):=by
 refine bI [] mx Tryz.func110 rfl rfl (by kernel_rfl) ?_;refine @aa _ (ah @Tryz.ntmps110 ?_);refine aq (wR _ up a _) (@aa _ (av ?_));refine⟨fun h1=>aq (wR _ up b _) ?_,fun h1=>?_⟩
 ·rw[r9]at h1;refine @aa _ (av ?_);refine⟨fun h2=>?_,fun h2=>?_⟩
  ·rw[r9]at h2;refine⟨h1.2.1,h1.2.2,fun x hx=>⟨h2.2.1,?_⟩⟩;obtain⟨n,rfl⟩:∃n:Nat,b=(n:Int):=⟨b.toNat,by omega⟩;have e:=Hh h1.1 h1.2.1 h1.2.2 h2.2.1 h2.2.2 hx;rw[e,acI,←Qb (hu.at_ hx) (by omega)]
  ·exact ou fun h=>by rw[mM,decide_eq_false_iff_not]at h2;exact h2 ⟨h.1,h.2.2.2.1,h.2.2.2.2⟩
 ·exact ou fun h=>by rw[mM,decide_eq_false_iff_not]at h1;exact h1 ⟨h.1,h.2.1,h.2.2.1⟩
theorem w8(w0:W0)(up:List Nat)(hu:eN up)(a:Nat)(ha:a<up.length)(hl:up.length≤64)(S:St):ab Tryz.prog w0 143 [dH up,dI (a:Int)] S (fun d S'=>d=dU ((ca up a:Nat):Int)∧S'=S):=by
 have hw:∀x,up[a]? =some x→ca up a=x%2^up.length:=fun x hx=>by
  unfold ca;rw[abj,hx];rfl
 refine bI [] mx Tryz.func143 rfl rfl (by kernel_rfl) ?_;refine @aa _ (ah @Tryz.ntmps143 ?_);refine⟨fun h=>⟨ha,fun x hx=>?_⟩,fun h=>⟨ha,fun x hx=>?_⟩⟩
 ·have:=hu.at_ hx;rw[hw x hx,show up.length=64 by omega];exact(adb (show x<2^64 from this)).symm
 ·have hlt:up.length<64:=by omega
  have h1:=x9 hlt;have h2:0<2^up.length:=adB _;have e:(1:Int)*2^min up.length 64=((2^up.length:Nat):Int):=by rw[adA (by omega),Int.one_mul];push_cast;rfl
  have e2:((2^up.length:Nat):Int)-1=((2^up.length-1:Nat):Int):=by omega
  rw[e,wN h1,e2,wN (by omega),gB (hu.at_ hx) (by omega),Nat.and_two_pow_sub_one_eq_mod,hw x hx]
theorem fE(up:List Nat)(a b:Nat):gM up (a:Int) (b:Int)=dW up a b:=by
 unfold gM;rw[acI,acI];simp
theorem mC{up:List Nat}{a i:Nat}(h:i≤64):ix up a i<18446744073709551616:=
 acS (Iz up a i) (Nat.pow_le_pow_right (by omega) h)
theorem QB{i:Nat}(h:i<64):IntKind.u64.wrap (1*2^min i 64)=((2^i:Nat):Int):=by
 have e:(1:Int)*2^min i 64=((2^i:Nat):Int):=by rw[adA (by omega),Int.one_mul];push_cast;rfl
 rw[e,wN (x9 h)]
theorem Qd(w0:W0)(up:List Nat)(hu:eN up)(a:Nat)(hl:up.length≤64)(S:St):ab Tryz.prog w0 147 [dH up,dI (a:Int)] S (fun d S'=>d=dU ((cY up a:Nat):Int)∧S'=S):=by
 refine bI [] mx Tryz.func147 rfl rfl (by kernel_rfl) ?_;refine @aa _ (ah @Tryz.ntmps147 ?_);refine aQ [] up.length [0,1,5,8,9] (fun i=>[(5,dU ((ix up a i:Nat):Int)),(9,dI i)]) (fun _=>S) (fun _=>True) mx (by kernel_rfl) ?_ ?_
 ·refine @aa _ (av ?_);rfl
 ·intro i hi _;refine @aa _ (av ?_);refine⟨fun h=>aq (wO _ up hu i a _) ?_,fun h=>by rw[show i=up.length by omega];rfl⟩;refine @aa _ (av ?_);have e:=nN up a i;rw[fE];refine⟨fun q=>⟨h,?_,aJ (by omega)⟩,fun q=>⟨h,?_,aJ (by omega)⟩⟩
  ·rw[q,if_pos rfl]at e;rw[QB (by omega),qq (mC (by omega)) (x9 (by omega)),←e]
  ·rw[q]at e;rw[e];rfl
theorem WN(w0:W0)(up:List Nat)(hu:eN up)(a:Nat)(hl:up.length≤64)(S:St):ab Tryz.prog w0 175 [dH up,dI (a:Int)] S (fun d S'=>d=dU ((cY up a:Nat):Int)∧S'=S):=by
 refine bI [] mx Tryz.func175 rfl rfl (by kernel_rfl) ?_;refine @aa _ (ah @Tryz.ntmps175 ?_);refine aQ [] up.length [0,1,5,6] (fun i=>[(5,dU ((ix up a i:Nat):Int)),(6,dI i)]) (fun _=>S) (fun _=>True) mx (by kernel_rfl) ?_ ?_
 ·refine @aa _ (av ?_);rfl
 ·intro i hi _;refine @aa _ (av ?_);refine⟨fun h=>aq (qb _ up hu i a _) ?_,fun h=>by rw[show i=up.length by omega];rfl⟩;refine @aa _ (av ?_);have e:=Ec up a i;rw[fE];refine⟨fun q=>aq (Yl _ i (by omega) _) ?_,fun q=>⟨h,?_,aJ (by omega)⟩⟩
  ·rw[q,if_pos rfl]at e;have h1:=mC (up:=up) (a:=a) (show i+1≤64 by omega);refine @aa _ (av ?_);refine⟨h,?_,aJ (by omega)⟩;have e2:((ix up a i:Nat):Int)+((2^i:Nat):Int)=((ix up a (i+1):Nat):Int):=by rw[e];push_cast;rfl
   rw[e2,wN h1]
  ·rw[q]at e;rw[e];rfl
theorem Of(w0:W0)(up:List Nat)(hu:eN up)(hl:up.length≤64)(S:St):ab Tryz.prog w0 142 [dH up] S (fun d S'=>d=dH ((List.range up.length).map (cY up))∧S'=S):=by
 refine bI [] mx Tryz.func142 rfl rfl (by kernel_rfl) ?_;refine @aa _ (ah @Tryz.ntmps142 ?_);refine jr 3 1 rfl (by omega) fun l=>?_;refine aQ [] up.length [0,3,4] (fun i=>[(3,.acc l.n i),(4,dI i)]) (fun i=>⟨S.box,(l.n,.arr 1 (((List.range i).map (cY up)).map fun x:Nat=>dU (x:Int)))::S.acc⟩) (fun _=>True) mx (by kernel_rfl) ?_ ?_
 ·refine @aa _ (av ?_);exact .refl _
 ·intro i hi _;refine @aa _ (av ?_);refine⟨fun h=>aq (WN _ up hu i hl _) ?_,fun h=>?_⟩
  ·have e:(List.range (i+1)).map (cY up)=(List.range i).map (cY up)++[cY up i]:=by rw[adm,aaZ];rfl
   have hm8:maxLen=9223372036854775807:=rfl;have hlr:(List.range i).length=i:=List.length_range;refine @aa _ (av ?_);refine⟨hlr,by omega,by omega,h,⟨?_,aJ (by omega)⟩,?_⟩
   ·rw[hlr];exact .refl _
   ·rw[aaZ,aaZ];exact .refl _
  ·have e:i=up.length:=by omega
   subst e;exact⟨by simp,.refl _⟩
theorem Rt(w0:W0)(l m:List Nat)(h0:l.length≤4611686018427387904)(S:St):ab Tryz.prog w0 108 [dH l,dH m] S (fun d S'=>d=dB (decide (l=m))∧S'=S):=by
 refine bI [] mx Tryz.func108 rfl rfl (by kernel_rfl) ?_;refine @aa _ (ah @Tryz.ntmps108 ?_);refine⟨fun h1 h2=>h1 (congrArg List.length h2),fun h=>?_⟩;have h:l.length=m.length:=by omega
 refine aQ [] l.length [0,1,12,13] (fun i=>[(13,dI i)]) (fun i=>S) (fun i=>∀j,j<i→l[j]? =m[j]?) mx (by kernel_rfl) ?_ ?_
 ·refine @aa _ (av ?_);intro j hj;omega
 ·intro i hi hinv;refine @aa _ (av ?_);refine⟨fun hlt=>⟨hlt,fun x hx=>⟨by omega,fun y hy=>⟨fun hne e=>?_,fun he=>⟨hlt,fun j hj=>?_,aJ (by omega)⟩⟩⟩⟩,fun hge=>?_⟩
  ·rw[e,hy]at hx;exact hne (abR hx).symm
  ·by_cases e:j=i
   ·subst e;rw[hx,hy,Decidable.not_not.1 he]
   ·exact hinv j (by omega)
  ·refine acy fun j=>?_;by_cases hj:j<l.length
   ·exact hinv j (by omega)
   ·rw[aaS (by omega),aaS (by omega)]
theorem Qh(w0:W0)(up:List Nat)(hu:eN up)(hl:up.length≤64)(a b:Nat)(S:St):ab Tryz.prog w0 101 [dH up,dI (a:Int),dI (b:Int)] S (fun d S'=>d=dI (jF (dW up) up.length a b)∧S'=S):=by
 refine bI [] mx Tryz.func101 rfl rfl (by kernel_rfl) ?_;refine @aa _ (ah @Tryz.ntmps101 ?_);refine aQ [] up.length [0,1,2,7] (fun i=>[(7,dI i)]) (fun _=>S) (fun i=>∀c,c<i→¬I9 (dW up) up.length a b c) mx (by kernel_rfl) ?_ ?_
 ·refine @aa _ (av ?_);intro c hc;omega
 ·intro i hi hinv;refine @aa _ (av ?_);refine⟨fun h=>aq (qb _ up hu a i _) ?_,fun h=>?_⟩
  ·refine @aa _ (ah @fE ?_);refine⟨fun h1=>aq (qb _ up hu b i _) ?_,fun h1=>?_⟩
   all_goals
    try (simp(maxDischargeDepth:=12) (maxSteps:=1000000) -implicitDefEqProofs only[go_sem,Nat.reduceAdd,Nat.reduceSub,Nat.reduceMul,Nat.reduceLeDiff,Nat.reduceEqDiff,Nat.reduceGT,Nat.reduceBEq,reduceCtorEq,↓reduceIte,Int.reduceToNat,Int.reduceLE,Int.reduceLT,Int.reduceNe,Int.reduceEq,fE])
    refine fZ [] [0,1,2,7,8,9] (σ:=Nat×Bool) (fun s=>[(8,dB s.2),(9,dI s.1)]) (fun _=>S) (fun s=>s.1≤up.length∧(s.2=true↔dW up a i=true∧dW up b i=true∧∀d,d<s.1→dW up a d=true→dW up b d=true→dW up i d=true)) (fun s=>up.length-s.1) (0,dW up a i&&dW up b i) mx (by kernel_rfl) ⟨⟨aa6 _,?_⟩,?_⟩ ?_
    ·dsimp only;rw[aak];exact⟨fun h=>⟨h.1,h.2,fun d hd=>by omega⟩,fun h=>⟨h.1,h.2.1⟩⟩
    ·try (exact @aa _ (ft @h1))
    ·rintro⟨d,f⟩ ⟨hd,hf⟩;dsimp only at hd hf
     have hT:f=true→¬d<up.length→(i:Int)=jF (dW up) up.length a b:=fun q q2=>by
      obtain⟨k1,k2,k3⟩:=hf.1 q;exact(DT hinv ⟨h,k1,k2,fun d' hd'=>k3 d' (by omega)⟩).symm
     have hF:f=false→i<up.length∧(∀(c:Nat),c<i+1→¬I9 (dW up) up.length a b c)∧IntKind.i64.wrap ((i:Int)+1)=((i+1:Nat):Int):=fun q=>by
      refine⟨h,fun c hc hj=>?_,aJ (by omega)⟩;by_cases e:c=i
      ·subst e;have:=hf.2 ⟨hj.2.1,hj.2.2.1,fun d' hd'=>hj.2.2.2 d' (by omega)⟩;rw[q]at this;cases this
      ·exact hinv c (by omega) hj
     refine @aa _ (av ?_);refine⟨fun hlt=>⟨fun q=>aq (qb _ up hu a d _) ?_,fun q=>⟨fun q'=>absurd (q.symm.trans q') (by simp),hF⟩⟩,fun hge=>⟨fun q=>hT q hge,hF⟩⟩;refine @aa _ (ah @fE ?_)
     have step:∀f':Bool,(f'=true↔(dW up a d=true→dW up b d=true→dW up i d=true))→(f'=true↔dW up a i=true∧dW up b i=true∧∀d',d'<d+1→dW up a d'=true→dW up b d'=true→dW up i d'=true):=fun f' hf'=>by
      obtain⟨k1,k2,k3⟩:=hf.1 q;rw[hf'];constructor
      ·intro hq;refine⟨k1,k2,fun d' hd'=>?_⟩;by_cases e:d'=d
       ·subst e;exact hq
       ·exact k3 d' (by omega)
      ·intro hq;exact hq.2.2 d (by omega)
     refine⟨fun g1=>aq (qb _ up hu b d _) ?_,fun g1=>⟨(d+1,true),⟨by show d+1≤_;omega,step true ⟨fun _ g=>absurd (g1.symm.trans g) (by simp),fun _=>rfl⟩⟩,by show up.length-(d+1)<_;omega,rfl,aJ (by omega)⟩⟩;refine @aa _ (ah @fE ?_);refine⟨fun g2=>⟨(d+1,true),⟨by show d+1≤_;omega,step true ⟨fun _ _ g=>absurd (g2.symm.trans g) (by simp),fun _=>rfl⟩⟩,by show up.length-(d+1)<_;omega,rfl,aJ (by omega)⟩,fun g2=>aq (qb _ up hu i d _) ?_⟩;refine @aa _ (ah @fE ?_);exact⟨(d+1,dW up i d),⟨by show d+1≤_;omega,step _ ⟨fun g _ _=>g,fun g=>g g1 g2⟩⟩,by show up.length-(d+1)<_;omega,rfl,aJ (by omega)⟩
  ·have e:i=up.length:=by omega
   subst e;exact(Dz fun d hd=>hinv d hd.1 hd).symm
theorem GH(up:List Nat)(hl:up.length≤64):eN ((List.range up.length).map (cY up)):=by
 intro x hx;obtain⟨a,_,rfl⟩:=aaT.1 hx;exact mC hl
theorem V1(w0:W0)(up:List Nat)(hu:eN up)(hl:up.length≤64)(a b:Nat)(S:St):ab Tryz.prog w0 102 [dH up,dI (a:Int),dI (b:Int)] S (fun d S'=>d=dI (jF (fun x y=>dW up y x) up.length a b)∧S'=S):=by
 have e:jF (fun x y=>dW up y x) up.length a b=jF (dW ((List.range up.length).map (cY up))) ((List.range up.length).map (cY up)).length a b:=by
  rw[show dW ((List.range up.length).map (cY up))=fun x y=>dW up y x from funext fun x=>funext fun y=>GO hl x y];simp
 have hlen:((List.range up.length).map (cY up)).length=up.length:=by simp
 rw[e];refine bI [] mx Tryz.func102 rfl rfl (by kernel_rfl) ?_;refine @aa _ (ah @Tryz.ntmps102 ?_);refine⟨fun h=>by omega,fun h=>aq (Of _ up hu hl _) ?_⟩;refine @aa _ (av ?_);refine aq (Qh _ _ (GH up hl) (by omega) a b _) ?_;exact @aa _ bY
@[go_sem] def nD (l:List Nat):List DV:=l.map fun x:Nat=>dU (x:Int)
theorem VR{n x:Nat}(hn:n≤64)(h:x<2^n):x<18446744073709551616:=acS h (Nat.pow_le_pow_right (by omega) hn)
theorem Rq(w0:W0)(up:List Nat)(hu:eN up)(hl:up.length≤64)(S:St):ab Tryz.prog w0 109 [dH up] S (fun d S'=>d=dH (fM up)∧S'=S):=by
 have hm8:maxLen=9223372036854775807:=rfl;refine bI [] mx Tryz.func109 rfl rfl (by kernel_rfl) ?_;refine @aa _ (ah @Tryz.ntmps109 ?_);refine⟨fun h=>by omega,fun _=>?_⟩;refine jr 3 1 rfl (by omega) fun l=>?_;refine aQ [] up.length [0,3,11,12] (fun i=>[(3,.acc l.n i),(12,dI i)]) (fun i=>⟨S.box,(l.n,.arr 1 (nD ((kO up).take i)))::S.acc⟩) (fun _=>True) mx (by kernel_rfl) ?_ ?_
 ·exact @aa _ bY
 ·intro i hi _;refine @aa _ (av ?_);refine⟨fun h=>aR (w8 _ up hu i h hl _) ?_,fun h=>?_⟩
  ·have hlo:((kO up).take i).length=i:=by rw[ab2,gZ];omega
   have hwl:ca up i<18446744073709551616:=VR hl (Nat.mod_lt _ (adB _))
   have ho:(kO up).take (i+1)=(kO up).take i++[ca up i ||| 2^i]:=by
    rw[abY];congr 1;unfold kO;rw[aaE,acB h];rfl
   have hb:cZ .or .u64 (ca up i:Int) (IntKind.u64.wrap (1*2^min i 64))=((ca up i ||| 2^i:Nat):Int):=by rw[QB (by omega),qq hwl (x9 (by omega))]
   refine @aa _ (cK @hlo @hb ?_);have hmn:min i (kO up).length=i:=by rw[gZ];omega
   refine⟨hmn,by omega,by omega,h,⟨?_,aJ (by omega)⟩,?_⟩
   ·rw[hmn];exact .refl _
   ·rw[ho,aaZ];exact .refl _
  ·have e:i=up.length:=by omega
   subst e;rw[abf (by rw[gZ];exact aar _)];refine aQ [] up.length [3,26,27] (fun c=>[(27,dI c)]) (fun c=>⟨S.box,(l.n,.arr 1 (nD (cA up c)))::S.acc⟩) (fun _=>True) mx (by kernel_rfl) ?_ ?_
   ·refine @aa _ (av ?_);exact .refl _
   ·intro c hc _;refine @aa _ (av ?_);refine⟨fun hlt=>?_,fun hge=>?_⟩
    ·refine aQ [] up.length [3,5,26,27,31,32] (fun a=>[(32,dI a)]) (fun a=>⟨S.box,(l.n,.arr 1 (nD (fT c (cA up c) a)))::S.acc⟩) (fun _=>True) mx (by kernel_rfl) ?_ ?_
     ·refine @aa _ (av ?_);exact .refl _
     ·intro a ha _;have hrl:(fT c (cA up c) a).length=up.length:=by rw[nH,eV]
      refine @aa _ (ah @hrl ?_);have hrb:∀x,x∈fT c (cA up c) a→x<18446744073709551616:=fun x hx=>VR hl (vW (Bs c) a x hx);have hst:=jt c (cA up c) a;refine⟨fun h2=>⟨h2,h2,fun x hx=>?_⟩,fun h2=>?_⟩
      ·have hxb:=hrb x (aaf hx)
       have hb:(cZ .and .u64 ((x:Int).fdiv (2^min c 64)) 1=1)↔bt (fT c (cA up c) a) a c=true:=by
        rw[vj hx,←Qb hxb (by omega),decide_eq_true_eq]
       unfold pz at hst;refine⟨fun q=>⟨h2,h2,fun y hy=>⟨hlt,hlt,fun z hz=>⟨h2,h2,fun _ _=>⟨h2,aJ (by omega),?_⟩⟩⟩⟩,fun q=>⟨h2,aJ (by omega),?_⟩⟩
       ·rw[if_pos (hb.1 q),abj,hy,abj,hz]at hst;rw[hst,qq (hrb y (aaf hy)) (hrb z (aaf hz)),adv];exact .refl _
       ·rw[if_neg (fun g=>q (hb.2 g))]at hst;rw[hst];exact .refl _
      ·have e:a=up.length:=by omega
       subst e;refine⟨hlt,aJ (by omega),?_⟩;rw[jG];exact .refl _
    ·have e:c=up.length:=by omega
     subst e;exact⟨eV up _,.refl _⟩
theorem Y2(w0:W0)(up:List Nat)(hu:eN up)(h0:up.length≤4611686018427387904)(S:St):ab Tryz.prog w0 55 [dH up] S (fun d S'=>d=dB (pB (uS up))∧S'=S):=by
 refine bI [] mx Tryz.func55 rfl rfl (by kernel_rfl) ?_;refine @aa _ (ah @Tryz.ntmps55 ?_);refine⟨fun h hp=>?_,fun h=>⟨fun h' hp=>?_,fun h'=>?_⟩⟩
 ·have:=hp.pos;omega
 ·have:=hp.le;omega
 have hl:up.length≤64:=by omega
 have hpos:1≤up.length:=by omega
 have hiff:=I3 (up:=up) (fun x hx=>hu x hx) hpos hl;rw[hiff];refine aQ [] up.length [0,3] (fun a=>[(3,dI a)]) (fun _=>S) (fun a=>∀a',a'<a→∀b,b<64→zC up a' b) mx (by kernel_rfl) ?_ ?_
 ·refine @aa _ (av ?_);intro a' ha';omega
 ·intro a ha hA;refine @aa _ (av ?_);refine⟨fun hla=>?_,fun hge=>?_⟩
  ·have A3:∀b:Nat,((bt up a b=true∧up.length≤b)∨(a=b∧bt up a b=false)∨(bt up a b=true∧a≠b∧bt up b a=true))→¬zC up a b:=by
    rintro b (⟨q1,q2⟩|⟨q1,q2⟩|⟨q1,q2,q3⟩) h
    ·have:=h.lt q1;omega
    ·rw[h.refl q1]at q2;cases q2
    ·rw[h.Hs q1 q2]at q3;cases q3
   refine aQ [10] 64 [0,3,4] (fun b=>[(4,dI b)]) (fun _=>S) (fun b=>∀b',b'<b→zC up a b') mx (by kernel_rfl) ?_ ?_
   ·refine @aa _ (av ?_);intro b' hb';omega
   ·intro b hb hB;refine @aa _ (av ?_);refine⟨fun hlb=>⟨hla,fun x hx=>aq (LI _ x b (hu.at_ hx) (by omega) _) ?_⟩,fun hge=>?_⟩
    ·have hbx:=vj (b:=b) hx;refine @aa _ (av ?_);refine oN (σ:=Bool) [] [0,3,4,5,65] (fun f=>[(65,dB f)]) (fun _=>S) (fun f=>f=true↔((bt up a b=true∧up.length≤b)∨(a=b∧bt up a b=false)∨(bt up a b=true∧a≠b∧bt up b a=true))) mx (by kernel_rfl) ?_ ?_
     ·rw[hbx]
      cases hto:x.testBit b with
      |true=>
       refine @aa _ (ah @hto ?_);have st:∀q:¬up.length≤b,∀e:¬a=b,(∃s:Bool,(s=true↔up.length≤b∨¬a=b∧bt up b a=true)∧bt up b a=s):=fun q e=>⟨bt up b a,⟨fun g=> .inr ⟨e,g⟩,fun g=>g.elim (fun g=>absurd g q) (fun g=>g.2)⟩,rfl⟩;refine⟨fun q=>⟨true,⟨fun _=> .inl q,fun _=>rfl⟩,rfl⟩,fun q=>⟨fun e=>⟨fun ne=>absurd e ne,fun _=>⟨false,⟨fun g=>(by cases g),fun g=>g.elim (fun g=>absurd g q) (fun g=>absurd e g.1)⟩,rfl⟩⟩,fun e=>⟨fun _=>⟨by omega,fun y hy=>aq (LI _ y a (hu.at_ hy) (by omega) _) ?_⟩,fun ne=>absurd e ne⟩⟩⟩;refine @aa _ (av ?_);rw[←vj (b:=a) hy];exact st q e
      |false=>
       refine @aa _ (ah @hto ?_);exact⟨fun e=>⟨true,⟨fun _=>e,fun _=>rfl⟩,rfl⟩,fun e=>⟨false,⟨fun g=>(by cases g),fun g=>absurd g e⟩,rfl⟩⟩
     ·intro f hf;refine @aa _ (av ?_);refine⟨fun q hp=>A3 b (hf.1 q) (hp.1 a hla b (by omega)),fun q=>?_⟩;have hno:¬((bt up a b=true∧up.length≤b)∨(a=b∧bt up a b=false)∨(bt up a b=true∧a≠b∧bt up b a=true)):=fun g=>by rw[hf.2 g]at q;cases q
      refine aQ [] up.length [0,3,4,5,6] (fun c=>[(6,dI c)]) (fun _=>S) (fun c=>∀c',c'<c→bt up a b=true→bt up b c'=true→bt up a c'=true) mx (by kernel_rfl) ?_ ?_
      ·refine @aa _ (av ?_);intro c hc;omega
      ·intro c hc hC
       have done:(bt up a b=true→∀c',c'<up.length→bt up b c'=true→bt up a c'=true)→((b:Int)<64∧(∀b',b'<b+1→zC up a b')∧IntKind.i64.wrap ((b:Int)+1)=((b+1:Nat):Int)):=fun hq=>by
        refine⟨hlb,fun b' hb'=>?_,aJ (by omega)⟩;by_cases e:b'=b
        ·subst e;refine⟨fun g=>?_,fun g=>?_,fun g1 g2=>?_,fun c hc g1 g2=>hq g1 c hc g2⟩
         ·exact Nat.lt_of_not_le fun g2=>hno (.inl ⟨g,g2⟩)
         ·cases h:bt up a b' with
          |true=>rfl
          |false=>exact absurd (.inr (.inl ⟨g,h⟩)) hno
         ·cases h:bt up b' a with
          |false=>rfl
          |true=>exact absurd (.inr (.inr ⟨g1,g2,h⟩)) hno
        ·exact hB b' (by omega)
       rw[hbx]at hC done hno;refine @aa _ (av ?_);refine⟨fun hlc=>⟨fun q5=>⟨?_,fun y hy=>aq (LI _ y c (hu.at_ hy) (by omega) _) ?_⟩,fun q5=>?_⟩,fun hge=>?_⟩
       ·exact Nat.lt_of_not_le fun g2=>hno (.inl ⟨q5,g2⟩)
       ·have hby:=vj (b:=c) hy;refine @aa _ (av ?_);refine⟨fun q6=>⟨hla,fun z hz=>aq (LI _ z c (hu.at_ hz) (by omega) _) ?_⟩,fun q6=>⟨hlc,fun c' hc' g1 g2=>?_,aJ (by omega)⟩⟩
        ·have hbz:=vj (b:=c) hz;refine @aa _ (av ?_);refine⟨fun q7=>⟨hlc,fun c' hc' g1 g2=>?_,aJ (by omega)⟩,fun q7 hp=>?_⟩
         rotate_left
         ·have:=(hp.1 a hla b (by omega)).trans c hlc (by rw[hbx];exact q5) (by rw[hby];exact q6);rw[hbz,q7]at this;cases this
         ·by_cases e:c'=c
          ·subst e;rw[hbz];exact q7
          ·exact hC c' (by omega) (by rw[←hbx];exact g1) g2
        ·by_cases e:c'=c
         ·subst e;rw[hby,q6]at g2;cases g2
         ·exact hC c' (by omega) (by rw[←hbx];exact g1) g2
       ·have:=done fun g=>by rw[q5]at g;cases g
        exact⟨by omega,this.2⟩
       ·have e:c=up.length:=by omega
        subst e;have:=done fun g c' hc' g2=>hC c' hc' g g2;exact⟨by omega,this.2⟩
    ·have e:b=64:=by omega
     subst e;refine⟨hla,fun a' ha'=>?_,aJ (by omega)⟩;by_cases e:a'=a
     ·subst e;exact hB
     ·exact hA a' (by omega)
  ·have e:a=up.length:=by omega
   subst e;refine aQ [] up.length [0,8] (fun a=>[(8,dI a)]) (fun _=>S) (fun a=>∀a',a'<a→∀b,b<a'→uj up a' b) mx (by kernel_rfl) ?_ ?_
   ·refine @aa _ (av ?_);intro a' ha';omega
   ·intro a ha3 hP;refine @aa _ (av ?_);refine⟨fun hla=>?_,fun hge=>?_⟩
    ·refine aQ [] a [0,8,9] (fun b=>[(9,dI b)]) (fun _=>S) (fun b=>∀b',b'<b→uj up a b') mx (by kernel_rfl) ?_ ?_
     ·refine @aa _ (av ?_);intro b' hb';omega
     ·intro b hb hB;refine @aa _ (av ?_);refine⟨fun hlb=>aq (Qh _ up hu hl a b _) ?_,fun hge=>?_⟩
      ·refine @aa _ (av ?_);refine⟨fun q hp=>?_,fun q=>aq (V1 _ up hu hl a b _) ?_⟩
       ·exact(wx.1 q) (hp.2 a hla b hlb).1
       ·refine @aa _ (av ?_);refine⟨fun q2 hp=>?_,fun q2=>⟨hlb,fun b' hb'=>?_,aJ (by omega)⟩⟩
        ·exact(wx.1 q2) (hp.2 a hla b hlb).2
        ·by_cases e:b'=b
         ·subst e;exact⟨abe.1 fun g=>q (wx.2 g),abe.1 fun g=>q2 (wx.2 g)⟩
         ·exact hB b' (by omega)
      ·have e:b=a:=by omega
       subst e;refine⟨hla,fun a' ha'=>?_,aJ (by omega)⟩;by_cases e:a'=b
       ·subst e;exact hB
       ·exact hP a' (by omega)
    ·have e:a=up.length:=by omega
     subst e;exact⟨hA,hP⟩
def UF:List Int:=[0,1,56,2,57,49,28,3,61,58,42,50,38,29,17,4,62,47,59,36,45,43,51,22,53,39,33,30,24,18,12,5,63,55,48,27,60,41,37,16,46,35,44,21,52,32,23,11,54,26,40,15,34,20,31,10,25,14,19,9,13,8,7,6]
def US:List Value:=UF.map fun z=> .int .u8 z
def jv(w0:W0):Prop:=qk w0 4 US
def P5(k:Nat):Int:=(IntKind.u64.wrap (((2^k:Nat):Int)*285870213051353865)).fdiv (2^min 58 64)
theorem PY:∀k:Fin 64,0≤P5 k.val∧P5 k.val<64∧UF[(P5 k.val).toNat]? =some (k.val:Int):=by decide +kernel
theorem VH(k:Nat)(hk:k<64):US.drop ((P5 k).toNat*1)= .int .u8 (k:Int)::US.drop ((P5 k).toNat+1):=by
 obtain⟨h1,h2,h3⟩:=PY ⟨k,hk⟩;dsimp only at h1 h2 h3;rw[adt];obtain⟨hlt,hv⟩:=aad.1 h3;have hd:UF.drop (P5 k).toNat=(k:Int)::UF.drop ((P5 k).toNat+1):=by rw[List.drop_eq_getElem_cons hlt,hv]
 unfold US;rw[←List.map_drop,hd,abB,List.map_drop]
theorem tzP(w0:W0)(hg:jv w0)(x k:Nat)(hx:x<18446744073709551616)(hk:k<64)(h:ue x k)(S:St):ab Tryz.prog w0 196 [dU (x:Int)] S (fun d S'=>d=dI (k:Int)∧S'=S):=by
 have hG:=tM hg;have hne:x≠0:=by rintro rfl;have:=h.1;simp at this
 have hb:cZ .and .u64 (x:Int) (IntKind.u64.wrap (0-(x:Int)))=((2^k:Nat):Int):=by
  have e:IntKind.u64.wrap (0-(x:Int))=((18446744073709551616-x:Nat):Int):=by
   show(0-(x:Int))%18446744073709551616=_;omega
  rw[e,gB hx (by omega),PI h hk hx]
 obtain⟨h1,h2,_⟩:=PY ⟨k,hk⟩;have h4:=VH k hk;unfold P5 at h1 h2 h4;dsimp only at h1 h2;refine bI [] mx Tryz.func196 rfl rfl (by kernel_rfl) ?_;refine @aa _ (cL @Tryz.ntmps196 @hG @hb ?_);refine⟨fun q=>by omega,fun _=>⟨h1,h2,?_,?_⟩⟩
 ·show _≤64;omega
 ·rw[h4];refine @aa _ (av ?_);exact nJ (by omega) (by omega)
theorem we{ro:Option Nat}{P:Program}{ops:Array Oper}{Q:Exit→Act→World→Prop}{o:Oper}{rest:List Oper}{a:Act}{w w':World}{v:Value}(hg:o.guard=none)(hn:∀c,o.op≠ .defer c)(hr:(execOp a.eval o).run P w= .ok (.value v) w')
 (h:wpListIn (fz ro) 0 P ops Q rest (a.put o.dst v) w'):wpListIn (fz ro) 0 P ops Q (o::rest) a w:=by
 unfold wpListIn;rw[if_pos (by simp[Region.wanted,hg])];refine⟨fun _ _=>trivial,?_⟩;rw[Oper.semAt_eq _ _ _ hn,hr];exact h
theorem list_round{ro:Option Nat}{P:Program}{ops:Array Oper}{Q:Exit→Act→World→Prop}{o:Oper}{rest:List Oper}{a:Act}{w w':World}{l:Nat}{f:FuncId}{tmps:Array Value}{assign body:Code}{R:Ending→World→Prop}(hg:o.guard=none)(hn:∀c,o.op≠ .defer c)(hr:(execOp a.eval o).run P w= .ok (.round l f tmps assign body) w')
 (hR:RoundIn (fz ro) 0 P l f tmps assign body w' R) (h:∀e w'',R e w''→∃v,e= .returned v∧wpListIn (fz ro) 0 P ops Q rest (a.put o.dst v) w''):wpListIn (fz ro) 0 P ops Q (o::rest) a w:=by
 unfold wpListIn;rw[if_pos (by simp[Region.wanted,hg])];refine⟨fun _ _=>trivial,?_⟩;rw[Oper.semAt_eq _ _ _ hn,hr];refine⟨fun h=>by simp[fz,Fence.wide]at h,hR.mono fun e w'' k=>?_⟩;obtain⟨v,rfl,h⟩:=h e w'' k;exact h
theorem AO{g g':Gh}{ds:List DV}{us:List Value}(h:af g ds us)(hp:∀d,d∈ds→(∃u,d= .v u)∨d= .any):af g' ds us:=by
 refine⟨h.len,fun i d u h1 h2=>?_⟩;have hr:=h.at_ i d u h1 h2;rcases hp d (aaf h1)with⟨u',rfl⟩|rfl
 ·cases hr with
  |v _ ho=>exact .v _ ho
 ·exact .any _
def eF(l b:Nat):List DV:=wk [0,1] (dE ([.v (.func (.yield l) #[] #[]),.v (.pointer (some ⟨b,0,none⟩))]++List.replicate 14 ud))
def QL(l b k:Nat):List DV:=wk [0,1,3] (dE ([.v (.func (.yield l) #[] #[]),.v (.pointer (some ⟨b,0,none⟩)),.any,dI (k:Int)]++List.replicate 12 .any))
theorem HD(w0:W0)(hpq:∀d S,¬w0.pq d S)(hg:jv w0){l b x:Nat}(hx:x<18446744073709551616)(X:List Nat→Nat→St)(hb:∀pre y,lk (X pre y).box b=some [dU (y:Int)])
 (hup:∀pre (y y':Nat),(⟨up (X pre y).box b [dU (y':Int)],(X pre y).acc⟩:St)=X pre y') (Inv:List Nat→Prop) (hI0:Inv []) (G:Gh→Prop) (hGle:∀g g',G g→g.le g'→G g') (hGd:∀g,G g→g.nf=[]) (J:World→Prop)
 (hround:∀pre k y g w,pre++k::bq y=bq x→Inv pre→Rel w0 g (X pre y) w→G g→∃fn tmps assign body,(Instr.yield l #[.int .i64 (k:Int)]).run Tryz.prog w= .ok (.round l fn tmps assign body) w∧
  ∀ro,RoundIn (fz ro) 0 Tryz.prog l fn tmps assign body w fun e w'=>(e= .returned (.bool true)∧Inv (pre++[k])∧∃g',Rel w0 g' (X (pre++[k]) y) w'∧G g')∨(e= .returned (.bool false)∧J w'))
 (g:Gh) (w:World) (hR:Rel w0 g (X [] x) w) (hG:G g):
 Calls Tryz.prog 195 #[.func (.yield l) #[] #[],.pointer (some ⟨b,0,none⟩)] w fun e w'=>(∃r,e= .returned r)∧((Inv (bq x)∧∃g',Rel w0 g' (X (bq x) 0) w'∧G g')∨J w'):=by
 refine(gi (ro:=none) (n:=0)).1 (callsIn_of_wp_marks Tryz.func195 rfl trivial ?_ rfl);refine wpIn_mono (Q:=fun e a w'=>(e= .normal∨e= .ret)∧a.defers=[]∧((Inv (bq x)∧∃g',Rel w0 g' (X (bq x) 0) w'∧G g')∨J w')) ?_ ?_
 rotate_left
 ·rintro e a w' ⟨he,hd,hq⟩;have hres:(results Tryz.f195 a.tmps).run Tryz.prog w'= .ok (.tuple #[]) w':=by simp[results,Tryz.results195]
  rcases he with rfl|rfl
  ·show LeavesInM _ _ _ _ _ _ a.defers _ _;rw[hd];exact⟨_,hres,⟨_,rfl⟩,hq⟩
  ·show LeavesInM _ _ _ _ _ _ a.defers _ _;rw[hd];exact⟨_,hres,⟨_,rfl⟩,hq⟩
 refine(ky (lD (fun m a w=>∃pre y g,Inv pre∧m=(bq y).length∧pre++bq y=bq x∧y<18446744073709551616∧Rel w0 g (X pre y) w∧af g (eF l b) a.tmps.toList∧a.defers=[]∧G g) (m:=(bq x).length) ⟨[],x,g,hI0,rfl,rfl,hx,hR,?_,rfl,hG⟩ ?_)) none (.inl rfl)
 ·unfold eF;have h0:af g [.v (.func (.yield l) #[] #[]),.v (.pointer (some ⟨b,0,none⟩))] [.func (.yield l) #[] #[],.pointer (some ⟨b,0,none⟩)]:=af.cons (.v _ rfl) (af.cons (.v _ rfl) (af.nil g));have h1:=h0.append (af.replicate g 14);have h2:=gN [0,1] h1;exact h2
 rintro m a w ⟨pre,y,g,hinv,rfl,hpre,hy,hR,hr,hd,hG⟩;have hdk:Dk w0 g a w:= .nil (hd.trans (hGd g hG).symm);have same0:∀a:Act,Aml.Same [] a a:=fun a=>⟨fun _ _=>rfl,rfl,rfl⟩;refine lC (bg (fQ (P:=Tryz.prog) (w0:=w0) (t:=[]) (fr:=eF l b) (S:=X pre y) (Q:=fun e fr S=>(e= .normal∧y≠0∧S=X pre y∧wk [0,1] fr=eF l b)∨(e= .exit 0∧y=0∧S=X pre y)) _ (by kernel_rfl) ?_ g a a w hR hr hdk (same0 a)) ?_)
 ·unfold eF;have hb1:=hb pre y;refine @aa _ (ah @hb1 ?_);omega
 intro e a1 w1 hk
 cases e with
 |ret=>obtain⟨⟨_,_,_,_,_,_,_,q⟩,_⟩:=hk;rcases q with q|q <;>cases q.1
 |goto n=>obtain⟨⟨_,_,_,_,_,_,_,q⟩,_⟩:=hk;rcases q with q|q <;>cases q.1
 |outgrown=>obtain⟨_,_,_,_,_,_,_,q⟩:=hk;rcases q with q|q <;>cases q.1
 |panic ch=>obtain⟨⟨_,_,_,_,_,_,_,_,_,_,_,q⟩,_⟩:=hk;exact(hpq _ _ q).elim
 |exit n=>
  obtain⟨⟨_,g1,fr1,S1,k1,R1,r1,q⟩,hs⟩:=hk;rcases q with⟨q,_⟩|⟨q,rfl,rfl⟩
  ·cases q
  ·cases q;rw[BI,aco]at hpre;change Exit.inBlock 0 (fun e a w'=>(e= .normal∨e= .ret)∧a.defers=[]∧((Inv (bq x)∧∃g',Rel w0 g' (X (bq x) 0) w'∧G g')∨J w')) (.exit 0) a1 w1;simp only[Exit.inBlock,if_true];exact⟨.inl (by trivial),hs.2.1.trans hd,.inl ⟨hpre▸hinv,g1,hpre▸R1,hGle _ _ hG k1⟩⟩
 |normal=>
  obtain⟨⟨hd1,g1,fr1,S1,k1,R1,r1,q⟩,hs1⟩:=hk;rcases q with⟨_,hy0,rfl,hfr1⟩|⟨q,_⟩
  rotate_left
  ·cases q
  have hG1:=hGle _ _ hG k1;have hdf1:a1.defers=[]:=hs1.2.1.trans hd;have r1':af g1 (eF l b) a1.tmps.toList:=hfr1▸gN [0,1] r1;obtain⟨k,hk64,hlow⟩:=TF hy0 hy;have hbits:=FF hlow hk64;have hy2':y &&& (y-1)<18446744073709551616:=ady Nat.and_le_left hy;show uC Tryz.prog (.block 1 _) _ a1 w1;refine ky (lC (bg (fQ (P:=Tryz.prog) (w0:=w0) (t:=[]) (fr:=eF l b) (S:=X pre y) (Q:=fun e fr S=>e= .normal∧S=X pre y∧wk [0,1,3] fr=QL l b k) _ (by kernel_rfl) ?_ g1 a1 a1 w1 R1 r1' (.nil (hdf1.trans (hGd g1 hG1).symm)) (same0 a1)) ?_))
  ·unfold eF QL;have hb1:=hb pre y;refine @aa _ (ah @hb1 ?_);refine aq (tzP _ hg y k hy hk64 hlow _) ?_;exact @aa _ bY
  intro e a2 w2 hk2
  cases e with
  |ret=>obtain⟨⟨_,_,_,_,_,_,_,q⟩,_⟩:=hk2;cases q.1
  |goto n=>obtain⟨⟨_,_,_,_,_,_,_,q⟩,_⟩:=hk2;cases q.1
  |exit n=>obtain⟨⟨_,_,_,_,_,_,_,q⟩,_⟩:=hk2;cases q.1
  |outgrown=>obtain⟨_,_,_,_,_,_,_,q⟩:=hk2;cases q.1
  |panic ch=>obtain⟨⟨_,_,_,_,_,_,_,_,_,_,_,q⟩,_⟩:=hk2;exact(hpq _ _ q).elim
  |normal=>
   obtain⟨⟨_,g2,fr2,S2,k2,R2,r2,_,rfl,hfr2⟩,hs2⟩:=hk2;have hG2:=hGle _ _ hG1 k2;have hdf2:a2.defers=[]:=hs2.2.1.trans hdf1;have r2':af g2 (QL l b k) a2.tmps.toList:=hfr2▸gN [0,1,3] r2;refine lC (bg (fQ (P:=Tryz.prog) (w0:=w0) (t:=[]) (fr:=QL l b k) (S:=X pre y) (Q:=fun e fr S=>e= .normal∧S=X pre (y &&& (y-1))∧wk [0,1,3] fr=QL l b k) _ (by kernel_rfl) ?_ g2 a2 a2 w2 R2 r2' (.nil (hdf2.trans (hGd g2 hG2).symm)) (same0 a2)) ?_)
   ·unfold QL;have hb1:=hb pre y;have hup1:=hup pre y (y &&& (y-1))
    have hsub:IntKind.u64.wrap ((y:Int)-1)=((y-1:Nat):Int):=by
     have:(y:Int)-1=((y-1:Nat):Int):=by omega
     rw[this,wN (by omega)]
    have hand:=gB (x:=y) (y:=y-1) hy (by omega);refine @aa _ (cL @hb1 @hsub @hand ?_);exact hup1
   intro e a3 w3 hk3
   cases e with
   |ret=>obtain⟨⟨_,_,_,_,_,_,_,q⟩,_⟩:=hk3;cases q.1
   |goto n=>obtain⟨⟨_,_,_,_,_,_,_,q⟩,_⟩:=hk3;cases q.1
   |exit n=>obtain⟨⟨_,_,_,_,_,_,_,q⟩,_⟩:=hk3;cases q.1
   |outgrown=>obtain⟨_,_,_,_,_,_,_,q⟩:=hk3;cases q.1
   |panic ch=>obtain⟨⟨_,_,_,_,_,_,_,_,_,_,_,q⟩,_⟩:=hk3;exact(hpq _ _ q).elim
   |normal=>
    obtain⟨⟨_,g3,fr3,S3,k3,R3,r3,_,rfl,hfr3⟩,hs3⟩:=hk3;have hG3:=hGle _ _ hG2 k3;have hdf3:a3.defers=[]:=hs3.2.1.trans hdf2;have r3':af g3 (QL l b k) a3.tmps.toList:=hfr3▸gN [0,1,3] r3;have e0:a3.eval (.tmp 0)= .func (.yield l) #[] #[]:=ay (show aG g3 (.v (.func (.yield l) #[] #[])) _ from eA r3' (.tmp 0));have e3:a3.eval (.tmp 3)= .int .i64 (k:Int):=ay (show aG g3 (.v (.int .i64 (k:Int))) _ from eA r3' (.tmp 3))
    have hz:a3.tmps.size=16:=by
     have:=r3'.len;rw[acs]at this;exact this.symm.trans rfl
    obtain⟨fn,tmps,assign,body,hy1,hy2⟩:=hround pre k (y &&& (y-1)) g3 w3 (by rw[←hbits];exact hpre) hinv R3 hG3;obtain⟨a4,ha4⟩:∃a4:Act,a4=(a3.put (some 12) (.func (.yield l) #[] #[])).put (some 13) (.int .i64 (k:Int)):=⟨_,rfl⟩
    have e12:a4.eval (.tmp 12)= .func (.yield l) #[] #[]:=by
     rw[ha4];simp[Act.put,Act.eval,aaI,aa9,hz]
    have e13:a4.eval (.tmp 13)= .int .i64 (k:Int):=by
     rw[ha4];simp[Act.put,Act.eval,aaI,aa9,hz]
    have e33:(a3.put (some 12) (.func (.yield l) #[] #[])).eval (.tmp 3)= .int .i64 (k:Int):=by
     rw[←e3];simp[Act.put,Act.eval,aaI,aa9]
    refine lC (fR fun ro=>?_);refine we rfl (by intro c h;cases h) (v:= .func (.yield l) #[] #[]) (w':=w3) (by simp[execOp,e0]) ?_;refine we rfl (by intro c h;cases h) (v:= .int .i64 (k:Int)) (w':=w3) (by simp[execOp,e33]) ?_;change wpListIn (fz ro) 0 Tryz.prog _ _ _ ((a3.put (some 12) (.func (.yield l) #[] #[])).put (some 13) (.int .i64 (k:Int))) w3;rw[←ha4];refine list_round rfl (by intro c h;cases h) (l:=l) (f:=fn) (tmps:=tmps) (assign:=assign) (body:=body) (w':=w3) (by rw[←hy1];simp[execOp,resolve,e12,e13,Deferred.ofValue,invoke]) (hy2 ro) ?_
    have fin:∀(ops:Array Oper) (t:Bool) (w4:World) (Qc:Exit→Act→World→Prop),(∀a5:Act,a5=(a4.put (some 14) (.bool t)).put (some 15) (.bool !t)→a5.eval (.tmp 15)= .bool !t→Qc .normal a5 w4)→wpListIn (fz ro) 0 Tryz.prog ops Qc [⟨some 15,.unOp .not 4 (.tmp 14),4, "lattice.go:24", #[{on:=2,ground:=Ground.data}],none⟩] (a4.put (some 14) (.bool t)) w4:=by
     intro ops t w4 Qc hq
     have e14:(a4.put (some 14) (.bool t)).eval (.tmp 14)= .bool t:=by
      rw[ha4];simp[Act.put,Act.eval,aaI,aa9,hz]
     refine we rfl (by intro c h;cases h) (v:= .bool !t) (w':=w4) (by simp only[execOp,e14];simp[go_sem,Op.unary]) ?_;refine hq _ rfl ?_;rw[ha4];simp[Act.put,Act.eval,aaI,aa9,hz]
    have rep5:∀(t:Bool) (a5:Act),a5=(a4.put (some 14) (.bool t)).put (some 15) (.bool !t)→∀g5:Gh,af g5 (eF l b) a5.tmps.toList:=by
     rintro t a5 rfl g5;rw[ha4];have q0:=gN [0,1] r3';have q1:=bu q0 (some 12) (d:= .any) (u:= .func (.yield l) #[] #[]) (.any _);have q2:=bu q1 (some 13) (d:= .any) (u:= .int .i64 (k:Int)) (.any _);have q3:=bu q2 (some 14) (d:= .any) (u:= .bool t) (.any _);have q4:=bu q3 (some 15) (d:= .any) (u:= .bool !t) (.any _);refine AO (ds:=eF l b) q4 fun d hd=>?_;unfold eF at hd;have:d∈([.v (.func (.yield l) #[] #[]),.v (.pointer (some ⟨b,0,none⟩))]++List.replicate 14 .any:List DV):=hd;rcases aaD.1 this with h|h
     ·rcases aaJ.1 h with h|h
      ·exact .inl ⟨_,h⟩
      ·rw[aau]at h;exact .inl ⟨_,h⟩
     ·exact .inr (adH h)
    have def5:∀(t:Bool) (a5:Act),a5=(a4.put (some 14) (.bool t)).put (some 15) (.bool !t)→a5.defers=[]:=by
     rintro t a5 rfl;rw[ha4];exact hdf3
    rintro e w4 (⟨rfl,hI4,g4,R4,hG4⟩|⟨rfl,hJ⟩)
    ·refine⟨_,rfl,fin _ true w4 _ fun a5 ha5 h15=>?_⟩;change uC Tryz.prog (.cond (.tmp 15) .ret .skip) _ a5 w4;refine dY (t:=!true) h15 (fun h=>by cases h) (fun _=>oH ?_);refine⟨(bq (y &&& (y-1))).length,by rw[hbits];simp,pre++[k],y &&& (y-1),g4,hI4,rfl,?_,hy2',R4,rep5 _ _ ha5 _,def5 _ _ ha5,hG4⟩;rw[acu,←hpre,hbits];rfl
    ·refine⟨_,rfl,fin _ false w4 _ fun a5 ha5 h15=>?_⟩;change uC Tryz.prog (.cond (.tmp 15) .ret .skip) _ a5 w4;refine dY (t:=!false) h15 (fun _=>rE ?_) (fun h=>by cases h);exact⟨.inr rfl,def5 _ _ ha5,.inr hJ⟩
end Go.Proofs.YtoepfmhnapedoaaGreatDoor
namespace Go.Proofs.YtoepfmhnapedoaaGreatDoor
open Aml Go Lat Go.RowKit
theorem sA{w0:W0}{ro:Option Nat}(hg:jv w0){x b:Nat}(hx:x<18446744073709551616)(X:List Nat→Nat→St)(Z:List Nat→Nat→Nat→St)(Inv:List Nat→Prop)(hI0:Inv [])(L8:List Nat→Nat→Nat→Prop)(B:List Nat→Nat→Nat→List DV→St→Prop){fo:Operand}{ps:Array Tmp}{assign body:Code}{fr:List DV}{S:St}{Q:Exit→List DV→St→Prop}
 (hf:ev fr fo= .v (.func (.func 195) #[] #[.pointer (some ⟨b,0,none⟩)])) (hps:ps.size=1) (hrf:ji assign=true)
 (hX0:X [] x=S) (hb:∀pre y,lk (X pre y).box b=some [dU (y:Int)]) (hup:∀pre (y y':Nat),(⟨up (X pre y).box b [dU (y':Int)],(X pre y).acc⟩:St)=X pre y')
 (hnb:∀pre y,(X pre y).box.map (·.1)=S.box.map (·.1)) (hna:∀pre y,(X pre y).acc.map (·.1)=S.acc.map (·.1)) (hzb:∀pre k y,(Z pre k y).box.map (·.1)=S.box.map (·.1)) (hza:∀pre k y,(Z pre k y).acc.map (·.1)=S.acc.map (·.1))
 (hassign:∀pre k y,pre++k::bq y=bq x→Inv pre→fV Tryz.prog w0.np assign (jB ps.toList [dI (k:Int)] fr) (X pre y) (fun e fr1 T1=>e= .normal∧B pre k y fr1 T1))
 (hbody:∀(l:Nat) (r1:Loop) pre k y fr1 T1,pre++k::bq y=bq x→Inv pre→B pre k y fr1 T1→∀g a w,Rel w0.np g T1 w→af g fr1 a.tmps.toList→Dk w0.np g a w→g.obj l=some (.loop r1)→body.wpIn (fz (some l)) 0 Tryz.prog (Aml.Good w0.np g fun e _ T'=>(e= .normal∧Inv (pre++[k])∧Has (X (pre++[k]) y) T')∨(e= .ret∧L8 pre k y∧Has (Z pre k y) T')) a w)
 (hdone:Inv (bq x)→Q .normal fr (X (bq x) 0)) (hstop:∀pre k y,L8 pre k y→Q .ret fr (Z pre k y))
 (g:Gh) (a:Act) (w:World) (h1:Rel w0 g S w) (h2:af g fr a.tmps.toList) (h3:Dk w0 g a w) (hro:ro=none∨∃l0 r0,ro=some l0∧g.obj l0=some (.loop r0)):
 (Code.rangeFunc fo ps assign body).wpIn (fz ro) 0 Tryz.prog (Aml.Good w0 g Q) a w:=by
 subst hX0;refine wpIn_rangeFunc ?_;intro fn hfn;have hfo:=eA h2 fo;rw[hf]at hfo;have hgf:a.eval fo= .func (.func 195) #[] #[.pointer (some ⟨b,0,none⟩)]:=ay hfo;have hsz:=h1.below.size;have hszn:w0.np.heap.size≤w.heap.size:=hsz
 obtain⟨l,mark,dfs,W1,hW,hL1,hb1,hll,hmk⟩:∃(l:Nat) (mark:List Deferred) (dfs:Nat) (W1:World),(Instr.enterLoop fn a.tmps ps assign body (fz ro).round).run Tryz.prog w= .ok (l,mark) W1∧
  W1.heap[l]? =some (.loop {state:= .ready,pending:=none,fn,tmps:=a.tmps,params:=ps,assign,body,defers:=dfs})∧jh w.heap.size w W1∧w.heap.size≤l∧(mark=[]∨∃D,mark=[{target:= .collected D,args:= #[]}]∧w.heap.size≤D∧D≠l∧W1.heap[D]? =some (.deferred (some []))):=by
  rcases hro with rfl|⟨l0,r0,rfl,ho⟩
  ·refine⟨w.heap.size+1,[{target:= .collected w.heap.size,args:= #[]}],w.heap.size,_,run_enterLoop_outer _ _ _ _ _,?_,((jh.refl _ w).alloc (aar _) _).alloc (by simp) _,by omega,.inr ⟨w.heap.size,rfl,aar _,by omega,?_⟩⟩
   ·have:=World.alloc_heap_new (w.alloc (.deferred (some []))) (.loop {state:= .ready,pending:=none,fn,tmps:=a.tmps,params:=ps,assign,body,defers:=w.heap.size})
    rwa [World.size_alloc]at this
   ·exact(Below.heap_alloc _ _ _ (by simp)).trans (World.alloc_heap_new w _)
  ·have hl0:=(h1.below.obj l0 _ ho).1;exact⟨w.heap.size,[],r0.defers,_,run_enterLoop_inner hl0 _ _ _ _ _,World.alloc_heap_new w _,(jh.refl _ w).alloc (aar _) _,aar _,.inl rfl⟩
 obtain⟨rec,hrec⟩:∃rec:LoopState→Option Code→Loop,rec=fun st pe=>{state:=st,pending:=pe,fn,tmps:=a.tmps,params:=ps,assign,body,defers:=dfs}:=⟨_,rfl⟩;have hL1:W1.heap[l]? =some (.loop (rec .ready none)):=by rw[hrec];exact hL1
 have hob:∀k o,g.obj k=some o→k<w.heap.size:=fun k o hk=>(aaq.1 (h1.below.obj k o hk).1).1
 have hgl:∀k,w.heap.size≤k→g.obj k=none:=fun k hk=>by
  cases hx:g.obj k with
  |none=>rfl
  |some o=>have:=hob k o hx;omega
 have hwl:∀k,w.heap.size≤k→w0.gh.obj k=none:=fun k hk=>by
  cases hx:w0.gh.obj k with
  |none=>rfl
  |some o=>have:=hob k o (h1.below.fx.obj k o hx);omega
 obtain⟨pin,hpin⟩:∃pin:Option Obj→Nat→Option Obj,pin=fun o k=>if k=l then o else uZ W1 k:=⟨_,rfl⟩
 have hpl:∀o,pin o l=o:=fun o=>by rw[hpin];simp
 have hpk:∀o k,k≠l→pin o k=uZ W1 k:=fun o k hk=>by rw[hpin];simp[hk]
 have h1W:=h1.grow hb1;have hne0:∀k o,w0.gh.obj k=some o→k≠l:=by rintro k o hk rfl;rw[hwl _ hll]at hk;cases hk
 have hsub:∀o,w0.np.gh.sub (g.aj (pin o)):=fun o=>⟨h1.below.fx.aY,h1.below.fx.acc,fun k o' hk=>by
  show pin o k=some o';rw[hpk o k (hne0 k o' hk)];have:=h1W.below.obj k o' (h1W.below.fx.obj k o' hk);exact mu this.1 this.2⟩
 let G:Gh→Prop:=fun g'=>(∀b i u,g.aY b i=some u→g'.aY b i=some u)∧(∀n m u,g.acc n m=some u→g'.acc n m=some u)∧g'.obj=pin (some (.loop (rec .ready none)))∧g'.nf=[]
 let J:World→Prop:=fun w'=>∃pre k y g',L8 pre k y∧Rel w0.np g' (Z pre k y) w'∧((∀b i u,g.aY b i=some u→g'.aY b i=some u)∧(∀n m u,g.acc n m=some u→g'.acc n m=some u)∧g'.obj=pin (some (.loop (rec .done (some .ret))))∧g'.nf=[])
 have R1:Rel w0.np ((g.aj (pin (some (.loop (rec .ready none))))).aF []) (X [] x) W1:=by
  refine Rel.aF (w0:=w0.np) (h1W.aj (w0':=w0.np) rfl (fun k o hk=>?_) (hsub _)) [] rfl (hsub _);by_cases e:k=l
  ·subst e;rw[hpl]at hk;cases hk;exact⟨hL1,rfl⟩
  ·rw[hpk _ _ e]at hk;exact ur hk
 have hpqn:∀d S,¬(w0.np).pq d S:=fun _ _ h=>h;have nX:∀pre y,((X pre y).box.map (·.1)).Nodup∧((X pre y).acc.map (·.1)).Nodup:=fun pre y=>⟨by rw[hnb];exact h1.nb,by rw[hna];exact h1.na⟩;have nZ:∀pre k y,((Z pre k y).box.map (·.1)).Nodup∧((Z pre k y).acc.map (·.1)).Nodup:=fun pre k y=>⟨by rw[hzb];exact h1.nb,by rw[hza];exact h1.na⟩
 have hround:∀pre k y g3 w3,pre++k::bq y=bq x→Inv pre→Rel w0.np g3 (X pre y) w3→G g3→∃fn tmps assign body,(Instr.yield l #[.int .i64 (k:Int)]).run Tryz.prog w3= .ok (.round l fn tmps assign body) w3∧
  ∀ro,RoundIn (fz ro) 0 Tryz.prog l fn tmps assign body w3 fun e w'=>(e= .returned (.bool true)∧Inv (pre++[k])∧∃g',Rel w0.np g' (X (pre++[k]) y) w'∧G g')∨(e= .returned (.bool false)∧J w'):=by
  intro pre k y g3 w3 hpre hinv R3 hG3;obtain⟨hi3,hac3,ho3,hd3⟩:=hG3;have hl3g:g3.obj l=some (.loop (rec .ready none)):=by rw[ho3,hpl]
  have hl3:=(R3.below.obj l _ hl3g).1;have hy:=run_yield (P:=Tryz.prog) (args:= #[.int .i64 (k:Int)]) hl3 (by rw[hrec];exact hps.symm);rw[hrec]at hy;dsimp only at hy;refine⟨_,_,_,_,hy,fun ro=>roundIn_of_wpIn (F:=fz ro) (n:=0) trivial ?_⟩;have hfr0:af g3 fr a.tmps.toList:=⟨h2.len,fun i d u a1 a2=>aG.of (g:=g) hi3 hac3 (h2.at_ i d u a1 a2)⟩
  have hfr:af g3 (jB ps.toList [dI (k:Int)] fr) (((ps.zip #[.int .i64 (k:Int)]).foldl (fun t (p,v)=>t.setIfInBounds p v) a.tmps).toList):=by
   have:=nK (g:=g3) ps.toList [dI (k:Int)] [.int .i64 (k:Int)] (fr:=fr) (us:=a.tmps) hfr0 (af.cons (.v _ rfl) (af.nil _));rw[show [Value.int .i64 (k:Int)]=(#[Value.int .i64 (k:Int)]:Array Value).toList from rfl,←Array.toList_zip,Array.foldl_toList]at this;exact this
  refine wpIn_mono (hassign pre k y hpre hinv g3 {tmps:=_,defers:=[]} w3 R3 hfr (.nil hd3.symm) (some l) (.inr hrf)) ?_;rintro e a4 w4 ⟨hd4,g4,fr4,T4,k1,k2,k3,k4⟩
  cases e with
  |exit n=>cases k4.1
  |goto n=>cases k4.1
  |ret=>cases k4.1
  |outgrown=>cases k4.1
  |panic ch=>obtain⟨_,_,_,_,h⟩:=k4;exact h.elim
  |normal=>
   have hl4g:g4.obj l=some (.loop (rec .ready none)):=by rw[k1.obj];exact hl3g
   have hl4:=(k2.below.obj _ _ hl4g).1;refine⟨_,run_beginRound hl4 (by rw[hrec]),?_⟩;have hlt4:l<w4.heap.size:=(aaq.1 hl4).1;have hbz:({rec .ready none with state:= .busy}:Loop)=rec .busy none:=by rw[hrec]
   rw[hbz];have ho4:g4.obj=pin (some (.loop (rec .ready none))):=k1.obj.trans ho3;have s4:∀o,w0.np.gh.sub (g4.aj (pin o)):=fun o=>⟨k2.below.fx.aY,k2.below.fx.acc,(hsub o).obj⟩
   have R4x:Rel w0.np (g4.aj (pin none)) T4 w4:=k2.aj rfl (fun k' o hk=>by
    by_cases e:k'=l
    ·subst e;rw[hpl]at hk;cases hk
    ·exact k2.below.obj k' o (by rw[ho4,hpk _ _ e];rw[hpk _ _ e]at hk;exact hk)) (s4 _)
   have hh5:∀k',k'≠l→(w4.putObj l (.loop (rec .busy none))).heap[k']? =w4.heap[k']? :=fun k' hk=>World.putObj_heap_other hk;have R4y:=R4x.putObj (o':= .loop (rec .busy none)) hl4 rfl (hpl none) (ack hszn hll)
   have R5:Rel w0.np (g4.aj (pin (some (.loop (rec .busy none))))) T4 (w4.putObj l (.loop (rec .busy none))):=R4y.aj (ob:=pin (some (.loop (rec .busy none)))) rfl (fun k' o hk=>by
    by_cases e:k'=l
    ·subst e;rw[hpl]at hk;cases hk;exact⟨World.putObj_heap_same hlt4,rfl⟩
    ·rw[hh5 k' e];exact k2.below.obj k' o (by rw[ho4,hpk _ _ e];rw[hpk _ _ e]at hk;exact hk)) (s4 _)
   have hD5:Dk w0.np (g4.aj (pin (some (.loop (rec .busy none))))) a4 (w4.putObj l (.loop (rec .busy none))):=by
    obtain⟨ms,em,hn4,hd4⟩:=hd4;refine⟨ms,by rw[em];show ms++_=ms++g4.nf;rw[k1.nf],hn4,fun d hd=>?_⟩;obtain⟨D,e1,e2,e3,e4⟩:=hd4 d hd;have hne:D≠l:=by rintro rfl;rw[hl4]at e2;cases e2
    refine⟨D,e1,(hh5 D hne).trans e2,?_,e4⟩;show pin _ D=none;rw[hpk _ _ hne,←hpk (some (.loop (rec .ready none))) _ hne,←ho3];exact e3
   refine wpIn_mono (hbody l (rec .busy none) pre k y fr4 T4 hpre hinv k4.2 _ a4 _ R5 k3.aj hD5 (hpl _)) ?_;rintro e a6 w6 ⟨_,g6,fr6,T6,q1,q2,q3,q4⟩;have hg6:g6.obj=pin (some (.loop (rec .busy none))):=q1.obj;have hl6:=(q2.below.obj l (.loop (rec .busy none)) (by rw[hg6,hpl])).1;have hlt6:l<w6.heap.size:=(aaq.1 hl6).1;have hi6:∀b i u,g.aY b i=some u→g6.aY b i=some u:=fun b i u h=>q1.aY _ _ _ (k1.aY _ _ _ (hi3 _ _ _ h));have hac6:∀n m u,g.acc n m=some u→g6.acc n m=some u:=fun b i u h=>q1.acc _ _ _ (k1.acc _ _ _ (hac3 _ _ _ h));have s6:∀o,w0.np.gh.sub (g6.aj (pin o)):=fun o=>⟨q2.below.fx.aY,q2.below.fx.acc,(hsub o).obj⟩
   have turn:∀(o':Loop),Rel w0.np ((g6.aj (pin (some (.loop o')))).aF []) T6 (w6.putObj l (.loop o')):=by
    intro o'
    have R6x:Rel w0.np (g6.aj (pin none)) T6 w6:=q2.aj rfl (fun k' o hk=>by
     by_cases e:k'=l
     ·subst e;rw[hpl]at hk;cases hk
     ·exact q2.below.obj k' o (by rw[hg6,hpk _ _ e];rw[hpk _ _ e]at hk;exact hk)) (s6 _)
    have R6y:=R6x.putObj (o':= .loop o') hl6 rfl (hpl none) (ack hszn hll)
    have R7:Rel w0.np (g6.aj (pin (some (.loop o')))) T6 (w6.putObj l (.loop o')):=R6y.aj (ob:=pin (some (.loop o'))) rfl (fun k' o hk=>by
     by_cases e:k'=l
     ·subst e;rw[hpl]at hk;cases hk;exact⟨World.putObj_heap_same hlt6,rfl⟩
     ·rw[World.putObj_heap_other e];exact q2.below.obj k' o (by rw[hg6,hpk _ _ e];rw[hpk _ _ e]at hk;exact hk)) (s6 _)
    exact R7.aF [] rfl (s6 _)
   cases e with
   |exit n=>rcases q4 with q|q <;>cases q.1
   |goto n=>rcases q4 with q|q <;>cases q.1
   |outgrown=>rcases q4 with q|q <;>cases q.1
   |panic ch=>obtain⟨_,_,_,_,h⟩:=q4;exact h.elim
   |normal=>
    rcases q4 with⟨_,hI6,hHas⟩|⟨q,_⟩
    rotate_left
    ·cases q
    have he:=run_endRound (P:=Tryz.prog) none hl6;have hbr:({rec .busy none with state:=if(none:Option Code).isNone then .ready else .done,pending:=none}:Loop)=rec .ready none:=by rw[hrec];rfl
    rw[hbr]at he;exact⟨.bool true,_,he,.inl ⟨rfl,hI6,_,(turn (rec .ready none)).has hHas (nX _ _).1 (nX _ _).2,hi6,hac6,rfl,rfl⟩⟩
   |ret=>
    rcases q4 with⟨q,_⟩|⟨_,hst,hHas⟩
    ·cases q
    have he:=run_endRound (P:=Tryz.prog) (some .ret) hl6;have hbr:({rec .busy none with state:=if(some Code.ret:Option Code).isNone then .ready else .done,pending:=some .ret}:Loop)=rec .done (some .ret):=by rw[hrec];rfl
    rw[hbr]at he;exact⟨.bool false,_,he,.inr ⟨rfl,pre,k,y,_,hst,(turn (rec .done (some .ret))).has hHas (nZ _ _ _).1 (nZ _ _ _).2,hi6,hac6,rfl,rfl⟩⟩
 have hok:okF Tryz.prog 195=true:=by kernel_rfl
 have fin:∀(S2:St) (g2:Gh) (w2:World) (r2:Loop),Rel w0.np g2 S2 w2→(∀b i u,g.aY b i=some u→g2.aY b i=some u)→(∀n m u,g.acc n m=some u→g2.acc n m=some u)→g2.obj=pin (some (.loop r2))→∀o':Obj,∀(e:Exit),Qp w0 ((g2.aj g.obj).aF g.nf) Q e fr S2→Aml.Good w0 g Q e {a with defers:=mark++a.defers} (w2.putObj l o'):=by
  intro S2 g2 w2 r2 R2 hi hac ho o' e hq;have hkeep:∀(k:Nat) (o:Obj),k≠l→W1.heap[k]? =some o→nc o=true→w2.heap[k]? =some o:=fun k o hk p1 p2=>(R2.below.obj k o (by rw[ho,hpk _ _ hk];exact mu p1 p2)).1;have hl2:=(R2.below.obj l (.loop r2) (by rw[ho,hpl])).1;have hoth:∀k,k≠l→(w2.putObj l o').heap[k]? =w2.heap[k]? :=fun k hk=>World.putObj_heap_other hk;have hsub2:w0.gh.sub (g2.aj g.obj):=⟨R2.below.fx.aY,R2.below.fx.acc,h1.below.fx.obj⟩
  have Rb:Rel w0 (g2.aj g.obj) S2 w2:=R2.aj (w0':=w0) rfl (fun k o hk=>by
   obtain⟨p1,p2⟩:=h1.below.obj k o hk;have hlt:=hob k o hk;exact⟨hkeep k o (by omega) ((hb1.block k hlt).trans p1) p2,p2⟩) hsub2
  have Rc:=(Rb.putObj (o':=o') hl2 rfl (hgl _ hll) (ack hsz hll)).aF g.nf rfl hsub2;refine⟨?_,(g2.aj g.obj).aF g.nf,fr,S2,⟨hi,hac,rfl,rfl⟩,Rc,⟨h2.len,fun i d u p q=>(aG.of (g:=g) hi hac (h2.at_ i d u p q)).aj.aF⟩,hq⟩;obtain⟨ms,em,hn,hms⟩:=h3
  have old:∀d,d∈ms→∃D,d={target:= .collected D,args:= #[]}∧(w2.putObj l o').heap[D]? =some (.deferred (some []))∧g.obj D=none∧w0.heap.size≤D:=fun d hd=>by
   obtain⟨D,e1,e2,e3,e4⟩:=hms d hd;have hlt:=(aaq.1 e2).1;exact⟨D,e1,(hoth D (by omega)).trans (hkeep D _ (by omega) ((hb1.block D hlt).trans e2) rfl),e3,e4⟩
  rcases hmk with rfl|⟨D,rfl,hD1,hD2,hD3⟩
  ·exact⟨ms,em,hn,old⟩
  ·refine⟨{target:= .collected D,args:= #[]}::ms,by show _::a.defers=_;rw[em];rfl,?_,fun d hd=>?_⟩
   ·rw[aaV];refine⟨fun hm=>?_,hn⟩;obtain⟨D',e1,e2,_⟩:=hms _ hm;have:D=D':=by injection e1 with e1 _;injection e1
    subst this;have:=(aaq.1 e2).1;omega
   ·rcases aaJ.1 hd with rfl|hd
    ·exact⟨D,rfl,(hoth D hD2).trans (hkeep D _ hD2 hD3 rfl),hgl _ hD1,ack hsz hD1⟩
    ·exact old d hd
 refine⟨l,mark,W1,{target:= .fn (.func 195) #[.pointer (some ⟨b,0,none⟩)],args:= #[.func (.yield l) #[] #[]]},W1,195, #[.func (.yield l) #[] #[],.pointer (some ⟨b,0,none⟩)],W1,hW,?_,fun _ _=>trivial,?_,fun h=>by simp[fz,Fence.wide]at h,?_⟩
 ·simp only[resolve,hgf];simp[go_sem]
 ·unfold okF at hok;split at hok
  ·rename_i fn' hfn';simp only[aak,abU]at hok;obtain⟨hb,hname⟩:=hok;have hbn:¬fn'.body=none:=by intro e;simp[e]at hb
   have hname':¬fn'.name= "runtime.NumGoroutine" :=by simpa using hname
   simp[invoke,callFunc,hfn',hname',hbn]
  ·cases hok
 ·have hGle:∀g g',G g→g.le g'→G g':=fun g1 g2 ⟨p1,p2,p3,p4⟩ k=>⟨fun b i u h=>k.aY _ _ _ (p1 _ _ _ h),fun b i u h=>k.acc _ _ _ (p2 _ _ _ h),k.obj.trans p3,k.nf.trans p4⟩;refine gi.2 ((HD w0.np hpqn hg hx X hb hup Inv hI0 G hGle (fun _ h=>h.2.2.2) J hround _ W1 R1 ⟨fun _ _ _ h=>h,fun _ _ _ h=>h,rfl,rfl⟩).mono ?_);rintro e w2 ⟨⟨r,rfl⟩,⟨hIe,g2,R2,hi,hac,ho,hd⟩|⟨pre,k,y,g2,hst,R2,hi,hac,ho,hd⟩⟩
  ·have hl2:=(R2.below.obj l _ (by rw[ho,hpl])).1;have he:=run_endLoop (P:=Tryz.prog) hl2 (by rw[hrec];simp);rw[show(rec .ready none).pending=none by rw[hrec]]at he;exact⟨none,_,he,fin _ g2 w2 _ R2 hi hac ho _ .normal (hdone hIe)⟩
  ·have hl2:=(R2.below.obj l _ (by rw[ho,hpl])).1;have he:=run_endLoop (P:=Tryz.prog) hl2 (by rw[hrec];simp);rw[show(rec .done (some .ret)).pending=some .ret by rw[hrec]]at he;exact⟨some .ret,_,he,wpIn_ret (fin _ g2 w2 _ R2 hi hac ho _ .ret (hstop _ _ _ hst))⟩
end Go.Proofs.YtoepfmhnapedoaaGreatDoor
namespace Go.Proofs.YtoepfmhnapedoaaGreatDoor
open Aml Go Lat
theorem Qw(w0:W0)(x:Nat)(S:St):ab Tryz.prog w0 176 [dU (x:Int)] S (fun d S'=>∃b:FN S.box,d= .v (.func (.func 195) #[] #[.pointer (some ⟨b.n,0,none⟩)])∧S'=⟨(b.n,[dU (x:Int)])::S.box,S.acc⟩):=by
 refine lO [] mx Tryz.func176 rfl rfl (by kernel_rfl) ?_;simp(maxDischargeDepth:=12) (maxSteps:=1000000) -implicitDefEqProofs only[Tryz.ntmps176,go_sem,Nat.reduceAdd,Nat.reduceSub,Nat.reduceMul,Nat.reduceLeDiff,Nat.reduceEqDiff,Nat.reduceGT,Nat.reduceBEq,reduceCtorEq,↓reduceIte,Int.reduceToNat,Int.reduceLE,Int.reduceLT,Int.reduceNe,Int.reduceEq];exact fun b=>⟨b,rfl,rfl⟩
theorem PV(p:Tmp)(d:DV)(fr:List DV):jB [p] [d] fr=fr.set p d:=rfl
theorem tU{x k:Nat}{pre l:List Nat}(h:pre++k::l=bq x):k<64:=by
 have:k∈bq x:=by rw[←h];simp
 exact(vO.1 this).1
theorem bU{α:Type}{l:List (Nat×α)}(b:FN l){c:Nat}{x:α}(h:lk l c=some x):(b.n=c)=False:=an b c (by rw[h];rfl)
theorem qj{α:Type}{l l':List (Nat×α)}{d:α}{b c:Nat}{x:α}(h:(b=c)=False)(h':lk l c=some x):lk ((b,d)::l) c=some x:=by
 unfold lk;rw[if_neg (by first|(rw[h];exact id)|(intro e;exact h.mp e.symm))];exact h'
def Rs(l:Nat)(r1:Loop)(P:Program)(w0:W0)(c:Code)(fr:List DV)(S:St)(Q:Exit→List DV→St→Prop):Prop:=
 ∀g a w,Rel w0 g S w→af g fr a.tmps.toList→Dk w0 g a w→g.obj l=some (.loop r1)→c.wpIn (fz (some l)) 0 P (Aml.Good w0 g Q) a w
theorem Cb{l:Nat}{r1:Loop}{P:Program}{w0:W0}{c:Code}{fr:List DV}{S:St}{Q:Exit→List DV→St→Prop}(hn:ji c=true)(h:fV P w0 c fr S Q):Rs l r1 P w0 c fr S Q:=fun g a w h1 h2 h3 _=>h g a w h1 h2 h3 (some l) (.inr hn)
theorem vZ{l:Nat}{r1:Loop}{P:Program}{w0:W0}{x y:Code}{fr:List DV}{S:St}{Q:Exit→List DV→St→Prop}(h:Rs l r1 P w0 x fr S (iv (fun fr S=>Rs l r1 P w0 y fr S Q) Q)):Rs l r1 P w0 (.seq x y) fr S Q:=by
 intro g a w h1 h2 h3 h4;refine wpIn_seq (wpIn_mono (h g a w h1 h2 h3 h4) ?_);intro e a' w' hg;obtain⟨hd,g',fr',S',k1,k2,k3,k4⟩:=hg
 cases e with
 |normal=>exact wpIn_mono (k4 g' a' w' k2 k3 (k1.dk hd) (k1.obj▸h4)) fun _ _ _ k=>k.of_le k1
 |exit n=>exact⟨hd,g',fr',S',k1,k2,k3,k4⟩
 |goto n=>exact⟨hd,g',fr',S',k1,k2,k3,k4⟩
 |ret=>exact⟨hd,g',fr',S',k1,k2,k3,k4⟩
 |panic ch=>exact⟨hd,g',fr',S',k1,k2,k3,k4⟩
 |outgrown=>exact⟨hd,g',fr',S',k1,k2,k3,k4⟩
theorem vY{l n:Nat}{r1:Loop}{P:Program}{w0:W0}{c:Code}{fr:List DV}{S:St}{Q:Exit→List DV→St→Prop}(h:Rs l r1 P w0 c fr S (gH n Q)):Rs l r1 P w0 (.block n c) fr S Q:=by
 intro g a w h1 h2 h3 h4;refine wpIn_block (wpIn_mono (h g a w h1 h2 h3 h4) ?_);intro e a' w' hg;obtain⟨hd,g',fr',S',k1,k2,k3,k4⟩:=hg
 cases e with
 |normal=>exact⟨hd,g',fr',S',k1,k2,k3,k4⟩
 |exit m=>
  simp only[Exit.inBlock];simp only[Qp,gH]at k4;split
  ·rename_i e;rw[if_pos e]at k4;exact⟨hd,g',fr',S',k1,k2,k3,k4⟩
  ·rename_i e;rw[if_neg e]at k4;exact⟨hd,g',fr',S',k1,k2,k3,k4⟩
 |goto n=>exact⟨hd,g',fr',S',k1,k2,k3,k4⟩
 |ret=>exact⟨hd,g',fr',S',k1,k2,k3,k4⟩
 |panic ch=>exact⟨hd,g',fr',S',k1,k2,k3,k4⟩
 |outgrown=>exact⟨hd,g',fr',S',k1,k2,k3,k4⟩
def zi(le:Nat→Nat→Bool)(x a:Nat):Bool:=(bq x).all fun d=>le a d
theorem R8(w0:W0)(hg:jv w0)(x:Nat)(hx:x<18446744073709551616)(fl bx:Nat)(hok:okF Tryz.prog fl=true)(ds:List DV)(le:Nat→Nat→Bool)
 (hle:∀(w1:W0) (c d:Nat) (T:St),c<64→d<64→lk T.box bx=some ds→ab Tryz.prog w1 fl [dI (c:Int),dI (d:Int),.v (.pointer (some ⟨bx,0,none⟩))] T (fun d' T'=>d'=dB (le c d)∧T'=T)) (S:St) (hbx:lk S.box bx=some ds):
 ab Tryz.prog w0 145 [dU (x:Int),.v (.func (.func fl) #[] #[.pointer (some ⟨bx,0,none⟩)])] S (fun d S'=>(∃r:Int,d=dI r∧((r= -1∧∀a,a∈bq x→zi le x a=false)∨∃pre k rest,r=(k:Nat)∧pre++k::rest=bq x∧(∀a,a∈pre→zi le x a=false)∧zi le x k=true))∧S'=S):=by
 refine mh [] mx Tryz.func145 rfl rfl (by kernel_rfl) ?_;simp(maxDischargeDepth:=12) (maxSteps:=1000000) -implicitDefEqProofs only[go_sem,Nat.reduceAdd,Nat.reduceSub,Nat.reduceMul,Nat.reduceLeDiff,Nat.reduceEqDiff,Nat.reduceGT,Nat.reduceBEq,reduceCtorEq,↓reduceIte,Int.reduceToNat,Int.reduceLE,Int.reduceLT,Int.reduceNe,Int.reduceEq,Tryz.ntmps145];intro b2 b3 b4;have e2:=bU b2 hbx;have g2:=fun d=>qj (l':=S.box) (d:=d) e2 hbx;have e3:=bU b3 (g2 _);have g3:=fun d d'=>qj (l':=S.box) (d:=d) e3 (g2 d');have e4:=bU b4 (g3 _ _);have g4:=fun d d' d''=>qj (l':=S.box) (d:=d) e4 (g3 d' d'');refine aw (Qw _ x _) ?_;rintro _ _ ⟨be,rfl,rfl⟩;have e5:=bU be (g4 _ _ _);have g5:=fun d d' d'' d3=>qj (l':=S.box) (d:=d) e5 (g4 d' d'' d3);simp(maxDischargeDepth:=12) (maxSteps:=1000000) -implicitDefEqProofs only[go_sem,Nat.reduceAdd,Nat.reduceSub,Nat.reduceMul,Nat.reduceLeDiff,Nat.reduceEqDiff,Nat.reduceGT,Nat.reduceBEq,reduceCtorEq,↓reduceIte,Int.reduceToNat,Int.reduceLE,Int.reduceLT,Int.reduceNe,Int.reduceEq];intro g a w h1 h2 h3 ro hro;have hro:ro=none:=hro.resolve_right (by simp[ji])
 refine sA hg hx (b:=be.n) (fun pre y=>⟨(be.n,[dU (y:Int)])::(b4.n,[dI 0])::(b3.n,[.v (.func (.func fl) #[] #[.pointer (some ⟨bx,0,none⟩)])])::(b2.n,[dU (x:Int)])::S.box,S.acc⟩) (fun pre k y=>⟨(be.n,[dU (y:Int)])::(b4.n,[dI (k:Int)])::(b3.n,[.v (.func (.func fl) #[] #[.pointer (some ⟨bx,0,none⟩)])])::(b2.n,[dU (x:Int)])::S.box,S.acc⟩)
  (fun pre=>∀a,a∈pre→zi le x a=false) (fun _ h=>by cases h) (fun pre k y=>pre++k::bq y=bq x∧(∀a,a∈pre→zi le x a=false)∧zi le x k=true)
  (fun pre k y fr1 T1=>∀l r1,(∀a,a∈pre→zi le x a=false)→Rs l r1 Tryz.prog w0.np _ fr1 T1 fun e _ T'=>(e= .normal∧(∀a,a∈pre++[k]→zi le x a=false)∧Has ⟨(be.n,[dU (y:Int)])::(b4.n,[dI 0])::(b3.n,[.v (.func (.func fl) #[] #[.pointer (some ⟨bx,0,none⟩)])])::(b2.n,[dU (x:Int)])::S.box,S.acc⟩ T')∨(e= .ret∧(pre++k::bq y=bq x∧(∀a,a∈pre→zi le x a=false)∧zi le x k=true)∧Has ⟨(be.n,[dU (y:Int)])::(b4.n,[dI (k:Int)])::(b3.n,[.v (.func (.func fl) #[] #[.pointer (some ⟨bx,0,none⟩)])])::(b2.n,[dU (x:Int)])::S.box,S.acc⟩ T'))
  rfl rfl (by kernel_rfl) rfl ?_ ?_ (fun _ _=>rfl) (fun _ _=>rfl) (fun _ _ _=>rfl) (fun _ _ _=>rfl) ?_ (fun l r1 pre k y fr1 T1 hpre hinv hB g a w q1 q2 q3 q4=>hB l r1 hinv g a w q1 q2 q3 q4) ?_ ?_ g a w h1 h2 h3 (.inl hro)
 ·intro pre y;simp(maxDischargeDepth:=12) (maxSteps:=1000000) -implicitDefEqProofs only[go_sem,Nat.reduceAdd,Nat.reduceSub,Nat.reduceMul,Nat.reduceLeDiff,Nat.reduceEqDiff,Nat.reduceGT,Nat.reduceBEq,reduceCtorEq,↓reduceIte,Int.reduceToNat,Int.reduceLE,Int.reduceLT,Int.reduceNe,Int.reduceEq]
 ·intro pre y y';simp(maxDischargeDepth:=12) (maxSteps:=1000000) -implicitDefEqProofs only[go_sem,Nat.reduceAdd,Nat.reduceSub,Nat.reduceMul,Nat.reduceLeDiff,Nat.reduceEqDiff,Nat.reduceGT,Nat.reduceBEq,reduceCtorEq,↓reduceIte,Int.reduceToNat,Int.reduceLE,Int.reduceLT,Int.reduceNe,Int.reduceEq]
 ·intro pre k y hpre hinv;have hk64:=tU hpre;refine bh (ss:=[]) mx _ (by kernel_rfl) ?_;simp(maxDischargeDepth:=12) (maxSteps:=1000000) -implicitDefEqProofs only[go_sem,Nat.reduceAdd,Nat.reduceSub,Nat.reduceMul,Nat.reduceLeDiff,Nat.reduceEqDiff,Nat.reduceGT,Nat.reduceBEq,reduceCtorEq,↓reduceIte,Int.reduceToNat,Int.reduceLE,Int.reduceLT,Int.reduceNe,Int.reduceEq,PV];intro b5 l r1 hpre0;have e6:=bU b5 (g5 _ _ _ _);have g6:=fun d d' d'' d3 d4=>qj (l':=S.box) (d:=d) e6 (g5 d' d'' d3 d4);refine vY (vZ (Cb (by kernel_rfl) (bh (ss:=[]) mx _ (by kernel_rfl) ?_)));simp(maxDischargeDepth:=12) (maxSteps:=1000000) -implicitDefEqProofs only[go_sem,Nat.reduceAdd,Nat.reduceSub,Nat.reduceMul,Nat.reduceLeDiff,Nat.reduceEqDiff,Nat.reduceGT,Nat.reduceBEq,reduceCtorEq,↓reduceIte,Int.reduceToNat,Int.reduceLE,Int.reduceLT,Int.reduceNe,Int.reduceEq];intro b6;have e7:=bU b6 (g6 _ _ _ _ _);have g7:=fun d d' d'' d3 d4 d5=>qj (l':=S.box) (d:=d) e7 (g6 d' d'' d3 d4 d5);refine vZ (vZ (Cb (by kernel_rfl) (bh (ss:=[]) mx _ (by kernel_rfl) ?_)));simp(maxDischargeDepth:=12) (maxSteps:=1000000) -implicitDefEqProofs only[go_sem,Nat.reduceAdd,Nat.reduceSub,Nat.reduceMul,Nat.reduceLeDiff,Nat.reduceEqDiff,Nat.reduceGT,Nat.reduceBEq,reduceCtorEq,↓reduceIte,Int.reduceToNat,Int.reduceLE,Int.reduceLT,Int.reduceNe,Int.reduceEq];refine aw (Qw _ x _) ?_;rintro _ _ ⟨be2,rfl,rfl⟩;have e8:=bU be2 (g7 _ _ _ _ _ _);simp(maxDischargeDepth:=12) (maxSteps:=1000000) -implicitDefEqProofs only[go_sem,Nat.reduceAdd,Nat.reduceSub,Nat.reduceMul,Nat.reduceLeDiff,Nat.reduceEqDiff,Nat.reduceGT,Nat.reduceBEq,reduceCtorEq,↓reduceIte,Int.reduceToNat,Int.reduceLE,Int.reduceLT,Int.reduceNe,Int.reduceEq];refine vY ?_;intro g a w q1 q2 q3 q4;have hgn:jv w0.np:=hg
  refine sA (w0:=w0.np) hgn hx (b:=be2.n) (fun pre2 y2=>⟨(be2.n,[dU (y2:Int)])::(b6.n,[dB (pre2.all fun d=>le k d)])::(b5.n,[dI (k:Int)])::(be.n,[dU (y:Int)])::(b4.n,[dI 0])::(b3.n,[.v (.func (.func fl) #[] #[.pointer (some ⟨bx,0,none⟩)])])::(b2.n,[dU (x:Int)])::S.box,S.acc⟩) (fun pre2 _ y2=>⟨(be2.n,[dU (y2:Int)])::(b6.n,[dB (pre2.all fun d=>le k d)])::(b5.n,[dI (k:Int)])::(be.n,[dU (y:Int)])::(b4.n,[dI 0])::(b3.n,[.v (.func (.func fl) #[] #[.pointer (some ⟨bx,0,none⟩)])])::(b2.n,[dU (x:Int)])::S.box,S.acc⟩)
   (fun _=>True) trivial (fun _ _ _=>False)
   (fun pre2 k2 y2 fr1 T1=>vw Tryz.prog w0.np.np [] _ fr1 T1 fun e _ T'=>e= .normal∧Has (⟨(be2.n,[dU (y2:Int)])::(b6.n,[dB ((pre2++[k2]).all fun d=>le k d)])::(b5.n,[dI (k:Int)])::(be.n,[dU (y:Int)])::(b4.n,[dI 0])::(b3.n,[.v (.func (.func fl) #[] #[.pointer (some ⟨bx,0,none⟩)])])::(b2.n,[dU (x:Int)])::S.box,S.acc⟩:St) T')
   rfl rfl (by kernel_rfl) rfl ?_ ?_ (fun _ _=>rfl) (fun _ _=>rfl) (fun _ _ _=>rfl) (fun _ _ _=>rfl) ?_ (fun l2 r2 pre2 k2 y2 fr1 T1 hpre2 _ hB g a w p1 p2 p3 p4=>wpIn_mono (bh (ss:=[]) mx _ (by kernel_rfl) hB g a w p1 p2 p3 (some l2) (.inr (by kernel_rfl))) fun e a w k=>k.mono fun e fr S h=> .inl ⟨h.1,trivial,h.2⟩) ?_ (fun _ _ _ h=>h.elim) g a w q1 q2 q3 (.inr ⟨l,r1,rfl,q4⟩)
  ·intro pre2 y2;simp(maxDischargeDepth:=12) (maxSteps:=1000000) -implicitDefEqProofs only[go_sem,Nat.reduceAdd,Nat.reduceSub,Nat.reduceMul,Nat.reduceLeDiff,Nat.reduceEqDiff,Nat.reduceGT,Nat.reduceBEq,reduceCtorEq,↓reduceIte,Int.reduceToNat,Int.reduceLE,Int.reduceLT,Int.reduceNe,Int.reduceEq]
  ·intro pre2 y2 y2';simp(maxDischargeDepth:=12) (maxSteps:=1000000) -implicitDefEqProofs only[go_sem,Nat.reduceAdd,Nat.reduceSub,Nat.reduceMul,Nat.reduceLeDiff,Nat.reduceEqDiff,Nat.reduceGT,Nat.reduceBEq,reduceCtorEq,↓reduceIte,Int.reduceToNat,Int.reduceLE,Int.reduceLT,Int.reduceNe,Int.reduceEq]
  ·intro pre2 k2 y2 hpre2 _;have hk2:=tU hpre2;refine bh (ss:=[]) mx _ (by kernel_rfl) ?_;simp(maxDischargeDepth:=12) (maxSteps:=1000000) -implicitDefEqProofs only[go_sem,Nat.reduceAdd,Nat.reduceSub,Nat.reduceMul,Nat.reduceLeDiff,Nat.reduceEqDiff,Nat.reduceGT,Nat.reduceBEq,reduceCtorEq,↓reduceIte,Int.reduceToNat,Int.reduceLE,Int.reduceLT,Int.reduceNe,Int.reduceEq,PV];refine⟨fun hp=>?_,fun hp=>?_⟩
   ·rw[hok];simp(maxDischargeDepth:=12) (maxSteps:=1000000) -implicitDefEqProofs only[go_sem,Nat.reduceAdd,Nat.reduceSub,Nat.reduceMul,Nat.reduceLeDiff,Nat.reduceEqDiff,Nat.reduceGT,Nat.reduceBEq,reduceCtorEq,↓reduceIte,Int.reduceToNat,Int.reduceLE,Int.reduceLT,Int.reduceNe,Int.reduceEq];refine aq (hle _ k k2 _ hk64 hk2 (by simp(maxDischargeDepth:=12) (maxSteps:=1000000) -implicitDefEqProofs only[go_sem,Nat.reduceAdd,Nat.reduceSub,Nat.reduceMul,Nat.reduceLeDiff,Nat.reduceEqDiff,Nat.reduceGT,Nat.reduceBEq,reduceCtorEq,↓reduceIte,Int.reduceToNat,Int.reduceLE,Int.reduceLT,Int.reduceNe,Int.reduceEq,e2,e3,e4,e5,e6,e7,e8,hbx])) ?_;simp(maxDischargeDepth:=12) (maxSteps:=1000000) -implicitDefEqProofs only[go_sem,Nat.reduceAdd,Nat.reduceSub,Nat.reduceMul,Nat.reduceLeDiff,Nat.reduceEqDiff,Nat.reduceGT,Nat.reduceBEq,reduceCtorEq,↓reduceIte,Int.reduceToNat,Int.reduceLE,Int.reduceLT,Int.reduceNe,Int.reduceEq];rw[List.all_append,hp];simp only[ado,List.all_nil,Bool.and_true,ac5];exact .refl _
   ·rw[List.all_append,hp,Bool.false_and];exact .refl _
  ·intro _;simp(maxDischargeDepth:=12) (maxSteps:=1000000) -implicitDefEqProofs only[go_sem,Nat.reduceAdd,Nat.reduceSub,Nat.reduceMul,Nat.reduceLeDiff,Nat.reduceEqDiff,Nat.reduceGT,Nat.reduceBEq,reduceCtorEq,↓reduceIte,Int.reduceToNat,Int.reduceLE,Int.reduceLT,Int.reduceNe,Int.reduceEq];refine Cb (by kernel_rfl) (bh (ss:=[]) mx _ (by kernel_rfl) ?_);simp(maxDischargeDepth:=12) (maxSteps:=1000000) -implicitDefEqProofs only[go_sem,Nat.reduceAdd,Nat.reduceSub,Nat.reduceMul,Nat.reduceLeDiff,Nat.reduceEqDiff,Nat.reduceGT,Nat.reduceBEq,reduceCtorEq,↓reduceIte,Int.reduceToNat,Int.reduceLE,Int.reduceLT,Int.reduceNe,Int.reduceEq];refine⟨fun h=>⟨hpre,hpre0,h⟩,fun h a ha=>?_⟩;rcases aaD.1 ha with ha|ha
   ·exact hpre0 a ha
   ·rw[aau.1 ha];exact h
 ·intro hI;simp(maxDischargeDepth:=12) (maxSteps:=1000000) -implicitDefEqProofs only[go_sem,Nat.reduceAdd,Nat.reduceSub,Nat.reduceMul,Nat.reduceLeDiff,Nat.reduceEqDiff,Nat.reduceGT,Nat.reduceBEq,reduceCtorEq,↓reduceIte,Int.reduceToNat,Int.reduceLE,Int.reduceLT,Int.reduceNe,Int.reduceEq];exact⟨_,S,.refl _,⟨.cons _ (.cons _ (.cons _ (.cons _ (.refl _)))),.refl _⟩,⟨-1,rfl,.inl ⟨rfl,hI⟩⟩,rfl⟩
 ·intro pre k y hst;simp(maxDischargeDepth:=12) (maxSteps:=1000000) -implicitDefEqProofs only[go_sem,Nat.reduceAdd,Nat.reduceSub,Nat.reduceMul,Nat.reduceLeDiff,Nat.reduceEqDiff,Nat.reduceGT,Nat.reduceBEq,reduceCtorEq,↓reduceIte,Int.reduceToNat,Int.reduceLE,Int.reduceLT,Int.reduceNe,Int.reduceEq];exact⟨_,S,.refl _,⟨.cons _ (.cons _ (.cons _ (.cons _ (.refl _)))),.refl _⟩,⟨k,rfl,.inr ⟨pre,k,_,rfl,hst⟩⟩,rfl⟩
end Go.Proofs.YtoepfmhnapedoaaGreatDoor
