/-
  Part 7 of the proof that the last text ends: from 'A text that is being built, in the store: it is made, and its methods are called' to 'Whether rows are a lattice: the reference'. By an AI agent.
-/
import Derived.Test.YtoepfmhnapedoaaGreatDoorMK5
import Derived.Test.YtoepfmhnapedoaaGreatDoorMK6
import Derived.Test.YtoepfmhnapedoaaGreatDoorMK3
import Derived.Sort.Grow
import Derived.Lib.MapLaws
import Derived.Lib.ValidLaws
import Derived.Shelf.Strconv.AtoiAll
import Derived.Shelf.Strconv.Itoa3
import Derived.Lib.RuneCountTail
import Derived.Lib.SplitLaws
import Derived.Test.YtoepfmhnapedoaaGreatDoorMK4
import Derived.RecoverIn
import Derived.RangeFuncLeaves
set_option linter.unusedVariables false
set_option linter.unusedSimpArgs false
set_option maxRecDepth 100000
set_option maxHeartbeats 16000000
namespace Aml
open Go Go.RowKit Go.Shelf Go.Proofs
section
variable {P:Program} {w0:W0}
end
end Aml
namespace Aml
open Go Go.RowKit
@[go_sem] theorem KB (l:Nat) (ds:List DV):dZ (.mp l::ds)=dZ ds:=rfl
section
variable {P:Program} {w0:W0}
def Kn(w0:W0)(X:World→Prop):Prop:=w0.w.drawn=0∧∀w,Below w0.heap.size w0.w w→X w
theorem Kn.mono{w0:W0}{X Y:World→Prop}(h:Kn w0 X)(k:∀w,X w→Y w):Kn w0 Y:=⟨h.1,fun w hw=>k w (h.2 w hw)⟩
theorem Rel.kn{g:Gh}{S:St}{w:World}(h:Rel w0 g S w){X:World→Prop}(k:Kn w0 X):X w:=k.2 w h.below.base.below
theorem wC{f:FuncId}{ds:List DV}{us:List Value}{S:St}{Kd:DV→Prop}(ha:∀g vs,ae g ds vs→vs=us)
 (hc:Kn w0 fun w=>Calls P f us.toArray w fun e w'=>∃r d,e= .returned r∧(∀g,az g d r)∧Kd d∧Below w.heap.size w w'):aa P w0 f ds S (fun d S'=>Kd d∧S'=S):=by
 intro g vs w h hr;have e1:=ha g vs.toList hr;have e2:vs=us.toArray:=by rw[←e1]
 rw[e2];refine(h.kn hc).mono ?_;rintro e w' ⟨r,d,rfl,hd,hk,hb⟩;exact .inl ⟨r,g,d,S,rfl,.refl g,h.vQ hb hc.1,hd g,hk,rfl⟩
theorem LK(us:List Value):∀g vs,ae g (us.map DV.v) vs→vs=us:=by
 intro g vs h;refine X4 fun i=>?_;have hlen:us.length=vs.length:=by simpa using h.len
 by_cases hi:i<us.length
 ·rw[W5 hi,W5 (by omega)];have:=h.at_ i (.v us[i]) vs[i] (by simp[hi]) (W5 (by omega));rw[aj this]
 ·rw[Xe (by omega),Xe (by omega)]
theorem tg{f:FuncId}{us:List Value}{S:St}{r:Value}{d:DV}(hd:∀g,az g d r)
 (hc:Kn w0 fun w=>Calls P f us.toArray w fun e w'=>e= .returned r∧Below w.heap.size w w'):aa P w0 f (us.map DV.v) S (fun d' S'=>d'=d∧S'=S):=
 wC (LK us) (Kn.mono hc fun w hw=>hw.mono fun e w' h=>⟨r,d,h.1,hd,rfl,h.2⟩)
end
end Aml
namespace Aml
open Go Go.RowKit Go.Proofs
variable {P:Program} {w0:W0}
theorem qd{f:FuncId}{S:St}{l:Nat}{kk:KK}{es:List (Value×DV×Nat)}{c:Nat}(hl:lk S.acc l=some (.xo (.mp kk es c)))
 (hc:∀(w:World) (b:Nat) (es':Array MapEntry) (clock:Nat),w.heap[b]? =some (.map es' clock)→Calls P f #[.map (some b)] w fun e w'=>e= .returned (.map (some w.heap.size))∧w'=w.alloc (.map es' clock)):
 aa P w0 f [.mp l] S (fun d S'=>∃n:FN S.acc,d= .mp n.n∧S'=⟨S.box,(n.n,.xo (.mp kk es c))::S.acc⟩):=by
 intro g vs w h hr;obtain⟨u,us,hvs,hu,h3⟩:=hr.cM;have hus:us=[]:=Xn (by have:=h3.len;simpa using this.symm);subst hus;obtain⟨b,rfl,hgb⟩:=mM hu;have e2:vs= #[.map (some b)]:=by rw[←Array.toArray_toList (xs:=vs),hvs]
 rw[e2];obtain⟨b',o',q1,q2,⟨es',rfl,r,hok⟩,hset⟩:=h.yA hl;rw[hgb]at q1;cases q1;refine(hc w _ _ _ q2).mono ?_;rintro e w' ⟨rfl,rfl⟩;obtain⟨n,g',hle,hne,hR,ha⟩:=h.Db (f:= .mp kk es c) (bY w (.map es'.toArray c)) (Xa _) (heap_alloc_new w _) ⟨es',rfl,r,hok⟩;exact .inl ⟨_,g',_,_,rfl,hle,hR,.mp n _ ha,⟨n,cg hne⟩,rfl,rfl⟩
end Aml
namespace Go.Proofs.YtoepfmhnapedoaaGreatDoor
open Aml Go
section
variable {α:Type} [Inhabited α] {enc:α→Value}
theorem rF{l:List α}{j:Nat}{a:α}(h:l[j]? =some a):l.toArray[j]! =a:=by
 obtain⟨hlt,rfl⟩:=W6.1 h;rw[getElem!_pos l.toArray j (by simpa using hlt)];simp
theorem sr{w:World}{n b e:Nat}{cs:Array Value}{zs:List α}{os:Array Obj}(hb:w.heap[b]? =some (.cells cs e (0,0)))(hn:zs.length≤cs.size):
 ∃cs',(Go.Sort.grow (Go.Sort.putRow enc (Go.Sort.ahead w n) b 0 zs.toArray) os).heap[b]? =some (.cells cs' e (0,0))∧cs'.size=cs.size∧(∀(i:Nat) (a:α),zs[i]? =some a→cs'[i]? =some (enc a))∧∀x,x∈cs'.toList→x∈cs.toList∨∃a,x=enc a:=by
 refine⟨Go.Sort.putCells enc 0 zs.toArray cs,?_,by simp[Go.Sort.putCells],fun i a hi=>?_,fun x hx=>?_⟩
 ·rw[YI _ _ (by have:=(W9.1 hb).1;simpa using this)];simp only[Go.Sort.putRow,Go.Sort.mapBlock,Go.Sort.heap_ahead,Yt,if_true,hb,XB,Go.Sort.onCells]
 ·have hlt:i<zs.length:=(W6.1 hi).1;have hc:cs[i]? =some cs[i]:=Yg (by omega);simp only[Go.Sort.putCells,Array.getElem?_mapIdx,hc,XB];rw[if_pos (by simp;omega)];simp only[Nat.sub_zero];rw[rF hi]
 ·obtain⟨i,hi⟩:=XI.1 hx;rw[XX]at hi;simp only[Go.Sort.putCells,Array.getElem?_mapIdx,Xb]at hi;obtain⟨y,hy,rfl⟩:=hi;split
  ·exact .inr ⟨_,rfl⟩
  ·exact .inl (Array.mem_toList_iff.2 (Array.mem_of_getElem? hy))
theorem EA(w0:W0){f:FuncId}(srtA:List α→List α)(hnil:srtA []=[])(hlen:∀l,(srtA l).length=l.length)(hcell:∀a,(enc a).cells= #[enc a])(hone:∀a,(enc a).oneCell'=true)
 (hsort:∀(b c:Nat) (zs:List α) (w:World),Go.Sort.Holds enc w b 0 zs.toArray→b<w.heap.size→zs.length<4611686018427387904→Calls Tryz.prog f #[.slice (some ⟨b,0,none⟩) zs.length c] w fun e w'=>e= .returned (.tuple #[])∧∃n os,w'=Go.Sort.grow (Go.Sort.putRow enc (Go.Sort.ahead w n) b 0 (srtA zs).toArray) os)
 (hnone:∀(p:Option Addr) (c:Nat) (w:World),Calls Tryz.prog f #[.slice p 0 c] w fun e w'=>e= .returned (.tuple #[])∧w'=w)
 {l:Nat} {zs:List α} {S:St} (hl:lk S.acc l=some (.arr 1 (zs.map fun a=>DV.v (enc a)))) (hsz:zs.length<4611686018427387904):
 aa Tryz.prog w0 f [.acc l zs.length] S (fun d S'=>d= .cQ []∧S'=⟨S.box,up S.acc l (.arr 1 ((srtA zs).map fun a=>DV.v (enc a)))⟩):=by
 intro g vs w h1 h2;obtain⟨u,us,hvs,hr,h3⟩:=h2.cM;have hus:us=[]:=Xn (by have:=h3.len;simpa using this.symm);subst hus;have hvs':vs= #[u]:=by rw[←Array.toArray_toList (xs:=vs),hvs]
 subst hvs';obtain⟨o,c,hv,ha⟩:=dM hr;subst hv;by_cases hz:zs=[]
 ·subst hz;refine(hnone o c w).mono ?_;rintro e w' ⟨rfl,rfl⟩;refine .inl ⟨_,g,.cQ [],_,rfl,.refl g,?_,.cQ [] [] rfl (by intro i d u h;simp at h),rfl,rfl⟩;rw[hnil,oH hl];exact h1
 ·have hpos:0<zs.length:=Yn.2 hz;obtain⟨ow,hO⟩:=h1.open_;obtain⟨hs,⟨he,o2,_⟩|⟨b,c2,cs,e,q1,q2,q3,q4,q5,q6,q7,q8,q8x,us,q9,q10,q11,q12⟩⟩:=hO.acc l _ (bU hl)
  ·exact absurd (by simpa using he) hz
  ·rw[XJ]at q1 q7;have q1':=q1;rw[ha]at q1;simp only[Xr,Value.slice.injEq,true_and]at q1;obtain⟨rfl,rfl⟩:=q1;rw[YP]at q6;have hul:us.length=zs.length:=by have:=q9.len;simpa using this.symm
   have hus:∀(i:Nat) (a:α),zs[i]? =some a→us[i]? =some (enc a):=by
    intro i a hi;have hlt:i<us.length:=by rw[hul];exact(W6.1 hi).1
    have hu:us[i]? =some us[i]:=W5 hlt;have:=q9.at_ i (DV.v (enc a)) _ (by simp[hi]) hu;have:=aj this;rw[hu,this]
   have hcs:∀(i:Nat) (a:α),zs[i]? =some a→cs[i]? =some (enc a):=by
    intro i a hi;have:=q12 i _ 0 _ (hus i a hi) (show(enc a).cells[0]? =some (enc a)by rw[hcell];rfl);simpa using this
   have hH:Go.Sort.Holds enc w b 0 zs.toArray:=by
    intro j hj;have hj':j<zs.length:=by simpa using hj
    have hi:zs[j]? =some zs[j]:=W5 hj';constructor
    ·rw[bA q5,Yb,hcs j _ hi,rF hi]
    ·simp[World.frozen?,q5]
   refine(hsort b c zs w hH (lt_of_heap q5) hsz).mono ?_;rintro ex w' ⟨rfl,n,os,rfl⟩;obtain⟨cs',h5,h6,h7,h8⟩:=sr (enc:=enc) (n:=n) (os:=os) (zs:=srtA zs) q5 (by rw[hlen];omega);refine .inl ⟨_,g,.cQ [],_,rfl,.refl g,?_,.cQ [] [] rfl (by intro i d u h;simp at h),rfl,rfl⟩
   have hold:∀k,k<w.heap.size→k≠b→(Go.Sort.grow (Go.Sort.putRow enc (Go.Sort.ahead w n) b 0 (srtA zs).toArray) os).heap[k]? =w.heap[k]? :=fun k hk hne=>by
    rw[YI _ _ (by simp;exact hk)];have:b≠k:=fun e=>hne e.symm;simp[Go.Sort.putRow,Go.Sort.mapBlock,Yt,this]
   refine h1.Dx (us:=(srtA zs).map fun a=>enc a) (b:=b) (c:=c) (e:=e) (cs:=cs') hl (by rw[XJ];exact ha) (by simp[hlen]) (by omega) h5 (by omega) ?_ (by simp) hold ?_ ?_ ?_ ?_ fun x hx=>(h8 x hx).elim (q8x x) fun⟨a,e⟩=>by rw[e];exact hone a
   ·refine h1.below.step ⟨rfl,rfl,rfl,by simp,fun k hk=>?_,Nat.le_add_right _ _⟩ b (kc q5) fun k hk hne=>hold k hk hne;have:=h1.below.size;exact hold k (by omega) (by omega)
   ·exact⟨by simp,fun i d u a1 a2=>by
     simp only[Xd,Xb]at a1 a2;obtain⟨x,hx,rfl⟩:=a1;obtain⟨y,hy,rfl⟩:=a2;rw[hx]at hy;cases hy;exact .v _ (hone x)⟩
   ·intro i u hi;simp only[Xd,Xb]at hi;obtain⟨x,_,rfl⟩:=hi;rw[hcell];rfl
   ·intro u hu x hx;obtain⟨a,_,rfl⟩:=Xk.1 hu;rw[hcell]at hx;simp at hx;subst hx;exact hone a
   ·intro i u j x hi hj;simp only[Xd,Xb]at hi;obtain⟨a,ha',rfl⟩:=hi;rw[hcell]at hj;have hj0:j=0:=by have:=(W9.1 hj).1;simp at this;exact this
    subst hj0;simp at hj;subst hj;simpa using h7 i a ha'
end
def kC(l:List (List UInt8)):List (List UInt8):=l.mergeSort fun x y=>decide (x≤y)
theorem jS(l:List (List UInt8)):(kC l).length=l.length:=List.length_mergeSort l
theorem Rg(w0:W0){l:Nat}{zs:List (List UInt8)}{S:St}(hl:lk S.acc l=some (.arr 1 (zs.map fun z=>dS ⟨z.toArray⟩)))(hsz:zs.length<4611686018427387904):
 aa Tryz.prog w0 98 [.acc l zs.length] S (fun d S'=>d= .cQ []∧S'=⟨S.box,up S.acc l (.arr 1 ((kC zs).map fun z=>dS ⟨z.toArray⟩))⟩):=
 EA w0 (enc:=fun z:List UInt8=>Value.string ⟨z.toArray⟩) kC (by simp[kC]) jS (fun _=>rfl) (fun _=>rfl) (fun b c zs w hH hb hs=>Tryz.slices_Sort_string b 0 c zs w hH hb hs) (fun p c w=>Tryz.slices_Sort_string_none p c w) hl hsz
theorem Ov(w0:W0){S:St}{l:Nat}{kk:KK}{es:List (Value×DV×Nat)}{c:Nat}(hl:lk S.acc l=some (.xo (.mp kk es c))):
 aa Tryz.prog w0 151 [.mp l] S (fun d S'=>∃n:FN S.acc,d= .mp n.n∧S'=⟨S.box,(n.n,.xo (.mp kk es c))::S.acc⟩):=
 qd hl fun w b es' clock hb=>Tryz.maps_Clone w b es' clock hb
end Go.Proofs.YtoepfmhnapedoaaGreatDoor
namespace Rn
open Go
abbrev dl(l:List UInt8):Nat×Nat:=Lib.decodeL l
theorem qD(l:List UInt8):1≤(dl l).2:=Lib.decodeL_width l
def ve(p:Nat×Nat):Prop:=¬(p.1=65533∧p.2=1)
instance (p:Nat×Nat):Decidable (ve p):=by unfold ve;exact inferInstance
def jD:Nat→List UInt8→List (Nat×List UInt8)
 |0,_=>[]
 |n+1,l=>if l=[]then []else((dl l).1,l.take (dl l).2)::jD n (l.drop (dl l).2)
def bu(l:List UInt8):List (Nat×List UInt8):=jD l.length l
theorem eS(n:Nat):jD n []=[]:=by cases n <;>simp[jD]
theorem nC:∀(n m:Nat) (l:List UInt8),l.length≤n→l.length≤m→jD n l=jD m l
 |0,m,l,hn,_=>by
  have:l=[]:=Xn (by omega);subst this;rw[eS,eS]
 |n+1,0,l,_,hm=>by
  have:l=[]:=Xn (by omega);subst this;rw[eS,eS]
 |n+1,m+1,l,hn,hm=>by
  by_cases hne:l=[]
  ·subst hne;rw[eS,eS]
  ·have hw:=qD l;have hl:=Yn.2 hne;simp only[jD,if_neg hne];rw[nC n m _ (by rw[XY];omega) (by rw[XY];omega)]
theorem rZ:bu []=[]:=rfl
theorem gn{l:List UInt8}(hne:l≠[]):bu l=((dl l).1,l.take (dl l).2)::bu (l.drop (dl l).2):=by
 have hw:=qD l;have hl:=Yn.2 hne;unfold bu;obtain⟨n,hn⟩:∃n,l.length=n+1:=⟨l.length-1,by omega⟩;rw[hn];simp only[jD,if_neg hne];rw[nC n _ _ (by rw[XY];omega) (Xa _)]
theorem qt{C:List UInt8→Prop}(h0:C [])(h1:∀l,l≠[]→C (l.drop (dl l).2)→C l):∀l,C l:=by
 intro l;generalize hn:l.length=n
 induction n using Nat.strongRecOn generalizing l with
 |_ n ih=>
  by_cases hne:l=[]
  ·subst hne;exact h0
  ·have hw:=qD l;have hl:=Yn.2 hne;exact h1 l hne (ih (l.drop (dl l).2).length (by rw[XY,←hn];omega) _ rfl)
theorem mz(l:List UInt8):(bu l).length≤l.length:=by
 induction l using qt with
 |h0=>exact Xa _
 |h1 l hne ih=>
  rw[gn hne,Xi];have hw:=qD l;have hl:=Yn.2 hne;rw[XY]at ih;omega
def gd(r:Nat×List UInt8):Prop:=ve (r.1,r.2.length)
def whole(l:List UInt8):Prop:=∀r,r∈bu l→gd r
theorem IQ{l:List UInt8}(hne:l≠[]):gd ((dl l).1,l.take (dl l).2)↔ve (dl l):=by
 have hle:=Lib.decodeL_le l hne;unfold gd;rw[XT,YW hle]
theorem qj{l:List UInt8}(hne:l≠[]):whole l↔ve (dl l)∧whole (l.drop (dl l).2):=by
 unfold whole;rw[gn hne];simp only[Xm,forall_eq_or_imp,IQ hne]
theorem nS{c:UInt8}(hc:c.toNat<128)(y:List UInt8):bu (c::y)=(c.toNat,[c])::bu y:=by
 rw[gn (by simp)]
 have:dl (c::y)=(c.toNat,1):=by
  unfold dl;rw[Lib.decodeL_N];exact Lib.decodeN_ascii _ _ _ _ _ hc
 rw[this];rfl
end Rn
namespace Go.Proofs.YtoepfmhnapedoaaGreatDoor
open Aml Go Go.RowKit Go.Shelf Go.Proofs
def tx(l:List UInt8):ByteArray:=⟨l.toArray⟩
theorem dV(l:List UInt8):(tx l).data.toList=l:=by simp[tx]
theorem tq(s:ByteArray):tx s.data.toList=s:=by simp[tx]
theorem dP(l:List UInt8):(tx l).size=l.length:=by simp[tx,ByteArray.size]
theorem fS(s:ByteArray):s.data.toList.length=s.size:=rfl
theorem Hk{a b:ByteArray}(h:a.data.toList=b.data.toList):a=b:=by rw[←tq a,←tq b,h]
theorem Ea(a b:ByteArray):(a++b).data.toList=a.data.toList++b.data.toList:=by rw[ByteArray.data_append,YB]
theorem GZ(s:ByteArray)(i j:Nat):(s.extract i j).data.toList=(s.data.toList.take j).drop i:=by
 rw[ByteArray.data_extract,Array.toList_extract];simp[List.extract_eq_take_drop,List.drop_take]
theorem Hc{a b:List UInt8}(h:tx a=tx b):a=b:=by rw[←dV a,h,dV]
theorem qJ(s:ByteArray)(pos:Nat):Utf8.decode s pos=Lib.decodeL (s.data.toList.drop pos):=by
 unfold Lib.decodeL;have h:=Lib.tail_decode s pos 0;rw[YJ]at h;rw[←h];congr 1;apply Hk;rw[GZ,XF (by rw[fS];exact Xa _)]
@[go_sem] theorem TY (a b:ByteArray) (K:DV→Prop):gl .add a b K=(a.size+b.size≤9223372036854775807∧K (.v (.string (a++b)))):=rfl
@[go_sem] theorem Ug (a b:ByteArray) (K:DV→Prop):gl .eql a b K=K (.v (.bool (decide (a.data.toList=b.data.toList)))):=rfl
@[go_sem] theorem UG (a b:ByteArray) (K:DV→Prop):gl .neq a b K=K (.v (.bool (!decide (a.data.toList=b.data.toList)))):=rfl
def KU(w0:W0):Prop:=Kn w0 fun w=>Lib.Utf8Tabs 1 2 w
theorem L5(w0:W0)(hk:KU w0)(s:ByteArray)(hs:s.size≤1048576)(S:St):aa Tryz.prog w0 116 [dS s] S (fun d S'=>d=dB (Lib.validD s.data.toList)∧S'=S):=
 tg (us:=[.string s]) (fun g=> .v _ rfl) (Kn.mono hk fun w hw=>Any.utf8_ValidString Tryz.Ab s w (by omega) hw)
@[go_sem] def aA (l:List (List UInt8)):List DV:=l.map fun s=>dS (tx s)
end Go.Proofs.YtoepfmhnapedoaaGreatDoor
namespace Go.Proofs.YtoepfmhnapedoaaGreatDoor
open Aml Go Rn
def kT(a:List UInt8):Value:= .string (tx a)
@[go_sem] def eY (a:List UInt8):DV:=dS (tx a)
theorem ep{x y:List UInt8}(h:kT x=kT y):x=y:=Hc (Value.string.inj h)
def qI(es:List (Value×DV×Nat))(pre:List (List UInt8)):Prop:=pre.Nodup∧∀v,v∈pre→∃e,e∈es∧e.1=kT v
def gR(es:List (Value×DV×Nat))(V:List (List UInt8)):Prop:=qI es V∧∀e,e∈es→∃v,v∈V∧e.1=kT v
theorem pH{u:Value}(h:isKey .str u=true):∃a,u=kT a:=by
 cases u with
 |string s=>exact⟨s.data.toList,by unfold kT;rw[tq]⟩
 |_=>simp[isKey]at h
theorem Gb(w0:W0){l:Nat}{zs:List (List UInt8)}{S:St}(hl:lk S.acc l=some (.arr 1 (zs.map eY)))(hsz:zs.length<4611686018427387904):
 aa Tryz.prog w0 98 [.acc l zs.length] S (fun d S'=>d= .cQ []∧S'=⟨S.box,up S.acc l (.arr 1 ((kC zs).map eY))⟩):=Rg w0 hl hsz
theorem jo{es:List (Value×DV×Nat)}{V:List (List UInt8)}(hV:gR es V):V.length≤es.length:=by
 have h1:(V.map kT).Nodup:=aM (fun x y h=>ep h) hV.1.1
 have h2:(V.map kT)⊆es.map (·.1):=fun u hu=>by
  obtain⟨v,hv,rfl⟩:=Xk.1 hu;obtain⟨e',he',h3⟩:=hV.1.2 v hv;exact Xk.2 ⟨e',he',h3⟩
 have:=bQ h1 h2;simpa using this
theorem xW(w1:W0)(l b m clk:Nat)(es:List (Value×DV×Nat))(X:List (List UInt8)→St)
 (hb:∀pre,lk (X pre).box b=some [.mp m]) (hm:∀pre,lk (X pre).acc m=some (.xo (.mp .str es clk)))
 (hda:∀pre,(X pre).acc.map (·.1)=(X []).acc.map (·.1)) (hok:dy .str es clk)
 (hy:O0 Tryz.prog w1 l X (fun x=>[eY x]) (qI es)):∀T,Has (X []) T→aa Tryz.prog w1 100 [.v (.func (.yield l) #[] #[]),.v (.pointer (some ⟨b,0,none⟩))] T fun _ T'=>∃V,gR es V∧Has (X V) T':=by
 intro T hT;have t1:lk T.box b=some [.mp m]:=hT.box _ _ (hb []);have t2:lk T.acc m=some (.xo (.mp .str es clk)):=hT.acc _ _ (hm []);refine kj [] mx Tryz.func100 rfl rfl (by kernel_rfl) ?_;simp only[Tryz.ntmps100,Xi,XK,Nat.reduceAdd,Nat.reduceSub,List.reduceReplicate,Yc,Yr];simp(maxDischargeDepth:=12) (maxSteps:=1000000) -implicitDefEqProofs only[Tryz.ntmps100,go_sem,Nat.reduceAdd,Nat.reduceSub,Nat.reduceMul,Nat.reduceLeDiff,Nat.reduceEqDiff,Nat.reduceGT,Nat.reduceBEq,reduceCtorEq,↓reduceIte,Int.reduceToNat,Int.reduceLE,Int.reduceLT,Int.reduceNe,Int.reduceEq,t1,t2];intro li;refine fc [] [0,5] (fun s:St×List (List UInt8)×List Nat=>[]) (fun s=>s.1) (fun s=>Has (X s.2.1) s.1∧lk s.1.acc li.n=some (.xo (.it m clk s.2.2 clk))∧lk (X s.2.1).acc li.n=none∧qI es s.2.1∧∀e,e∈es→(e.2.2∈s.2.2↔∃v,v∈s.2.1∧e.1=kT v)) (fun s=>es.length-s.2.1.length) (⟨T.box,(li.n,.xo (.it m clk [] clk))::T.acc⟩,[],[]) mx (by kernel_rfl) ?_ ?_
 ·have hnone:lk T.acc li.n=none:=ak li;refine⟨⟨⟨hT.box,fun l' o ho=>?_⟩,by simp[lk],?_,⟨Zm,fun v hv=>by cases hv⟩,fun e _=>⟨fun h=>(by cases h),fun⟨v,hv,_⟩=>(by cases hv)⟩⟩,?_,?_⟩
  ·have:=hT.acc _ _ ho;show lk ((li.n,_)::T.acc) l'=_;simp only[lk];rw[if_neg (fun e=>by rw[e,this]at hnone;cases hnone)];exact this
  ·show lk (X []).acc li.n=none
   cases hx:lk (X []).acc li.n with
   |none=>rfl
   |some o=>rw[hT.acc _ _ hx]at hnone;cases hnone
  ·simp(maxDischargeDepth:=12) (maxSteps:=1000000) -implicitDefEqProofs only[go_sem,Nat.reduceAdd,Nat.reduceSub,Nat.reduceMul,Nat.reduceLeDiff,Nat.reduceEqDiff,Nat.reduceGT,Nat.reduceBEq,reduceCtorEq,↓reduceIte,Int.reduceToNat,Int.reduceLE,Int.reduceLT,Int.reduceNe,Int.reduceEq]
  ·exact .refl _
 ·rintro⟨T,pre,seen⟩ ⟨hT',hi,hiX,hOk,hs⟩;simp only at hT' hi hiX hOk hs;have u1:lk T.box b=some [.mp m]:=hT'.box _ _ (hb pre);have u2:lk T.acc m=some (.xo (.mp .str es clk)):=hT'.acc _ _ (hm pre);have hne:¬li.n=m:=fun e=>by rw[e,hm pre]at hiX;cases hiX
  simp(maxDischargeDepth:=12) (maxSteps:=1000000) -implicitDefEqProofs only[go_sem,Nat.reduceAdd,Nat.reduceSub,Nat.reduceMul,Nat.reduceLeDiff,Nat.reduceEqDiff,Nat.reduceGT,Nat.reduceBEq,reduceCtorEq,↓reduceIte,Int.reduceToNat,Int.reduceLE,Int.reduceLT,Int.reduceNe,Int.reduceEq,u1,u2,hi];refine⟨fun hall=>⟨pre,⟨hOk,fun e he=>(hs e he).1 (hall e he)⟩,hT'⟩,fun e he hns=>?_⟩;obtain⟨a,ha⟩:=pH (hok.key e he);rw[ab hne,u2];simp(maxDischargeDepth:=12) (maxSteps:=1000000) -implicitDefEqProofs only[go_sem,Nat.reduceAdd,Nat.reduceSub,Nat.reduceMul,Nat.reduceLeDiff,Nat.reduceEqDiff,Nat.reduceGT,Nat.reduceBEq,reduceCtorEq,↓reduceIte,Int.reduceToNat,Int.reduceLE,Int.reduceLT,Int.reduceNe,Int.reduceEq];refine⟨e,he,⟨seen,rfl⟩,?_⟩;rw[ha];have hnew:a∉pre:=fun h=>hns ((hs e he).2 ⟨a,h,ha⟩)
  have hOk':qI es (pre++[a]):=⟨by
   rw[Ym];exact⟨hOk.1,by simp,fun x hx y hy=>by rw[Xg.1 hy];rintro rfl;exact hnew hx⟩,fun v hv=>by
   rcases Xh.1 hv with h|h
   ·exact hOk.2 v h
   ·rw[Xg.1 h];exact⟨e,he,ha⟩⟩
  have hT1:Has (X pre) ⟨T.box,up T.acc li.n (.xo (.it m clk (seen++[e.2.2]) clk))⟩:=⟨hT'.box,fun c o hc=>by
   rw[ab (fun h=>by rw[←h,hiX]at hc;cases hc)];exact hT'.acc c o hc⟩
  simp(maxDischargeDepth:=12) (maxSteps:=1000000) -implicitDefEqProofs only[go_sem,Nat.reduceAdd,Nat.reduceSub,Nat.reduceMul,Nat.reduceLeDiff,Nat.reduceEqDiff,Nat.reduceGT,Nat.reduceBEq,reduceCtorEq,↓reduceIte,Int.reduceToNat,Int.reduceLE,Int.reduceLT,Int.reduceNe,Int.reduceEq,kT];refine MA (hy pre a _ hOk' hT1) ?_;rintro d T2 ⟨rfl,hT2,hK⟩;have ui:lk T2.acc li.n=some (.xo (.it m clk (seen++[e.2.2]) clk)):=hK.acc _ _ hiX (by rw[aE,hi];rfl);have hX2:lk (X (pre++[a])).acc li.n=none:=oJ ((hda _).trans (hda _).symm) hiX
  have hs2:∀e',e'∈es→(e'.2.2∈seen++[e.2.2]↔∃v,v∈pre++[a]∧e'.1=kT v):=fun e' he'=>by
   constructor
   ·intro h;rcases Xh.1 h with h|h
    ·obtain⟨v,h1,h2⟩:=(hs e' he').1 h;exact⟨v,XS _ h1,h2⟩
    ·have:e'=e:=eB hok.bn he' he (Xg.1 h);rw[this];exact⟨a,by simp,ha⟩
   ·rintro⟨v,h1,h2⟩;rcases Xh.1 h1 with h|h
    ·exact XS _ ((hs e' he').2 ⟨v,h,h2⟩)
    ·have:e'=e:=eB hok.nd he' he (by rw[h2,ha,Xg.1 h]);rw[this];simp
  have hlen:(pre++[a]).length≤es.length:=by
   have h1:((pre++[a]).map kT).Nodup:=aM (fun x y h=>ep h) hOk'.1
   have h2:((pre++[a]).map kT)⊆es.map (·.1):=fun u hu=>by
    obtain⟨v,hv,rfl⟩:=Xk.1 hu;obtain⟨e',he',h3⟩:=hOk'.2 v hv;exact Xk.2 ⟨e',he',h3⟩
   have:=bQ h1 h2;simpa using this
  simp(maxDischargeDepth:=12) (maxSteps:=1000000) -implicitDefEqProofs only[go_sem,Nat.reduceAdd,Nat.reduceSub,Nat.reduceMul,Nat.reduceLeDiff,Nat.reduceEqDiff,Nat.reduceGT,Nat.reduceBEq,reduceCtorEq,↓reduceIte,Int.reduceToNat,Int.reduceLE,Int.reduceLT,Int.reduceNe,Int.reduceEq];refine⟨(T2,pre++[a],seen++[e.2.2]),⟨hT2,ui,hX2,hOk',hs2⟩,?_,.refl _⟩;show es.length-(pre++[a]).length<es.length-pre.length;rw[Xj]at hlen ⊢;simp only[Xi,XK]at*;omega
theorem sS(w0:W0){b m clk:Nat}{es:List (Value×DV×Nat)}{S:St}(hb:lk S.box b=some [.mp m])(hm:lk S.acc m=some (.xo (.mp .str es clk)))(hok:dy .str es clk)(hlen:es.length≤1048576):
 aa Tryz.prog w0 139 [.sl 0 true [],.v (.func (.func 100) #[] #[.pointer (some ⟨b,0,none⟩)])] S (fun d S'=>∃(V:List (List UInt8)) (r:FN S.acc),gR es V∧d= .acc r.n V.length∧S'=⟨S.box,(r.n,.arr 1 (V.map eY))::S.acc⟩):=by
 refine mv [] mx Tryz.func139 rfl rfl (by kernel_rfl) ?_;simp(maxDischargeDepth:=12) (maxSteps:=1000000) -implicitDefEqProofs only[Tryz.ntmps139,go_sem,Nat.reduceAdd,Nat.reduceSub,Nat.reduceMul,Nat.reduceLeDiff,Nat.reduceEqDiff,Nat.reduceGT,Nat.reduceBEq,reduceCtorEq,↓reduceIte,Int.reduceToNat,Int.reduceLE,Int.reduceLT,Int.reduceNe,Int.reduceEq];intro s;refine fV s.n 0 1 (by omega) (ds:=[.sl 0 true []]) (by simp(maxDischargeDepth:=12) (maxSteps:=1000000) -implicitDefEqProofs only[go_sem,Nat.reduceAdd,Nat.reduceSub,Nat.reduceMul,Nat.reduceLeDiff,Nat.reduceEqDiff,Nat.reduceGT,Nat.reduceBEq,reduceCtorEq,↓reduceIte,Int.reduceToNat,Int.reduceLE,Int.reduceLT,Int.reduceNe,Int.reduceEq]) rfl fun lb=>?_;simp(maxDischargeDepth:=12) (maxSteps:=1000000) -implicitDefEqProofs only[go_sem,Nat.reduceAdd,Nat.reduceSub,Nat.reduceMul,Nat.reduceLeDiff,Nat.reduceEqDiff,Nat.reduceGT,Nat.reduceBEq,reduceCtorEq,↓reduceIte,Int.reduceToNat,Int.reduceLE,Int.reduceLT,Int.reduceNe,Int.reduceEq];refine tA [] (fun pre=>⟨(s.n,[.acc lb.n pre.length])::S.box,(lb.n,.arr 1 (pre.map eY))::S.acc⟩) (fun x=>[eY x]) (qI es) (gR es) mx (by kernel_rfl) rfl rfl rfl (fun _=>rfl) (fun _=>rfl) (fun _=>rfl) ?_ ?_ ?_
 ·intro l w1 hy T hT;refine xW w1 l b m clk es _ (fun pre=>?_) (fun pre=>?_) (fun _=>rfl) hok hy T hT
  ·have hsb:¬s.n=b:=fun e=>by have:=ak s;rw[e,hb]at this;cases this
   simp(maxDischargeDepth:=12) (maxSteps:=1000000) -implicitDefEqProofs only[go_sem,Nat.reduceAdd,Nat.reduceSub,Nat.reduceMul,Nat.reduceLeDiff,Nat.reduceEqDiff,Nat.reduceGT,Nat.reduceBEq,reduceCtorEq,↓reduceIte,Int.reduceToNat,Int.reduceLE,Int.reduceLT,Int.reduceNe,Int.reduceEq,hsb,hb]
  ·have hsb:¬lb.n=m:=fun e=>by have:=ak lb;rw[e,hm]at this;cases this
   simp(maxDischargeDepth:=12) (maxSteps:=1000000) -implicitDefEqProofs only[go_sem,Nat.reduceAdd,Nat.reduceSub,Nat.reduceMul,Nat.reduceLeDiff,Nat.reduceEqDiff,Nat.reduceGT,Nat.reduceBEq,reduceCtorEq,↓reduceIte,Int.reduceToNat,Int.reduceLE,Int.reduceLT,Int.reduceNe,Int.reduceEq,hsb,hm]
 ·intro pre x T hOk hT;have t1:lk T.box s.n=some [.acc lb.n pre.length]:=hT.box _ _ (by simp(maxDischargeDepth:=12) (maxSteps:=1000000) -implicitDefEqProofs only[go_sem,Nat.reduceAdd,Nat.reduceSub,Nat.reduceMul,Nat.reduceLeDiff,Nat.reduceEqDiff,Nat.reduceGT,Nat.reduceBEq,reduceCtorEq,↓reduceIte,Int.reduceToNat,Int.reduceLE,Int.reduceLT,Int.reduceNe,Int.reduceEq]);have u1:lk T.acc lb.n=some (.arr 1 (pre.map eY)):=hT.acc _ _ (by simp(maxDischargeDepth:=12) (maxSteps:=1000000) -implicitDefEqProofs only[go_sem,Nat.reduceAdd,Nat.reduceSub,Nat.reduceMul,Nat.reduceLeDiff,Nat.reduceEqDiff,Nat.reduceGT,Nat.reduceBEq,reduceCtorEq,↓reduceIte,Int.reduceToNat,Int.reduceLE,Int.reduceLT,Int.reduceNe,Int.reduceEq])
  have hpl:(pre++[x]).length≤1048576:=by
   have h1:((pre++[x]).map kT).Nodup:=aM (fun x y h=>ep h) hOk.1
   have h2:((pre++[x]).map kT)⊆es.map (·.1):=fun u hu=>by
    obtain⟨v,hv,rfl⟩:=Xk.1 hu;obtain⟨e',he',h3⟩:=hOk.2 v hv;exact Xk.2 ⟨e',he',h3⟩
   have:=bQ h1 h2;simp only[XJ]at this;omega
  rw[Xj]at hpl;simp only[Xi,XK]at hpl;have hm8:maxLen=9223372036854775807:=rfl;have hu:(⟨up ((s.n,[.acc lb.n pre.length])::S.box) s.n [.acc lb.n (pre++[x]).length],up ((lb.n,.arr 1 (pre.map eY))::S.acc) lb.n (.arr 1 ((pre++[x]).map eY))⟩:St)=⟨(s.n,[.acc lb.n (pre++[x]).length])::S.box,(lb.n,.arr 1 ((pre++[x]).map eY))::S.acc⟩:=by simp(maxDischargeDepth:=12) (maxSteps:=1000000) -implicitDefEqProofs only[go_sem,Nat.reduceAdd,Nat.reduceSub,Nat.reduceMul,Nat.reduceLeDiff,Nat.reduceEqDiff,Nat.reduceGT,Nat.reduceBEq,reduceCtorEq,↓reduceIte,Int.reduceToNat,Int.reduceLE,Int.reduceLT,Int.reduceNe,Int.reduceEq]
  have hH:=ny (b:=s.n) (l:=lb.n) hT [.acc lb.n (pre++[x]).length] (.arr 1 ((pre++[x]).map eY));have hK:∀v o,Kp ⟨(s.n,[.acc lb.n pre.length])::S.box,(lb.n,.arr 1 (pre.map eY))::S.acc⟩ T ⟨up T.box s.n v,up T.acc lb.n o⟩:=fun v o=>tD (by simp(maxDischargeDepth:=12) (maxSteps:=1000000) -implicitDefEqProofs only[go_sem,Nat.reduceAdd,Nat.reduceSub,Nat.reduceMul,Nat.reduceLeDiff,Nat.reduceEqDiff,Nat.reduceGT,Nat.reduceBEq,reduceCtorEq,↓reduceIte,Int.reduceToNat,Int.reduceLE,Int.reduceLT,Int.reduceNe,Int.reduceEq]) (by simp(maxDischargeDepth:=12) (maxSteps:=1000000) -implicitDefEqProofs only[go_sem,Nat.reduceAdd,Nat.reduceSub,Nat.reduceMul,Nat.reduceLeDiff,Nat.reduceEqDiff,Nat.reduceGT,Nat.reduceBEq,reduceCtorEq,↓reduceIte,Int.reduceToNat,Int.reduceLE,Int.reduceLT,Int.reduceNe,Int.reduceEq]);simp only[gO];simp(maxDischargeDepth:=12) (maxSteps:=1000000) -implicitDefEqProofs only[go_sem,Nat.reduceAdd,Nat.reduceSub,Nat.reduceMul,Nat.reduceLeDiff,Nat.reduceEqDiff,Nat.reduceGT,Nat.reduceBEq,reduceCtorEq,↓reduceIte,Int.reduceToNat,Int.reduceLE,Int.reduceLT,Int.reduceNe,Int.reduceEq,t1,u1,hm8];have hmap:(pre++[x]).map eY=pre.map eY++[.v (.string (tx x))]:=by simp[eY,dS]
  have hlen':(pre++[x]).length=pre.length+1:=by simp
  rw[hu,hmap,hlen']at hH;rw[hmap];exact⟨by omega,by omega,hH,hK _ _⟩
 ·intro V hV;simp(maxDischargeDepth:=12) (maxSteps:=1000000) -implicitDefEqProofs only[go_sem,Nat.reduceAdd,Nat.reduceSub,Nat.reduceMul,Nat.reduceLeDiff,Nat.reduceEqDiff,Nat.reduceGT,Nat.reduceBEq,reduceCtorEq,↓reduceIte,Int.reduceToNat,Int.reduceLE,Int.reduceLT,Int.reduceNe,Int.reduceEq];exact⟨_,_,.refl _,(Sub.refl _).aP,V,lb,hV,rfl,rfl⟩
theorem yp(w0:W0){b m clk:Nat}{es:List (Value×DV×Nat)}{S:St}(hb:lk S.box b=some [.mp m])(hm:lk S.acc m=some (.xo (.mp .str es clk)))(hok:dy .str es clk)(hlen:es.length≤1048576):
 aa Tryz.prog w0 97 [.v (.func (.func 100) #[] #[.pointer (some ⟨b,0,none⟩)])] S (fun d S'=>∃(V:List (List UInt8)) (r:FN S.acc),gR es V∧d= .acc r.n V.length∧S'=⟨S.box,(r.n,.arr 1 (V.map eY))::S.acc⟩):=by
 refine kj [] mx Tryz.func97 rfl rfl (by kernel_rfl) ?_;simp(maxDischargeDepth:=12) (maxSteps:=1000000) -implicitDefEqProofs only[Tryz.ntmps97,go_sem,Nat.reduceAdd,Nat.reduceSub,Nat.reduceMul,Nat.reduceLeDiff,Nat.reduceEqDiff,Nat.reduceGT,Nat.reduceBEq,reduceCtorEq,↓reduceIte,Int.reduceToNat,Int.reduceLE,Int.reduceLT,Int.reduceNe,Int.reduceEq];refine an (sS w0 hb hm hok hlen) ?_;rintro _ _ ⟨V,r,hV,rfl,rfl⟩;simp(maxDischargeDepth:=12) (maxSteps:=1000000) -implicitDefEqProofs only[go_sem,Nat.reduceAdd,Nat.reduceSub,Nat.reduceMul,Nat.reduceLeDiff,Nat.reduceEqDiff,Nat.reduceGT,Nat.reduceBEq,reduceCtorEq,↓reduceIte,Int.reduceToNat,Int.reduceLE,Int.reduceLT,Int.reduceNe,Int.reduceEq];exact⟨V,r,hV,rfl,rfl⟩
theorem zB(w0:W0){m:Nat}(S:St):aa Tryz.prog w0 54 [.mp m] S (fun d S'=>∃b:FN S.box,d= .v (.func (.func 100) #[] #[.pointer (some ⟨b.n,0,none⟩)])∧S'=⟨(b.n,[.mp m])::S.box,S.acc⟩):=by
 refine kj [] mx Tryz.func54 rfl rfl (by kernel_rfl) ?_;simp(maxDischargeDepth:=12) (maxSteps:=1000000) -implicitDefEqProofs only[Tryz.ntmps54,go_sem,Nat.reduceAdd,Nat.reduceSub,Nat.reduceMul,Nat.reduceLeDiff,Nat.reduceEqDiff,Nat.reduceGT,Nat.reduceBEq,reduceCtorEq,↓reduceIte,Int.reduceToNat,Int.reduceLE,Int.reduceLT,Int.reduceNe,Int.reduceEq];intro b;exact⟨b,rfl,rfl⟩
theorem AP(w0:W0){b m clk:Nat}{es:List (Value×DV×Nat)}{S:St}(hb:lk S.box b=some [.mp m])(hm:lk S.acc m=some (.xo (.mp .str es clk)))(hok:dy .str es clk)(hlen:es.length≤1048576):
 aa Tryz.prog w0 52 [.v (.func (.func 100) #[] #[.pointer (some ⟨b,0,none⟩)])] S (fun d S'=>∃(V:List (List UInt8)) (r:FN S.acc),gR es V∧d= .acc r.n V.length∧S'=⟨S.box,(r.n,.arr 1 ((kC V).map eY))::S.acc⟩):=by
 refine kj [] mx Tryz.func52 rfl rfl (by kernel_rfl) ?_;simp(maxDischargeDepth:=12) (maxSteps:=1000000) -implicitDefEqProofs only[Tryz.ntmps52,go_sem,Nat.reduceAdd,Nat.reduceSub,Nat.reduceMul,Nat.reduceLeDiff,Nat.reduceEqDiff,Nat.reduceGT,Nat.reduceBEq,reduceCtorEq,↓reduceIte,Int.reduceToNat,Int.reduceLE,Int.reduceLT,Int.reduceNe,Int.reduceEq];refine an (yp w0 hb hm hok hlen) ?_;rintro _ _ ⟨V,r,hV,rfl,rfl⟩;simp(maxDischargeDepth:=12) (maxSteps:=1000000) -implicitDefEqProofs only[go_sem,Nat.reduceAdd,Nat.reduceSub,Nat.reduceMul,Nat.reduceLeDiff,Nat.reduceEqDiff,Nat.reduceGT,Nat.reduceBEq,reduceCtorEq,↓reduceIte,Int.reduceToNat,Int.reduceLE,Int.reduceLT,Int.reduceNe,Int.reduceEq];have hVl:=jo hV;refine .inl (an (Gb w0 (l:=r.n) (zs:=V) (S:=⟨S.box,(r.n,.arr 1 (V.map eY))::S.acc⟩) (by simp[lk]) (by omega)) ?_);rintro _ _ ⟨rfl,rfl⟩;simp(maxDischargeDepth:=12) (maxSteps:=1000000) -implicitDefEqProofs only[go_sem,Nat.reduceAdd,Nat.reduceSub,Nat.reduceMul,Nat.reduceLeDiff,Nat.reduceEqDiff,Nat.reduceGT,Nat.reduceBEq,reduceCtorEq,↓reduceIte,Int.reduceToNat,Int.reduceLE,Int.reduceLT,Int.reduceNe,Int.reduceEq];exact⟨V,r,hV,rfl,rfl⟩
theorem xA(w1:W0)(l b m clk:Nat)(es:List (Value×DV×Nat))(X:List (List UInt8)→St)
 (hb:∀pre,lk (X pre).box b=some [.mp m]) (hm:∀pre,lk (X pre).acc m=some (.xo (.mp .str es clk)))
 (hda:∀pre,(X pre).acc.map (·.1)=(X []).acc.map (·.1)) (hok:dy .str es clk)
 (hy:O0 Tryz.prog w1 l X (fun x=>[eY x]) (qI es)):∀T,Has (X []) T→aa Tryz.prog w1 99 [.v (.func (.yield l) #[] #[]),.v (.pointer (some ⟨b,0,none⟩))] T fun _ T'=>∃V,gR es V∧Has (X V) T':=by
 intro T hT;have t1:lk T.box b=some [.mp m]:=hT.box _ _ (hb []);have t2:lk T.acc m=some (.xo (.mp .str es clk)):=hT.acc _ _ (hm []);refine kj [] mx Tryz.func99 rfl rfl (by kernel_rfl) ?_;simp only[Tryz.ntmps99,Xi,XK,Nat.reduceAdd,Nat.reduceSub,List.reduceReplicate,Yc,Yr];simp(maxDischargeDepth:=12) (maxSteps:=1000000) -implicitDefEqProofs only[Tryz.ntmps99,go_sem,Nat.reduceAdd,Nat.reduceSub,Nat.reduceMul,Nat.reduceLeDiff,Nat.reduceEqDiff,Nat.reduceGT,Nat.reduceBEq,reduceCtorEq,↓reduceIte,Int.reduceToNat,Int.reduceLE,Int.reduceLT,Int.reduceNe,Int.reduceEq,t1,t2];intro li;refine fc [] [0,5] (fun s:St×List (List UInt8)×List Nat=>[]) (fun s=>s.1) (fun s=>Has (X s.2.1) s.1∧lk s.1.acc li.n=some (.xo (.it m clk s.2.2 clk))∧lk (X s.2.1).acc li.n=none∧qI es s.2.1∧∀e,e∈es→(e.2.2∈s.2.2↔∃v,v∈s.2.1∧e.1=kT v)) (fun s=>es.length-s.2.1.length) (⟨T.box,(li.n,.xo (.it m clk [] clk))::T.acc⟩,[],[]) mx (by kernel_rfl) ?_ ?_
 ·have hnone:lk T.acc li.n=none:=ak li;refine⟨⟨⟨hT.box,fun l' o ho=>?_⟩,by simp[lk],?_,⟨Zm,fun v hv=>by cases hv⟩,fun e _=>⟨fun h=>(by cases h),fun⟨v,hv,_⟩=>(by cases hv)⟩⟩,?_,?_⟩
  ·have:=hT.acc _ _ ho;show lk ((li.n,_)::T.acc) l'=_;simp only[lk];rw[if_neg (fun e=>by rw[e,this]at hnone;cases hnone)];exact this
  ·show lk (X []).acc li.n=none
   cases hx:lk (X []).acc li.n with
   |none=>rfl
   |some o=>rw[hT.acc _ _ hx]at hnone;cases hnone
  ·simp(maxDischargeDepth:=12) (maxSteps:=1000000) -implicitDefEqProofs only[go_sem,Nat.reduceAdd,Nat.reduceSub,Nat.reduceMul,Nat.reduceLeDiff,Nat.reduceEqDiff,Nat.reduceGT,Nat.reduceBEq,reduceCtorEq,↓reduceIte,Int.reduceToNat,Int.reduceLE,Int.reduceLT,Int.reduceNe,Int.reduceEq]
  ·exact .refl _
 ·rintro⟨T,pre,seen⟩ ⟨hT',hi,hiX,hOk,hs⟩;simp only at hT' hi hiX hOk hs;have u1:lk T.box b=some [.mp m]:=hT'.box _ _ (hb pre);have u2:lk T.acc m=some (.xo (.mp .str es clk)):=hT'.acc _ _ (hm pre);have hne:¬li.n=m:=fun e=>by rw[e,hm pre]at hiX;cases hiX
  simp(maxDischargeDepth:=12) (maxSteps:=1000000) -implicitDefEqProofs only[go_sem,Nat.reduceAdd,Nat.reduceSub,Nat.reduceMul,Nat.reduceLeDiff,Nat.reduceEqDiff,Nat.reduceGT,Nat.reduceBEq,reduceCtorEq,↓reduceIte,Int.reduceToNat,Int.reduceLE,Int.reduceLT,Int.reduceNe,Int.reduceEq,u1,u2,hi];refine⟨fun hall=>⟨pre,⟨hOk,fun e he=>(hs e he).1 (hall e he)⟩,hT'⟩,fun e he hns=>?_⟩;obtain⟨a,ha⟩:=pH (hok.key e he);rw[ab hne,u2];simp(maxDischargeDepth:=12) (maxSteps:=1000000) -implicitDefEqProofs only[go_sem,Nat.reduceAdd,Nat.reduceSub,Nat.reduceMul,Nat.reduceLeDiff,Nat.reduceEqDiff,Nat.reduceGT,Nat.reduceBEq,reduceCtorEq,↓reduceIte,Int.reduceToNat,Int.reduceLE,Int.reduceLT,Int.reduceNe,Int.reduceEq];refine⟨e,he,⟨seen,rfl⟩,?_⟩;rw[ha];have hnew:a∉pre:=fun h=>hns ((hs e he).2 ⟨a,h,ha⟩)
  have hOk':qI es (pre++[a]):=⟨by
   rw[Ym];exact⟨hOk.1,by simp,fun x hx y hy=>by rw[Xg.1 hy];rintro rfl;exact hnew hx⟩,fun v hv=>by
   rcases Xh.1 hv with h|h
   ·exact hOk.2 v h
   ·rw[Xg.1 h];exact⟨e,he,ha⟩⟩
  have hT1:Has (X pre) ⟨T.box,up T.acc li.n (.xo (.it m clk (seen++[e.2.2]) clk))⟩:=⟨hT'.box,fun c o hc=>by
   rw[ab (fun h=>by rw[←h,hiX]at hc;cases hc)];exact hT'.acc c o hc⟩
  simp(maxDischargeDepth:=12) (maxSteps:=1000000) -implicitDefEqProofs only[go_sem,Nat.reduceAdd,Nat.reduceSub,Nat.reduceMul,Nat.reduceLeDiff,Nat.reduceEqDiff,Nat.reduceGT,Nat.reduceBEq,reduceCtorEq,↓reduceIte,Int.reduceToNat,Int.reduceLE,Int.reduceLT,Int.reduceNe,Int.reduceEq,kT];refine MA (hy pre a _ hOk' hT1) ?_;rintro d T2 ⟨rfl,hT2,hK⟩;have ui:lk T2.acc li.n=some (.xo (.it m clk (seen++[e.2.2]) clk)):=hK.acc _ _ hiX (by rw[aE,hi];rfl);have hX2:lk (X (pre++[a])).acc li.n=none:=oJ ((hda _).trans (hda _).symm) hiX
  have hs2:∀e',e'∈es→(e'.2.2∈seen++[e.2.2]↔∃v,v∈pre++[a]∧e'.1=kT v):=fun e' he'=>by
   constructor
   ·intro h;rcases Xh.1 h with h|h
    ·obtain⟨v,h1,h2⟩:=(hs e' he').1 h;exact⟨v,XS _ h1,h2⟩
    ·have:e'=e:=eB hok.bn he' he (Xg.1 h);rw[this];exact⟨a,by simp,ha⟩
   ·rintro⟨v,h1,h2⟩;rcases Xh.1 h1 with h|h
    ·exact XS _ ((hs e' he').2 ⟨v,h,h2⟩)
    ·have:e'=e:=eB hok.nd he' he (by rw[h2,ha,Xg.1 h]);rw[this];simp
  have hlen:(pre++[a]).length≤es.length:=by
   have h1:((pre++[a]).map kT).Nodup:=aM (fun x y h=>ep h) hOk'.1
   have h2:((pre++[a]).map kT)⊆es.map (·.1):=fun u hu=>by
    obtain⟨v,hv,rfl⟩:=Xk.1 hu;obtain⟨e',he',h3⟩:=hOk'.2 v hv;exact Xk.2 ⟨e',he',h3⟩
   have:=bQ h1 h2;simpa using this
  simp(maxDischargeDepth:=12) (maxSteps:=1000000) -implicitDefEqProofs only[go_sem,Nat.reduceAdd,Nat.reduceSub,Nat.reduceMul,Nat.reduceLeDiff,Nat.reduceEqDiff,Nat.reduceGT,Nat.reduceBEq,reduceCtorEq,↓reduceIte,Int.reduceToNat,Int.reduceLE,Int.reduceLT,Int.reduceNe,Int.reduceEq];refine⟨(T2,pre++[a],seen++[e.2.2]),⟨hT2,ui,hX2,hOk',hs2⟩,?_,.refl _⟩;show es.length-(pre++[a]).length<es.length-pre.length;rw[Xj]at hlen ⊢;simp only[Xi,XK]at*;omega
theorem sK(w0:W0){b m clk:Nat}{es:List (Value×DV×Nat)}{S:St}(hb:lk S.box b=some [.mp m])(hm:lk S.acc m=some (.xo (.mp .str es clk)))(hok:dy .str es clk)(hlen:es.length≤1048576):
 aa Tryz.prog w0 139 [.sl 0 true [],.v (.func (.func 99) #[] #[.pointer (some ⟨b,0,none⟩)])] S (fun d S'=>∃(V:List (List UInt8)) (r:FN S.acc),gR es V∧d= .acc r.n V.length∧S'=⟨S.box,(r.n,.arr 1 (V.map eY))::S.acc⟩):=by
 refine mv [] mx Tryz.func139 rfl rfl (by kernel_rfl) ?_;simp(maxDischargeDepth:=12) (maxSteps:=1000000) -implicitDefEqProofs only[Tryz.ntmps139,go_sem,Nat.reduceAdd,Nat.reduceSub,Nat.reduceMul,Nat.reduceLeDiff,Nat.reduceEqDiff,Nat.reduceGT,Nat.reduceBEq,reduceCtorEq,↓reduceIte,Int.reduceToNat,Int.reduceLE,Int.reduceLT,Int.reduceNe,Int.reduceEq];intro s;refine fV s.n 0 1 (by omega) (ds:=[.sl 0 true []]) (by simp(maxDischargeDepth:=12) (maxSteps:=1000000) -implicitDefEqProofs only[go_sem,Nat.reduceAdd,Nat.reduceSub,Nat.reduceMul,Nat.reduceLeDiff,Nat.reduceEqDiff,Nat.reduceGT,Nat.reduceBEq,reduceCtorEq,↓reduceIte,Int.reduceToNat,Int.reduceLE,Int.reduceLT,Int.reduceNe,Int.reduceEq]) rfl fun lb=>?_;simp(maxDischargeDepth:=12) (maxSteps:=1000000) -implicitDefEqProofs only[go_sem,Nat.reduceAdd,Nat.reduceSub,Nat.reduceMul,Nat.reduceLeDiff,Nat.reduceEqDiff,Nat.reduceGT,Nat.reduceBEq,reduceCtorEq,↓reduceIte,Int.reduceToNat,Int.reduceLE,Int.reduceLT,Int.reduceNe,Int.reduceEq];refine tA [] (fun pre=>⟨(s.n,[.acc lb.n pre.length])::S.box,(lb.n,.arr 1 (pre.map eY))::S.acc⟩) (fun x=>[eY x]) (qI es) (gR es) mx (by kernel_rfl) rfl rfl rfl (fun _=>rfl) (fun _=>rfl) (fun _=>rfl) ?_ ?_ ?_
 ·intro l w1 hy T hT;refine xA w1 l b m clk es _ (fun pre=>?_) (fun pre=>?_) (fun _=>rfl) hok hy T hT
  ·have hsb:¬s.n=b:=fun e=>by have:=ak s;rw[e,hb]at this;cases this
   simp(maxDischargeDepth:=12) (maxSteps:=1000000) -implicitDefEqProofs only[go_sem,Nat.reduceAdd,Nat.reduceSub,Nat.reduceMul,Nat.reduceLeDiff,Nat.reduceEqDiff,Nat.reduceGT,Nat.reduceBEq,reduceCtorEq,↓reduceIte,Int.reduceToNat,Int.reduceLE,Int.reduceLT,Int.reduceNe,Int.reduceEq,hsb,hb]
  ·have hsb:¬lb.n=m:=fun e=>by have:=ak lb;rw[e,hm]at this;cases this
   simp(maxDischargeDepth:=12) (maxSteps:=1000000) -implicitDefEqProofs only[go_sem,Nat.reduceAdd,Nat.reduceSub,Nat.reduceMul,Nat.reduceLeDiff,Nat.reduceEqDiff,Nat.reduceGT,Nat.reduceBEq,reduceCtorEq,↓reduceIte,Int.reduceToNat,Int.reduceLE,Int.reduceLT,Int.reduceNe,Int.reduceEq,hsb,hm]
 ·intro pre x T hOk hT;have t1:lk T.box s.n=some [.acc lb.n pre.length]:=hT.box _ _ (by simp(maxDischargeDepth:=12) (maxSteps:=1000000) -implicitDefEqProofs only[go_sem,Nat.reduceAdd,Nat.reduceSub,Nat.reduceMul,Nat.reduceLeDiff,Nat.reduceEqDiff,Nat.reduceGT,Nat.reduceBEq,reduceCtorEq,↓reduceIte,Int.reduceToNat,Int.reduceLE,Int.reduceLT,Int.reduceNe,Int.reduceEq]);have u1:lk T.acc lb.n=some (.arr 1 (pre.map eY)):=hT.acc _ _ (by simp(maxDischargeDepth:=12) (maxSteps:=1000000) -implicitDefEqProofs only[go_sem,Nat.reduceAdd,Nat.reduceSub,Nat.reduceMul,Nat.reduceLeDiff,Nat.reduceEqDiff,Nat.reduceGT,Nat.reduceBEq,reduceCtorEq,↓reduceIte,Int.reduceToNat,Int.reduceLE,Int.reduceLT,Int.reduceNe,Int.reduceEq])
  have hpl:(pre++[x]).length≤1048576:=by
   have h1:((pre++[x]).map kT).Nodup:=aM (fun x y h=>ep h) hOk.1
   have h2:((pre++[x]).map kT)⊆es.map (·.1):=fun u hu=>by
    obtain⟨v,hv,rfl⟩:=Xk.1 hu;obtain⟨e',he',h3⟩:=hOk.2 v hv;exact Xk.2 ⟨e',he',h3⟩
   have:=bQ h1 h2;simp only[XJ]at this;omega
  rw[Xj]at hpl;simp only[Xi,XK]at hpl;have hm8:maxLen=9223372036854775807:=rfl;have hu:(⟨up ((s.n,[.acc lb.n pre.length])::S.box) s.n [.acc lb.n (pre++[x]).length],up ((lb.n,.arr 1 (pre.map eY))::S.acc) lb.n (.arr 1 ((pre++[x]).map eY))⟩:St)=⟨(s.n,[.acc lb.n (pre++[x]).length])::S.box,(lb.n,.arr 1 ((pre++[x]).map eY))::S.acc⟩:=by simp(maxDischargeDepth:=12) (maxSteps:=1000000) -implicitDefEqProofs only[go_sem,Nat.reduceAdd,Nat.reduceSub,Nat.reduceMul,Nat.reduceLeDiff,Nat.reduceEqDiff,Nat.reduceGT,Nat.reduceBEq,reduceCtorEq,↓reduceIte,Int.reduceToNat,Int.reduceLE,Int.reduceLT,Int.reduceNe,Int.reduceEq]
  have hH:=ny (b:=s.n) (l:=lb.n) hT [.acc lb.n (pre++[x]).length] (.arr 1 ((pre++[x]).map eY));have hK:∀v o,Kp ⟨(s.n,[.acc lb.n pre.length])::S.box,(lb.n,.arr 1 (pre.map eY))::S.acc⟩ T ⟨up T.box s.n v,up T.acc lb.n o⟩:=fun v o=>tD (by simp(maxDischargeDepth:=12) (maxSteps:=1000000) -implicitDefEqProofs only[go_sem,Nat.reduceAdd,Nat.reduceSub,Nat.reduceMul,Nat.reduceLeDiff,Nat.reduceEqDiff,Nat.reduceGT,Nat.reduceBEq,reduceCtorEq,↓reduceIte,Int.reduceToNat,Int.reduceLE,Int.reduceLT,Int.reduceNe,Int.reduceEq]) (by simp(maxDischargeDepth:=12) (maxSteps:=1000000) -implicitDefEqProofs only[go_sem,Nat.reduceAdd,Nat.reduceSub,Nat.reduceMul,Nat.reduceLeDiff,Nat.reduceEqDiff,Nat.reduceGT,Nat.reduceBEq,reduceCtorEq,↓reduceIte,Int.reduceToNat,Int.reduceLE,Int.reduceLT,Int.reduceNe,Int.reduceEq]);simp only[gO];simp(maxDischargeDepth:=12) (maxSteps:=1000000) -implicitDefEqProofs only[go_sem,Nat.reduceAdd,Nat.reduceSub,Nat.reduceMul,Nat.reduceLeDiff,Nat.reduceEqDiff,Nat.reduceGT,Nat.reduceBEq,reduceCtorEq,↓reduceIte,Int.reduceToNat,Int.reduceLE,Int.reduceLT,Int.reduceNe,Int.reduceEq,t1,u1,hm8];have hmap:(pre++[x]).map eY=pre.map eY++[.v (.string (tx x))]:=by simp[eY,dS]
  have hlen':(pre++[x]).length=pre.length+1:=by simp
  rw[hu,hmap,hlen']at hH;rw[hmap];exact⟨by omega,by omega,hH,hK _ _⟩
 ·intro V hV;simp(maxDischargeDepth:=12) (maxSteps:=1000000) -implicitDefEqProofs only[go_sem,Nat.reduceAdd,Nat.reduceSub,Nat.reduceMul,Nat.reduceLeDiff,Nat.reduceEqDiff,Nat.reduceGT,Nat.reduceBEq,reduceCtorEq,↓reduceIte,Int.reduceToNat,Int.reduceLE,Int.reduceLT,Int.reduceNe,Int.reduceEq];exact⟨_,_,.refl _,(Sub.refl _).aP,V,lb,hV,rfl,rfl⟩
theorem yP(w0:W0){b m clk:Nat}{es:List (Value×DV×Nat)}{S:St}(hb:lk S.box b=some [.mp m])(hm:lk S.acc m=some (.xo (.mp .str es clk)))(hok:dy .str es clk)(hlen:es.length≤1048576):
 aa Tryz.prog w0 97 [.v (.func (.func 99) #[] #[.pointer (some ⟨b,0,none⟩)])] S (fun d S'=>∃(V:List (List UInt8)) (r:FN S.acc),gR es V∧d= .acc r.n V.length∧S'=⟨S.box,(r.n,.arr 1 (V.map eY))::S.acc⟩):=by
 refine kj [] mx Tryz.func97 rfl rfl (by kernel_rfl) ?_;simp(maxDischargeDepth:=12) (maxSteps:=1000000) -implicitDefEqProofs only[Tryz.ntmps97,go_sem,Nat.reduceAdd,Nat.reduceSub,Nat.reduceMul,Nat.reduceLeDiff,Nat.reduceEqDiff,Nat.reduceGT,Nat.reduceBEq,reduceCtorEq,↓reduceIte,Int.reduceToNat,Int.reduceLE,Int.reduceLT,Int.reduceNe,Int.reduceEq];refine an (sK w0 hb hm hok hlen) ?_;rintro _ _ ⟨V,r,hV,rfl,rfl⟩;simp(maxDischargeDepth:=12) (maxSteps:=1000000) -implicitDefEqProofs only[go_sem,Nat.reduceAdd,Nat.reduceSub,Nat.reduceMul,Nat.reduceLeDiff,Nat.reduceEqDiff,Nat.reduceGT,Nat.reduceBEq,reduceCtorEq,↓reduceIte,Int.reduceToNat,Int.reduceLE,Int.reduceLT,Int.reduceNe,Int.reduceEq];exact⟨V,r,hV,rfl,rfl⟩
theorem I2(w0:W0){m:Nat}(S:St):aa Tryz.prog w0 53 [.mp m] S (fun d S'=>∃b:FN S.box,d= .v (.func (.func 99) #[] #[.pointer (some ⟨b.n,0,none⟩)])∧S'=⟨(b.n,[.mp m])::S.box,S.acc⟩):=by
 refine kj [] mx Tryz.func53 rfl rfl (by kernel_rfl) ?_;simp(maxDischargeDepth:=12) (maxSteps:=1000000) -implicitDefEqProofs only[Tryz.ntmps53,go_sem,Nat.reduceAdd,Nat.reduceSub,Nat.reduceMul,Nat.reduceLeDiff,Nat.reduceEqDiff,Nat.reduceGT,Nat.reduceBEq,reduceCtorEq,↓reduceIte,Int.reduceToNat,Int.reduceLE,Int.reduceLT,Int.reduceNe,Int.reduceEq];intro b;exact⟨b,rfl,rfl⟩
theorem AE(w0:W0){b m clk:Nat}{es:List (Value×DV×Nat)}{S:St}(hb:lk S.box b=some [.mp m])(hm:lk S.acc m=some (.xo (.mp .str es clk)))(hok:dy .str es clk)(hlen:es.length≤1048576):
 aa Tryz.prog w0 52 [.v (.func (.func 99) #[] #[.pointer (some ⟨b,0,none⟩)])] S (fun d S'=>∃(V:List (List UInt8)) (r:FN S.acc),gR es V∧d= .acc r.n V.length∧S'=⟨S.box,(r.n,.arr 1 ((kC V).map eY))::S.acc⟩):=by
 refine kj [] mx Tryz.func52 rfl rfl (by kernel_rfl) ?_;simp(maxDischargeDepth:=12) (maxSteps:=1000000) -implicitDefEqProofs only[Tryz.ntmps52,go_sem,Nat.reduceAdd,Nat.reduceSub,Nat.reduceMul,Nat.reduceLeDiff,Nat.reduceEqDiff,Nat.reduceGT,Nat.reduceBEq,reduceCtorEq,↓reduceIte,Int.reduceToNat,Int.reduceLE,Int.reduceLT,Int.reduceNe,Int.reduceEq];refine an (yP w0 hb hm hok hlen) ?_;rintro _ _ ⟨V,r,hV,rfl,rfl⟩;simp(maxDischargeDepth:=12) (maxSteps:=1000000) -implicitDefEqProofs only[go_sem,Nat.reduceAdd,Nat.reduceSub,Nat.reduceMul,Nat.reduceLeDiff,Nat.reduceEqDiff,Nat.reduceGT,Nat.reduceBEq,reduceCtorEq,↓reduceIte,Int.reduceToNat,Int.reduceLE,Int.reduceLT,Int.reduceNe,Int.reduceEq];have hVl:=jo hV;refine .inl (an (Gb w0 (l:=r.n) (zs:=V) (S:=⟨S.box,(r.n,.arr 1 (V.map eY))::S.acc⟩) (by simp[lk]) (by omega)) ?_);rintro _ _ ⟨rfl,rfl⟩;simp(maxDischargeDepth:=12) (maxSteps:=1000000) -implicitDefEqProofs only[go_sem,Nat.reduceAdd,Nat.reduceSub,Nat.reduceMul,Nat.reduceLeDiff,Nat.reduceEqDiff,Nat.reduceGT,Nat.reduceBEq,reduceCtorEq,↓reduceIte,Int.reduceToNat,Int.reduceLE,Int.reduceLT,Int.reduceNe,Int.reduceEq];exact⟨V,r,hV,rfl,rfl⟩
end Go.Proofs.YtoepfmhnapedoaaGreatDoor
namespace Go.Proofs.YtoepfmhnapedoaaGreatDoor
open Aml Go
theorem I8{a b:List Int}(h1:a.Pairwise (·≤·))(h2:a.Perm b):HI b=a:=by
 have hb:(HI b).Pairwise (·≤·):=by
  have:=List.pairwise_mergeSort (le:=fun x y:Int=>decide (x≤y)) (by intro a b c;simp;omega) (by intro a b;simp;omega) b;exact this.imp fun h=>by simpa using h
 exact(h2.trans (Y9 b _).symm).symm.eq_of_pairwise (fun a b _ _ h k=>Int.le_antisymm h k) hb h1
theorem FR{es:List (Value×DV×Nat)}{V sn:List Int}(hV:qe es V)(hes:∀x,aJ es (kI x)=if x∈sn then some (dI 1)else none)(hr:sn.Pairwise (·<·)):HI V=sn:=by
 refine I8 (hr.imp fun h=>Int.le_of_lt h) ((List.perm_ext_iff_of_nodup (hr.imp fun h=>by omega) hV.1.1).2 fun x=>?_);have h1:=hes x;constructor
 ·intro hx;rw[if_pos hx]at h1;obtain⟨bn,hm⟩:=mo h1;obtain⟨v,hv,e⟩:=hV.2 _ hm;unfold kI at e;cases e;exact hv
 ·intro hx;obtain⟨e,he,hk⟩:=hV.1.2 x hx;by_cases hn:x∈sn
  ·exact hn
  ·rw[if_neg hn]at h1;exact absurd hk (eR.1 h1 e he)
theorem Oi(w0:W0){S:St}{t l1 l2:Nat}{es1:List (Value×DV×Nat)}{c1:Nat}{es2:List (Value×DV×Nat)}{c2:Nat}(h:r9 S t l1 l2 es1 c1 es2 c2)(lv n:Int)(b m:Nat)(hg:aJ es2 (oB lv n)=some (bz b))(la:Int)(es:List (Value×DV×Nat))(c:Nat)
 (hb:lk S.box b=some [dI la,.mp m]) (hm:lk S.acc m=some (.xo (.mp (.int .i64) es c))) (sn:List Int) (hes:∀x,aJ es (kI x)=if x∈sn then some (dI 1)else none) (hr:sn.Pairwise (·<·)) (hl:es.length≤1048576):
 aa Tryz.prog w0 153 [bz t,yZ lv n] S (fun d S'=>d=dL sn∧S'=S):=by
 have ho:=fun T (hT:r9 T t l1 l2 es1 c1 es2 c2)=>Mm w0 hT lv n (some b) hg;refine fi hm fun hok=>?_;refine bW [] mx Tryz.func153 rfl rfl (by kernel_rfl) ?_;simp(maxDischargeDepth:=12) (maxSteps:=1000000) -implicitDefEqProofs only[Tryz.ntmps153,go_sem,Nat.reduceAdd,Nat.reduceSub,Nat.reduceMul,Nat.reduceLeDiff,Nat.reduceEqDiff,Nat.reduceGT,Nat.reduceBEq,reduceCtorEq,↓reduceIte,Int.reduceToNat,Int.reduceLE,Int.reduceLT,Int.reduceNe,Int.reduceEq];intro b3;refine ao (ho _ ⟨by simp(maxDischargeDepth:=12) (maxSteps:=1000000) -implicitDefEqProofs only[go_sem,Nat.reduceAdd,Nat.reduceSub,Nat.reduceMul,Nat.reduceLeDiff,Nat.reduceEqDiff,Nat.reduceGT,Nat.reduceBEq,reduceCtorEq,↓reduceIte,Int.reduceToNat,Int.reduceLE,Int.reduceLT,Int.reduceNe,Int.reduceEq,h.tb],h.m1,h.m2⟩) ?_;unfold vD;simp(maxDischargeDepth:=12) (maxSteps:=1000000) -implicitDefEqProofs only[go_sem,Nat.reduceAdd,Nat.reduceSub,Nat.reduceMul,Nat.reduceLeDiff,Nat.reduceEqDiff,Nat.reduceGT,Nat.reduceBEq,reduceCtorEq,↓reduceIte,Int.reduceToNat,Int.reduceLE,Int.reduceLT,Int.reduceNe,Int.reduceEq,hb];refine an (ME w0 _) ?_;rintro _ _ ⟨b4,rfl,rfl⟩;simp(maxDischargeDepth:=12) (maxSteps:=1000000) -implicitDefEqProofs only[go_sem,Nat.reduceAdd,Nat.reduceSub,Nat.reduceMul,Nat.reduceLeDiff,Nat.reduceEqDiff,Nat.reduceGT,Nat.reduceBEq,reduceCtorEq,↓reduceIte,Int.reduceToNat,Int.reduceLE,Int.reduceLT,Int.reduceNe,Int.reduceEq];refine an (EV w0 (b:=b4.n) (m:=m) (clk:=c) (es:=es) (by simp[lk]) hm hok hl) ?_;rintro _ _ ⟨V,r,hV,rfl,rfl⟩;have hs:=FR hV hes hr;rw[hs];simp(maxDischargeDepth:=12) (maxSteps:=1000000) -implicitDefEqProofs only[go_sem,Nat.reduceAdd,Nat.reduceSub,Nat.reduceMul,Nat.reduceLeDiff,Nat.reduceEqDiff,Nat.reduceGT,Nat.reduceBEq,reduceCtorEq,↓reduceIte,Int.reduceToNat,Int.reduceLE,Int.reduceLT,Int.reduceNe,Int.reduceEq];rw[←hs];exact lF V
theorem Jt(w0:W0){S:St}{t l1 l2:Nat}{es1:List (Value×DV×Nat)}{c1:Nat}{es2:List (Value×DV×Nat)}{c2:Nat}(h:r9 S t l1 l2 es1 c1 es2 c2)(lv n:Int)(hg:aJ es2 (oB lv n)=none):
 aa Tryz.prog w0 153 [bz t,yZ lv n] S (fun d S'=>d=dL []∧S'=S):=by
 have ho:=fun T (hT:r9 T t l1 l2 es1 c1 es2 c2)=>Mm w0 hT lv n none hg;refine bW [] mx Tryz.func153 rfl rfl (by kernel_rfl) ?_;simp(maxDischargeDepth:=12) (maxSteps:=1000000) -implicitDefEqProofs only[Tryz.ntmps153,go_sem,Nat.reduceAdd,Nat.reduceSub,Nat.reduceMul,Nat.reduceLeDiff,Nat.reduceEqDiff,Nat.reduceGT,Nat.reduceBEq,reduceCtorEq,↓reduceIte,Int.reduceToNat,Int.reduceLE,Int.reduceLT,Int.reduceNe,Int.reduceEq];intro b3;refine ao (ho _ ⟨by simp(maxDischargeDepth:=12) (maxSteps:=1000000) -implicitDefEqProofs only[go_sem,Nat.reduceAdd,Nat.reduceSub,Nat.reduceMul,Nat.reduceLeDiff,Nat.reduceEqDiff,Nat.reduceGT,Nat.reduceBEq,reduceCtorEq,↓reduceIte,Int.reduceToNat,Int.reduceLE,Int.reduceLT,Int.reduceNe,Int.reduceEq,h.tb],h.m1,h.m2⟩) ?_;unfold vD;simp(maxDischargeDepth:=12) (maxSteps:=1000000) -implicitDefEqProofs only[go_sem,Nat.reduceAdd,Nat.reduceSub,Nat.reduceMul,Nat.reduceLeDiff,Nat.reduceEqDiff,Nat.reduceGT,Nat.reduceBEq,reduceCtorEq,↓reduceIte,Int.reduceToNat,Int.reduceLE,Int.reduceLT,Int.reduceNe,Int.reduceEq]
theorem je{α:Type}{p:α→Bool}:∀{l:List α} {i:Nat} {a b:α},l[i]? =some a→p b=p a→(l.set i b).findIdx p=l.findIdx p
 |[],i,a,b,h,_=>by simp at h
 |x::l,0,a,b,h,e=>by
  cases h;rw[List.set_cons_zero,Zj,Zj,e]
 |x::l,i+1,a,b,h,e=>by
  rw[List.set_cons_succ,Zj,Zj,je (l:=l) (by simpa using h) e]
theorem jW{α:Type}{p:α→Bool}:∀{l:List α} {i:Nat} {a b:α},l[i]? =some a→p b=p a→(l.set i b).countP p=l.countP p
 |[],i,a,b,h,_=>by simp at h
 |x::l,0,a,b,h,e=>by
  cases h;rw[List.set_cons_zero,List.countP_cons,List.countP_cons,e]
 |x::l,i+1,a,b,h,e=>by
  rw[List.set_cons_succ,List.countP_cons,List.countP_cons,jW (l:=l) (by simpa using h) e]
theorem uI(l:List RH)(lv:Int){i j:Nat}(h:i≤j):eX (l.take i) lv≤eX (l.take j) lv:=by
 have:l.take i=(l.take j).take i:=by rw[List.take_take,YW h]
 rw[this];exact(List.take_sublist _ _).countP_le
structure iM(w:List RH):Prop where
 num:∀(i:Nat) s,w[i]? =some s→s.n=(eX (w.take i) s.lv:Int)+1
 up:∀s,s∈w→s.sn.Pairwise (·<·)
 LX:∀s,s∈w→∀x,x∈s.sn→1≤x∧x≤s.last
 la:∀s,s∈w→0≤s.last
theorem iM.nil:iM []:=⟨fun i s h=>by simp at h,fun s h=>by simp at h,fun s h=>by simp at h,fun s h=>by simp at h⟩
theorem iM.le{w:List RH}(h:iM w){i:Nat}{s:RH}(hs:w[i]? =some s):1≤s.n∧s.n≤eX w s.lv:=by
 have h1:=h.num i s hs;have h2:=uO (lv:=s.lv) hs;rw[if_pos rfl]at h2;have h3:=uI w s.lv (i:=i+1) (j:=w.length) (by have:=(W6.1 hs).1;omega);rw[List.take_length]at h3;omega
theorem iM.uq{w:List RH}(h:iM w){i j:Nat}{s r:RH}(hs:w[i]? =some s)(hr:w[j]? =some r)(e1:s.lv=r.lv)(e2:s.n=r.n):i=j:=by
 have key:∀{i j:Nat} {s r:RH},w[i]? =some s→w[j]? =some r→s.lv=r.lv→i<j→s.n<r.n:=fun{i j s r} hs hr e1 hij=>by
  have h1:=h.num i s hs;have h2:=h.num j r hr;have h3:=uO (lv:=s.lv) hs;rw[if_pos rfl]at h3;have h4:=uI w s.lv (i:=i+1) (j:=j) (by omega);rw[←e1]at h2;omega
 rcases Yl i j with q|q|q
 ·have:=key hs hr e1 q;omega
 ·exact q
 ·have:=key hr hs e1.symm q;omega
theorem jb{lv n:Int}{s:RH}:HH lv n s=true↔s.lv=lv∧s.n=n∧s.gone=false:=by
 unfold HH;simp[and_assoc]
theorem fP{w:List RH}{lv n:Int}{s:RH}(h:w[dm w lv n]? =some s):s.lv=lv∧s.n=n∧s.gone=false:=by
 obtain⟨c,hc,h2⟩:=mQ (W6.1 h).1;rw[h]at hc;cases hc;exact jb.1 h2
theorem iM.set{w:List RH}(h:iM w){i:Nat}{s r:RH}(hs:w[i]? =some s)(e1:r.lv=s.lv)(e2:r.n=s.n)(h1:r.sn.Pairwise (·<·))(h2:∀x,x∈r.sn→1≤x∧x≤r.last)(h3:0≤r.last):iM (w.set i r):=by
 have hm:∀a,a∈w.set i r→a∈w∨a=r:=fun a ha=>Yh ha;refine⟨fun j a ha=>?_,fun a ha=>(hm a ha).elim (h.up a) fun e=>e▸h1,fun a ha=>(hm a ha).elim (h.LX a) fun e=>e▸h2,fun a ha=>(hm a ha).elim (h.la a) fun e=>e▸h3⟩
 have hc:∀lv,eX ((w.set i r).take j) lv=eX (w.take j) lv:=fun lv=>by
  rcases XH i j with q|q
  ·rw[List.take_set];refine jW (a:=s) (by rw[List.getElem?_take_of_lt q];exact hs) ?_;rw[e1]
  ·rw[List.take_set_of_le q]
 rw[hc];by_cases q:i=j
 ·subst q;rw[X7 (W6.1 hs).1]at ha;cases ha;rw[e2,e1];exact h.num i s hs
 ·rw[X8 q]at ha;exact h.num j a ha
theorem iM.op{w:List RH}(h:iM w)(lv:Int):iM (lM w lv).1:=by
 have hm:∀a,a∈(lM w lv).1→a∈w∨a=⟨lv,(eX w lv:Int)+1,[],0,false⟩:=fun a ha=>by
  unfold lM at ha;rcases Xh.1 ha with q|q
  ·exact .inl q
  ·exact .inr (Xg.1 q)
 refine⟨fun j a ha=>?_,fun a ha=>(hm a ha).elim (h.up a) fun e=>e▸List.Pairwise.nil,fun a ha=>(hm a ha).elim (h.LX a) fun e=>e▸fun x hx=>(by cases hx),fun a ha=>(hm a ha).elim (h.la a) fun e=>e▸Int.le_refl _⟩;unfold lM at ha ⊢;simp only at ha ⊢;rcases Yl j w.length with q|q|q
 ·rw[Xx q]at ha;rw[List.take_append_of_le_length (by omega)];exact h.num j a ha
 ·subst q;rw[Xv (Xa _),Zn]at ha;cases ha;rw[List.take_left]
 ·rw[Xv (by omega)]at ha;have:¬j-w.length=0:=by omega
  cases hj:j-w.length with
  |zero=>omega
  |succ k=>rw[hj]at ha;simp at ha
theorem iM.cl{w:List RH}(h:iM w)(lv n:Int):iM (nO w lv n).1:=by
 unfold nO;split
 ·rename_i q;obtain⟨s,hs,_⟩:=mQ q;obtain⟨e1,e2,_⟩:=fP hs;exact h.set hs e1.symm e2.symm List.Pairwise.nil (fun x hx=>by cases hx) (Int.le_refl _)
 ·exact h
theorem iM.sn{w:List RH}(h:iM w)(lv n:Int):iM (qw w lv n).1:=by
 unfold qw;split
 ·rename_i s hs;have hm:=W7 hs;have h1:=h.la s hm;refine h.set hs rfl rfl ?_ (fun x hx=>?_) (by unfold JJ;simp only;omega)
  ·unfold JJ;simp only;rw[List.pairwise_append]
   exact⟨h.up s hm,List.pairwise_singleton _ _,fun x hx y hy=>by
    rw[Xg.1 hy];have:=(h.LX s hm x hx).2;omega⟩
  ·unfold JJ at hx ⊢;simp only at hx ⊢;rcases Xh.1 hx with q|q
   ·have:=h.LX s hm x q;omega
   ·rw[Xg.1 q];omega
 ·exact h
theorem iM.un{w:List RH}(h:iM w)(lv n x:Int):iM (oy w lv n x).1:=by
 unfold oy;split
 ·rename_i s hs;have hm:=W7 hs;split
  ·exact h
  ·exact h.set hs rfl rfl ((h.up s hm).sublist List.filter_sublist) (fun y hy=>h.LX s hm y ((YA.1 hy).1)) (h.la s hm)
 ·exact h
theorem Lf{w:List RH}(hw:iM w)(lv lv' n':Int):dm (lM w lv).1 lv' n'=if dm w lv' n'<w.length then dm w lv' n' else if lv'=lv∧n'=(eX w lv:Int)+1 then w.length else w.length+1:=by
 unfold lM dm;simp only;rw[List.findIdx_append];split
 ·rfl
 ·rw[Zj,List.findIdx_nil];by_cases q:lv'=lv∧n'=(eX w lv:Int)+1
  ·rw[if_pos q];have:HH lv' n' ⟨lv,(eX w lv:Int)+1,[],0,false⟩=true:=jb.2 ⟨q.1.symm,q.2.symm,rfl⟩;rw[this];simp
  ·rw[if_neg q]
   have:HH lv' n' ⟨lv,(eX w lv:Int)+1,[],0,false⟩=false:=by
    rw[←Zo,jb];exact fun⟨a,b,_⟩=>q ⟨a.symm,b.symm⟩
   rw[this];simp;omega
theorem Fe{w:List RH}(hw:iM w)(lv:Int):dm w lv ((eX w lv:Int)+1)=w.length:=by
 refine zT fun j a ha=>?_;rw[←Zo,jb];rintro⟨e1,e2,_⟩;have:=(hw.le ha).2;rw[e1]at this;omega
theorem zl{w:List RH}{i:Nat}{s r:RH}(hs:w[i]? =some s)(e1:r.lv=s.lv)(e2:r.n=s.n)(e3:r.gone=s.gone)(lv n:Int):dm (w.set i r) lv n=dm w lv n:=
 je hs (by unfold HH;rw[e1,e2,e3])
theorem KD{w:List RH}(hw:iM w){lv n:Int}(h:dm w lv n<w.length)(lv' n':Int):dm (nO w lv n).1 lv' n'=if lv'=lv∧n'=n then w.length else dm w lv' n':=by
 unfold nO;rw[if_pos h];obtain⟨s,hs,_⟩:=mQ h;obtain⟨e1,e2,e3⟩:=fP hs;simp only;split
 ·rename_i q;obtain⟨rfl,rfl⟩:=q;have hl:w.length=(w.set (dm w lv' n') ⟨lv',n',[],0,true⟩).length:=by rw[List.length_set]
  rw[hl];refine zT fun j a ha=>?_;rw[←Zo,jb];rintro⟨a1,a2,a3⟩;by_cases q:dm w lv' n'=j
  ·rw[←q,X7 h]at ha;cases ha;cases a3
  ·rw[X8 q]at ha;exact q (hw.uq hs ha (by rw[e1,a1]) (by rw[e2,a2]))
 ·rename_i q;refine je hs ?_
  have x1:HH lv' n' ⟨lv,n,[],0,true⟩=false:=by
   rw[←Zo,jb];rintro⟨_,_,q3⟩;cases q3
  have x2:HH lv' n' s=false:=by
   rw[←Zo,jb];rintro⟨q1,q2,_⟩;exact q ⟨by rw[←q1,e1],by rw[←q2,e2]⟩
  rw[x1,x2]
theorem tF{w:List RH}{i:Nat}{s r:RH}(hs:w[i]? =some s)(e1:r.lv=s.lv)(lv:Int):eX (w.set i r) lv=eX w lv:=jW hs (by rw[e1])
theorem Al(w:List RH)(lv lv':Int):eX (lM w lv).1 lv'=eX w lv'+if lv=lv' then 1 else 0:=by
 unfold lM eX;simp only;rw[List.countP_append];congr 1;by_cases e:lv=lv' <;>simp[e]
theorem z8(w:List RH)(lv n lv':Int):eX (nO w lv n).1 lv'=eX w lv':=by
 unfold nO;split
 ·rename_i q;obtain⟨s,hs,_⟩:=mQ q;exact tF hs (fP hs).1.symm _
 ·rfl
theorem Gk(w:List RH)(lv n lv':Int):eX (qw w lv n).1 lv'=eX w lv':=by
 unfold qw;split
 ·rename_i s hs;exact tF (r:=JJ s) hs rfl _
 ·rfl
theorem E0(w:List RH)(lv n x lv':Int):eX (oy w lv n x).1 lv'=eX w lv':=by
 unfold oy;split
 ·rename_i s hs;split
  ·rfl
  ·exact tF (r:=⟨s.lv,s.n,FO x s.sn,s.last,s.gone⟩) hs rfl _
 ·rfl
theorem Ae(w:List RH)(lv:Int):(lM w lv).1.length=w.length+1:=by unfold lM;simp
theorem zj(w:List RH)(lv n:Int):(nO w lv n).1.length=w.length:=by unfold nO;split <;>simp
theorem Iy(w:List RH)(lv n:Int):(qw w lv n).1.length=w.length:=by unfold qw;split <;>simp
theorem J7(w:List RH)(lv n x:Int):(oy w lv n x).1.length=w.length:=by
 unfold oy;split
 ·split <;>simp
 ·rfl
def oI(w:List RH)(k:Int):Prop:=∀s,s∈w→s.last≤k
theorem oI.op{w:List RH}{k:Int}(h:oI w k)(hk:0≤k)(lv:Int):oI (lM w lv).1 (k+1):=fun a ha=>by
 unfold lM at ha;rcases Xh.1 ha with q|q
 ·have:=h a q;omega
 ·rw[Xg.1 q];show(0:Int)≤k+1;omega
theorem oI.set{w:List RH}{k:Int}(h:oI w k){i:Nat}{r:RH}(hr:r.last≤k+1):oI (w.set i r) (k+1):=fun a ha=>by
 rcases Yh ha with q|q
 ·have:=h a q;omega
 ·rw[q];exact hr
theorem oI.up{w:List RH}{k:Int}(h:oI w k):oI w (k+1):=fun a ha=>by have:=h a ha;omega
theorem oI.cl{w:List RH}{k:Int}(h:oI w k)(hk:0≤k)(lv n:Int):oI (nO w lv n).1 (k+1):=by
 unfold nO;split
 ·exact h.set (by show(0:Int)≤k+1;omega)
 ·exact h.up
theorem oI.sn{w:List RH}{k:Int}(h:oI w k)(lv n:Int):oI (qw w lv n).1 (k+1):=by
 unfold qw;split
 ·rename_i s hs;have:=h s (W7 hs);exact h.set (by unfold JJ;simp only;omega)
 ·exact h.up
theorem oI.un{w:List RH}{k:Int}(h:oI w k)(lv n x:Int):oI (oy w lv n x).1 (k+1):=by
 unfold oy;split
 ·rename_i s hs;have:=h s (W7 hs);split
  ·exact h.up
  ·exact h.set (by simp only;omega)
 ·exact h.up
structure eG where
 t:Nat
 l1:Nat
 l2:Nat
 ids:List (Nat×Nat)
def eG.bx(θ:eG):List Nat:=θ.t::θ.ids.map (·.1)
def eG.ax(θ:eG):List Nat:=θ.l1::θ.l2::θ.ids.map (·.2)
def PD(S:St)(p:Nat×Nat)(s:RH):Prop:=∃es c,lk S.box p.1=some [dI s.last,.mp p.2]∧lk S.acc p.2=some (.xo (.mp (.int .i64) es c))∧∀x,aJ es (kI x)=if x∈s.sn then some (dI 1)else none
structure TI(S:St)(θ:eG)(w:List RH):Prop where
 ok:iM w
 len:θ.ids.length=w.length
 OD:θ.bx.Nodup
 Bu:θ.ax.Nodup
 lL:∀c,c∈θ.bx→lk S.box c≠none
 vo:∀c,c∈θ.ax→lk S.acc c≠none
 tb:∃es1 c1 es2 c2,r9 S θ.t θ.l1 θ.l2 es1 c1 es2 c2∧(∀lv,aJ es1 (.int .i64 lv)=if eX w lv=0 then none else some (dI (eX w lv)))∧∀lv n,aJ es2 (oB lv n)=(θ.ids[dm w lv n]?).map fun p=>bz p.1
 aC:∀(i:Nat) s p,w[i]? =some s→s.gone=false→θ.ids[i]? =some p→PD S p s
theorem TI.mono{S S':St}{θ:eG}{w:List RH}(h:TI S θ w)(hb:∀c x,c∈θ.bx→lk S.box c=some x→lk S'.box c=some x)(ha:∀c x,c∈θ.ax→lk S.acc c=some x→lk S'.acc c=some x):TI S' θ w:=by
 obtain⟨es1,c1,es2,c2,h1,h2,h3⟩:=h.tb
 have nn:∀{α:Type} {o:Option α},o≠none→∃x,o=some x:=fun{α o} q=>by cases o with
  |none=>exact absurd rfl q
  |some x=>exact⟨x,rfl⟩
 refine⟨h.ok,h.len,h.OD,h.Bu,fun c hc=>?_,fun c hc=>?_,⟨es1,c1,es2,c2,⟨hb _ _ (Xf ..) h1.tb,ha _ _ (Xf ..) h1.m1,ha _ _ (Xc _ (Xf ..)) h1.m2⟩,h2,h3⟩,fun i s p hs hg hp=>?_⟩
 ·obtain⟨x,hx⟩:=nn (h.lL c hc);rw[hb c x hc hx];exact fun q=>by cases q
 ·obtain⟨x,hx⟩:=nn (h.vo c hc);rw[ha c x hc hx];exact fun q=>by cases q
 ·obtain⟨es,c,q1,q2,q3⟩:=h.aC i s p hs hg hp;have hm:=W7 hp;exact⟨es,c,hb _ _ (Xc _ (Xz hm)) q1,ha _ _ (Xc _ (Xc _ (Xz hm))) q2,q3⟩
theorem ai{α:Type}{L:List (Nat×α)}{b c:Nat}{x y:α}(hb:lk L b=none)(h:lk L c=some x):lk ((b,y)::L) c=some x:=by
 simp only[lk];rw[if_neg (fun e=>by rw[e,h]at hb;cases hb)];exact h
theorem D4{α:Type}{L:List (Nat×α)}{b c:Nat}{y:α}(hb:¬b=c)(h:lk L c=none):lk ((b,y)::L) c=none:=by
 simp only[lk];rw[if_neg hb];exact h
theorem TI.aP{B:List (Nat×List DV)}{A:List (Nat×Ob)}{θ:eG}{w:List RH}(h:TI ⟨B,A⟩ θ w){b:Nat}(hb:lk B b=none)(ds:List DV):TI ⟨(b,ds)::B,A⟩ θ w:=h.mono (fun c x _ hc=>ai hb hc) fun c x _ hc=>hc
structure vN(S S':St)(θ θ':eG):Prop where
 t:θ'.t=θ.t
 box:∀c x,c∉θ.bx→lk S.box c=some x→lk S'.box c=some x
 acc:∀c x,c∉θ.ax→lk S.acc c=some x→lk S'.acc c=some x
 nb:∀c,c∈θ'.bx→c∈θ.bx∨lk S.box c=none
 na:∀c,c∈θ'.ax→c∈θ.ax∨lk S.acc c=none
theorem vN.refl(S:St)(θ:eG):vN S S θ θ:=⟨rfl,fun _ _ _ h=>h,fun _ _ _ h=>h,fun _ h=> .inl h,fun _ h=> .inl h⟩
structure Dj(θ φ:eG):Prop where
 b:∀c,c∈θ.bx→c∉φ.bx
 a:∀c,c∈θ.ax→c∉φ.ax
theorem Dj.symm{θ φ:eG}(h:Dj θ φ):Dj φ θ:=⟨fun c h1 h2=>h.b c h2 h1,fun c h1 h2=>h.a c h2 h1⟩
theorem Dj.step{θ θ' φ:eG}{S S':St}{w:List RH}(h:Dj θ φ)(hf:vN S S' θ θ')(hφ:TI S φ w):Dj θ' φ:=⟨fun c h1 h2=>(hf.nb c h1).elim (fun q=>h.b c q h2) fun q=>hφ.lL c h2 q,fun c h1 h2=>(hf.na c h1).elim (fun q=>h.a c q h2) fun q=>hφ.vo c h2 q⟩
theorem TI.other{θ θ' φ:eG}{S S':St}{w:List RH}(hφ:TI S φ w)(h:Dj θ φ)(hf:vN S S' θ θ'):TI S' φ w:=hφ.mono (fun c x hc=>hf.box c x fun q=>h.b c q hc) fun c x hc=>hf.acc c x fun q=>h.a c q hc
theorem zC{lv n lv' n':Int}(h:oB lv n=oB lv' n'):lv=lv'∧n=n':=by
 unfold oB at h;simpa using h
theorem TI.get{S:St}{θ:eG}{w:List RH}(h:TI S θ w)(lv n:Int):(∃s p,w[dm w lv n]? =some s∧θ.ids[dm w lv n]? =some p∧dm w lv n<w.length)∨(w[dm w lv n]? =none∧θ.ids[dm w lv n]? =none∧¬dm w lv n<w.length):=by
 have hl:=h.len;rcases XH (dm w lv n) w.length with q|q
 ·exact .inl ⟨_,_,W5 q,W5 (by omega),q⟩
 ·exact .inr ⟨Xe q,Xe (by omega),by omega⟩
theorem Sj(w0:W0){S:St}{θ:eG}{w:List RH}(h:TI S θ w)(lv n:Int):aa Tryz.prog w0 37 [bz θ.t,yZ lv n] S (fun d S'=>d=dB (decide (dm w lv n<w.length))∧S'=S):=by
 obtain⟨es1,c1,es2,c2,h1,h2,h3⟩:=h.tb;rcases h.get lv n with⟨s,p,q1,q2,q3⟩|⟨q1,q2,q3⟩
 ·have:=Mz w0 h1 lv n (some p.1) (by rw[h3,q2];rfl);rw[decide_eq_true q3];exact this
 ·have:=Mz w0 h1 lv n none (by rw[h3,q2];rfl);rw[decide_eq_false q3];exact this
theorem Hl{S:St}{θ:eG}{w:List RH}{k:Int}(h:TI S θ w)(hk:oI w k){s:RH}(hs:s∈w):(s.sn.length:Int)≤k:=by
 have h1:∀(l:List Int) (a b:Int),l.Pairwise (·<·)→a≤b+1→(∀x,x∈l→a≤x∧x≤b)→(l.length:Int)≤b-a+1:=fun l=>by
  induction l with
  |nil=>intro a b _ h1 _;simp only[XK];omega
  |cons y l ih=>
   intro a b hp _ hx;rw[List.pairwise_cons]at hp;have hy:=hx y (Xf ..);have:=ih (y+1) b hp.2 (by omega) fun x hx'=>⟨by have:=hp.1 x hx';omega,(hx x (Xc _ hx')).2⟩;simp only[Xi];omega
 have:=h1 s.sn 1 s.last (h.ok.up s hs) (by have:=h.ok.la s hs;omega) (h.ok.LX s hs);have:=hk s hs;omega
theorem Nb(w0:W0){S:St}{θ:eG}{w:List RH}(h:TI S θ w){k:Int}(hk:oI w k)(hk2:k≤1000000)(lv n:Int):aa Tryz.prog w0 153 [bz θ.t,yZ lv n] S (fun d S'=>d=dL (Bk w lv n)∧S'=S):=by
 obtain⟨es1,c1,es2,c2,h1,h2,h3⟩:=h.tb;unfold Bk;rcases h.get lv n with⟨s,p,q1,q2,q3⟩|⟨q1,q2,q3⟩
 ·obtain⟨es,c,r1,r2,r3⟩:=h.aC _ s p q1 (fP q1).2.2 q2;have hm:=W7 q1;rw[q1];refine fi r2 fun hok=>?_
  have hle:es.length≤s.sn.length:=by
   have:es.map (·.1)⊆s.sn.map kI:=fun u hu=>by
    obtain⟨e,he,rfl⟩:=Xk.1 hu;obtain⟨a,ha⟩:=uV (hok.key e he);have:=r3 a;by_cases q:a∈s.sn
    ·rw[ha];exact Xz q
    ·rw[if_neg q]at this;exact absurd ha (eR.1 this e he)
   have:=bQ hok.nd this;simpa using this
  have:=Hl h hk hm;exact Oi w0 h1 lv n p.1 p.2 (by rw[h3,q2];rfl) s.last es c r1 r2 s.sn r3 (h.ok.up s hm) (by omega)
 ·rw[q1];exact Jt w0 h1 lv n (by rw[h3,q2];rfl)
theorem PU(w0:W0)(S:St):aa Tryz.prog w0 31 [] S (fun d S'=>∃θ,d=bz θ.t∧TI S' θ []∧(∀c x,lk S.box c=some x→lk S'.box c=some x)∧(∀c x,lk S.acc c=some x→lk S'.acc c=some x)∧(∀c,c∈θ.bx→lk S.box c=none)∧∀c,c∈θ.ax→lk S.acc c=none):=by
 refine(Tl w0 S).mono ?_;rintro d S' ⟨l1,l2,t,rfl,rfl⟩;have f1:=ak l1;have f2:=ak l2;have f3:=ak t;have hne:¬l1.n=l2.n:=fun e=>by rw[←e]at f2;simp[lk]at f2
 have hne':¬l2.n=l1.n:=fun e=>hne e.symm
 have f4:lk S.acc l2.n=none:=by
  simp only[lk]at f2;rw[if_neg hne]at f2;exact f2
 refine⟨⟨t.n,l1.n,l2.n,[]⟩,rfl,⟨iM.nil,rfl,?_,?_,?_,?_,⟨[],0,[],0,⟨?_,?_,?_⟩,fun lv=>by simp[eX,aJ],fun lv n=>by simp[aJ]⟩,fun i s p hs=>by simp at hs⟩,fun c x hc=>ai f3 hc,fun c x hc=>ai (D4 hne f4) (ai f1 hc),?_,?_⟩
 ·simp[eG.bx]
 ·simp[eG.ax,hne]
 ·intro c hc;simp[eG.bx]at hc;subst hc;simp[lk]
 ·intro c hc;simp[eG.ax]at hc;rcases hc with rfl|rfl <;>simp[lk,hne']
 ·simp[lk]
 ·simp[lk,hne']
 ·simp[lk]
 ·intro c hc;simp[eG.bx]at hc;subst hc;exact f3
 ·intro c hc;simp[eG.ax]at hc;rcases hc with rfl|rfl
  ·exact f1
  ·exact f4
end Go.Proofs.YtoepfmhnapedoaaGreatDoor
namespace Go.Proofs.YtoepfmhnapedoaaGreatDoor
open Aml Go Rn
theorem Ca(a b c:List UInt8)(h:decide (a≤b)=true)(k:decide (b≤c)=true):decide (a≤c)=true:=by
 simp only[decide_eq_true_eq]at*;exact List.le_trans h k
theorem BF(a b:List UInt8):(decide (a≤b)||decide (b≤a))=true:=by
 rw[Yq,decide_eq_true_eq,decide_eq_true_eq];exact List.le_total a b
theorem jq(l:List (List UInt8)):(kC l).Pairwise (·≤·):=
 (List.pairwise_mergeSort (le:=fun x y:List UInt8=>decide (x≤y)) Ca BF l).imp fun h=>by simpa using h
theorem CD{a b:List (List UInt8)}(h:a.Perm b):kC a=kC b:=
 (((Y9 a _).trans h).trans (Y9 b _).symm).eq_of_pairwise (fun a b _ _ h k=>List.le_antisymm h k) (jq a) (jq b)
noncomputable def cL{α:Type}(f:List UInt8→Option α):List (List UInt8):=open Classical in if h:∃V:List (List UInt8),V.Nodup∧∀k,k∈V↔f k≠none then kC h.choose else []
theorem ue{α:Type}{f:List UInt8→Option α}{V:List (List UInt8)}(hn:V.Nodup)(hm:∀k,k∈V↔f k≠none):cL f=kC V:=by
 have h:∃V:List (List UInt8),V.Nodup∧∀k,k∈V↔f k≠none:=⟨V,hn,hm⟩;unfold cL;rw[dif_pos h];exact CD ((List.perm_ext_iff_of_nodup h.choose_spec.1 hn).2 fun k=>(h.choose_spec.2 k).trans (hm k).symm)
theorem JG{es:List (Value×DV×Nat)}{e:Value×DV×Nat}(h:(es.map (·.1)).Nodup)(he:e∈es):aJ es e.1=some e.2.1:=by
 obtain⟨j,hj⟩:=XI.1 he;exact zF h hj
theorem td{α:Type}{f:List UInt8→Option α}{d:α→DV}{es:List (Value×DV×Nat)}{V:List (List UInt8)}(hV:gR es V)(h:∀k,aJ es (kT k)=(f k).map d)(k:List UInt8):k∈V↔f k≠none:=by
 constructor
 ·intro hk hf;obtain⟨e,he,e1⟩:=hV.1.2 k hk;have h1:=h k;rw[hf]at h1;exact eR.1 h1 e he e1
 ·intro hf;obtain⟨x,hx⟩:=XD.1 hf;have h1:=h k;rw[hx]at h1;obtain⟨b,hm⟩:=mo h1;obtain⟨v,hv,e⟩:=hV.2 _ hm;rw[ep e];exact hv
theorem NW{α:Type}{f:List UInt8→Option α}{d:α→DV}{es:List (Value×DV×Nat)}{V:List (List UInt8)}(hV:gR es V)(h:∀k,aJ es (kT k)=(f k).map d):kC V=cL f:=(ue hV.1.1 (td hV h)).symm
def IM(S:St)(l N:Nat)(f:List UInt8→Option (List UInt8)):Prop:=∃es c,lk S.acc l=some (.xo (.mp .str es c))∧es.length≤N∧∀k,aJ es (kT k)=(f k).map eY
structure BM(S:St)(l N:Nat)(ids:List UInt8→Option Nat)(F:List UInt8→Option (List UInt8→Option (List UInt8))):Prop where
 top:∃es c,lk S.acc l=some (.xo (.mp .str es c))∧es.length≤N∧∀n,aJ es (kT n)=(ids n).map DV.mp
 some_:∀n,ids n=none↔F n=none
 low:∀n i f,ids n=some i→F n=some f→IM S i N f
 inj:∀n m i,ids n=some i→ids m=some i→n=m
 ne:∀n i,ids n=some i→i≠l
theorem IM.mono{S S':St}{l N:Nat}{f:List UInt8→Option (List UInt8)}(h:IM S l N f)(ha:∀x,lk S.acc l=some x→lk S'.acc l=some x):IM S' l N f:=by
 obtain⟨es,c,h1,h2,h3⟩:=h;exact⟨es,c,ha _ h1,h2,h3⟩
theorem BM.mono{S S':St}{l N:Nat}{ids:List UInt8→Option Nat}{F:List UInt8→Option (List UInt8→Option (List UInt8))}(h:BM S l N ids F)(ha:∀c x,c=l∨(∃n,ids n=some c)→lk S.acc c=some x→lk S'.acc c=some x):BM S' l N ids F:=by
 obtain⟨es,c,h1,h2,h3⟩:=h.top;exact⟨⟨es,c,ha _ _ (.inl rfl) h1,h2,h3⟩,h.some_,fun n i f q1 q2=>(h.low n i f q1 q2).mono fun x=>ha i x (.inr ⟨n,q1⟩),h.inj,h.ne⟩
theorem IM.lk{S:St}{l N:Nat}{f:List UInt8→Option (List UInt8)}(h:IM S l N f):lk S.acc l≠none:=by
 obtain⟨es,c,h1,_⟩:=h;rw[h1];simp
theorem BM.lk{S:St}{l N:Nat}{ids:List UInt8→Option Nat}{F:List UInt8→Option (List UInt8→Option (List UInt8))}(h:BM S l N ids F):lk S.acc l≠none:=by
 obtain⟨es,c,h1,_⟩:=h.top;rw[h1];simp
theorem Ev(w0:W0){S:St}{b m N:Nat}{f:List UInt8→Option (List UInt8)}(hb:Aml.lk S.box b=some [.mp m])(h:IM S m N f)(hN:N≤1048576):
 aa Tryz.prog w0 52 [.v (.func (.func 100) #[] #[.pointer (some ⟨b,0,none⟩)])] S (fun d S'=>∃r:FN S.acc,d= .acc r.n (cL f).length∧(cL f).length≤N∧S'=⟨S.box,(r.n,.arr 1 ((cL f).map eY))::S.acc⟩):=by
 obtain⟨es,c,h1,h2,h3⟩:=h;refine fi h1 fun hok=>(AP w0 hb h1 hok (by omega)).mono ?_;rintro d S' ⟨V,r,hV,rfl,rfl⟩;have e:=NW hV h3;have el:(cL f).length=V.length:=by rw[←e,jS]
 have hl:=jo hV;exact⟨r,by rw[el],by omega,by rw[e]⟩
theorem MU(w0:W0){S:St}{b m N:Nat}{ids:List UInt8→Option Nat}{F:List UInt8→Option (List UInt8→Option (List UInt8))}(hb:Aml.lk S.box b=some [.mp m])(h:BM S m N ids F)(hN:N≤1048576):
 aa Tryz.prog w0 52 [.v (.func (.func 99) #[] #[.pointer (some ⟨b,0,none⟩)])] S (fun d S'=>∃r:FN S.acc,d= .acc r.n (cL F).length∧(cL F).length≤N∧S'=⟨S.box,(r.n,.arr 1 ((cL F).map eY))::S.acc⟩):=by
 obtain⟨es,c,h1,h2,h3⟩:=h.top;refine fi h1 fun hok=>(AE w0 hb h1 hok (by omega)).mono ?_;rintro d S' ⟨V,r,hV,rfl,rfl⟩;have e:kC V=cL F:=(ue hV.1.1 fun k=>(td hV h3 k).trans (not_congr (h.some_ k))).symm;have el:(cL F).length=V.length:=by rw[←e,jS]
 have hl:=jo hV;exact⟨r,by rw[el],by omega,by rw[e]⟩
theorem JS{pre:List (List UInt8)}{a:List UInt8}(h:pre.Nodup)(ha:a∉pre):(pre++[a]).Nodup:=by
 rw[Ym];exact⟨h,by simp,fun x hx y hy=>by rw[Xg.1 hy];rintro rfl;exact ha hx⟩
structure Ud where
 T:St
 pre:List (List UInt8)
 seen:List Nat
 ids:List UInt8→Option Nat
 es:List (Value×DV×Nat)
 c:Nat
structure VC(S:St)(l N c lo li:Nat)(es:List (Value×DV×Nat))(F:List UInt8→Option (List UInt8→Option (List UInt8)))(s:Ud):Prop where
 box:s.T.box=S.box
 acc:∀i x,lk S.acc i=some x→lk s.T.acc i=some x
 it:lk s.T.acc li=some (.xo (.it l c s.seen c))
 out:lk s.T.acc lo=some (.xo (.mp .str s.es s.c))
 len:s.es.length≤s.pre.length
 ok:qI es s.pre
 Rs:∀e,e∈es→(e.2.2∈s.seen↔∃v,v∈s.pre∧e.1=kT v)
 get:∀n,aJ s.es (kT n)=(s.ids n).map DV.mp
 Uc:∀n,s.ids n≠none↔n∈s.pre
 low:∀n i,s.ids n=some i→lk S.acc i=none∧i≠lo∧i≠li∧∀f,F n=some f→IM s.T i N f
 inj:∀n m i,s.ids n=some i→s.ids m=some i→n=m
 lx:∀n i,s.ids n=some i→lk s.T.acc i≠none
theorem pk(es:List (Value×DV×Nat))(clk:Nat)(k:Value)(d:DV):(cX es clk k d).length≤es.length+1:=by
 unfold cX;split <;>simp
theorem De(w0:W0){S:St}{l N:Nat}{ids:List UInt8→Option Nat}{F:List UInt8→Option (List UInt8→Option (List UInt8))}(h:BM S l N ids F)(hN:N≤1048576):
 aa Tryz.prog w0 120 [.mp l] S (fun d S'=>∃l' ids',d= .mp l'∧BM S' l' N ids' F∧S'.box=S.box∧(∀c x,lk S.acc c=some x→lk S'.acc c=some x)∧lk S.acc l'=none∧∀n i,ids' n=some i→lk S.acc i=none):=by
 obtain⟨es,c,h1,h2,h3⟩:=h.top;refine fi h1 fun hok=>?_;refine kj [] mx Tryz.func120 rfl rfl (by kernel_rfl) ?_;simp(maxDischargeDepth:=12) (maxSteps:=1000000) -implicitDefEqProofs only[Tryz.ntmps120,go_sem,Nat.reduceAdd,Nat.reduceSub,Nat.reduceMul,Nat.reduceLeDiff,Nat.reduceEqDiff,Nat.reduceGT,Nat.reduceBEq,reduceCtorEq,↓reduceIte,Int.reduceToNat,Int.reduceLE,Int.reduceLT,Int.reduceNe,Int.reduceEq,h1];intro lo li;have hlo:lk S.acc lo.n=none:=ak lo;have hli0:=ak li
 have hlne:¬li.n=lo.n:=fun e=>by
  rw[e]at hli0;simp[lk]at hli0
 have hli:lk S.acc li.n=none:=by
  simp only[lk]at hli0;rw[if_neg (fun e=>hlne e.symm)]at hli0;exact hli0
 refine fc [] [3,8] (σ:=Ud) (fun s=>[]) (fun s=>s.T) (VC S l N c lo.n li.n es F) (fun s=>es.length-s.pre.length) ⟨⟨S.box,(li.n,.xo (.it l c [] c))::(lo.n,.xo (.mp .str [] 0))::S.acc⟩,[],[],fun _=>none,[],0⟩ mx (by kernel_rfl) ⟨?_,?_⟩ ?_
 ·refine⟨rfl,fun i x hx=>?_,by simp[lk],?_,Xa _,⟨Zm,fun v hv=>by cases hv⟩,fun e _=>⟨fun h=>(by cases h),fun⟨v,hv,_⟩=>(by cases hv)⟩,fun n=>by simp[aJ],fun n=>by simp,fun n i hi=>(by cases hi),fun n m i hi=>(by cases hi),fun n i hi=>(by cases hi)⟩
  ·show lk ((li.n,_)::(lo.n,_)::S.acc) i=_;simp only[lk];rw[if_neg (fun e=>by rw[e,hx]at hli;cases hli),if_neg (fun e=>by rw[e,hx]at hlo;cases hlo)];exact hx
  ·show lk ((li.n,_)::(lo.n,_)::S.acc) lo.n=_;simp only[lk];rw[if_neg hlne];simp
 ·simp(maxDischargeDepth:=12) (maxSteps:=1000000) -implicitDefEqProofs only[go_sem,Nat.reduceAdd,Nat.reduceSub,Nat.reduceMul,Nat.reduceLeDiff,Nat.reduceEqDiff,Nat.reduceGT,Nat.reduceBEq,reduceCtorEq,↓reduceIte,Int.reduceToNat,Int.reduceLE,Int.reduceLT,Int.reduceNe,Int.reduceEq]
 ·intro s hs;have t1:=hs.acc l _ h1;have hit:=hs.it;have hout:=hs.out;simp(maxDischargeDepth:=12) (maxSteps:=1000000) -implicitDefEqProofs only[go_sem,Nat.reduceAdd,Nat.reduceSub,Nat.reduceMul,Nat.reduceLeDiff,Nat.reduceEqDiff,Nat.reduceGT,Nat.reduceBEq,reduceCtorEq,↓reduceIte,Int.reduceToNat,Int.reduceLE,Int.reduceLT,Int.reduceNe,Int.reduceEq,t1,hit,hout];refine⟨fun hall=>?_,fun e he hns=>?_⟩
  ·have hV:gR es s.pre:=⟨hs.ok,fun e he=>(hs.Rs e he).1 (hall e he)⟩;have hl1:=jo hV;have hl2:=hs.len;refine⟨lo.n,s.ids,rfl,⟨⟨s.es,s.c,hs.out,by omega,hs.get⟩,fun n=>?_,fun n i f q1 q2=>(hs.low n i q1).2.2.2 f q2,hs.inj,fun n i q=>(hs.low n i q).2.1⟩,hs.box,hs.acc,hlo,fun n i hi=>(hs.low n i hi).1⟩;rw[←h.some_ n];have q1:=hs.Uc n;have q2:=td hV h3 n;exact Decidable.not_iff_not.1 (q1.trans q2)
  ·obtain⟨a,ha⟩:=pH (hok.key e he);have hget:aJ es (kT a)=some e.2.1:=by rw[←ha];exact JG hok.nd he
   rw[h3]at hget;obtain⟨i,hi,hei⟩:=Xb.1 hget;obtain⟨f,hf⟩:=XD.1 (fun q=>by rw[(h.some_ a).2 q]at hi;cases hi);obtain⟨esi,ci,g1,g2,g3⟩:=h.low a i f hi hf;have hil:¬li.n=i:=fun q=>by rw[←q,hli]at g1;cases g1
   have hol:¬lo.n=i:=fun q=>by rw[←q,hlo]at g1;cases g1
   have hlm:¬li.n=l:=fun q=>by rw[←q,hli]at h1;cases h1
   rw[ab hlm,t1];simp(maxDischargeDepth:=12) (maxSteps:=1000000) -implicitDefEqProofs only[go_sem,Nat.reduceAdd,Nat.reduceSub,Nat.reduceMul,Nat.reduceLeDiff,Nat.reduceEqDiff,Nat.reduceGT,Nat.reduceBEq,reduceCtorEq,↓reduceIte,Int.reduceToNat,Int.reduceLE,Int.reduceLT,Int.reduceNe,Int.reduceEq];refine⟨e,he,⟨s.seen,rfl⟩,?_⟩;rw[←hei,ha];unfold kT;have hc1:lk (up s.T.acc li.n (.xo (.it l c (s.seen++[e.2.2]) c))) i=some (.xo (.mp .str esi ci)):=by rw[ab hil];exact hs.acc _ _ g1
   simp(maxDischargeDepth:=12) (maxSteps:=1000000) -implicitDefEqProofs only[go_sem,Nat.reduceAdd,Nat.reduceSub,Nat.reduceMul,Nat.reduceLeDiff,Nat.reduceEqDiff,Nat.reduceGT,Nat.reduceBEq,reduceCtorEq,↓reduceIte,Int.reduceToNat,Int.reduceLE,Int.reduceLT,Int.reduceNe,Int.reduceEq];refine an (Ov w0 (l:=i) (kk:= .str) (es:=esi) (c:=ci) hc1) ?_;rintro _ _ ⟨nn,rfl,rfl⟩;have hnn:=ak nn;have hc2:lk (up s.T.acc li.n (.xo (.it l c (s.seen++[e.2.2]) c))) lo.n=some (.xo (.mp .str s.es s.c)):=by rw[ab hlne];exact hs.out
   have hnlo:¬nn.n=lo.n:=fun q=>by rw[q,hc2]at hnn;cases hnn
   simp(maxDischargeDepth:=12) (maxSteps:=1000000) -implicitDefEqProofs only[go_sem,Nat.reduceAdd,Nat.reduceSub,Nat.reduceMul,Nat.reduceLeDiff,Nat.reduceEqDiff,Nat.reduceGT,Nat.reduceBEq,reduceCtorEq,↓reduceIte,Int.reduceToNat,Int.reduceLE,Int.reduceLT,Int.reduceNe,Int.reduceEq,hnlo,hc2];have hli1:lk (up s.T.acc li.n (.xo (.it l c (s.seen++[e.2.2]) c))) li.n=some (.xo (.it l c (s.seen++[e.2.2]) c)):=by rw[aE,hit];rfl
   generalize hA1:up s.T.acc li.n (.xo (.it l c (s.seen++[e.2.2]) c))=A1 at*;have hnli:¬nn.n=li.n:=fun q=>by rw[q,hli1]at hnn;cases hnn
   have hA:∀j,¬j=li.n→lk A1 j=lk s.T.acc j:=fun j hj=>by rw[←hA1,ab (fun q=>hj q.symm)]
   generalize hnv:XO.mp KK.str (cX s.es s.c (Value.string (tx a)) (DV.mp nn.n)) (eV s.es s.c (Value.string (tx a)))=nv
   have hT:∀j,¬nn.n=j→¬lo.n=j→lk ((nn.n,Ob.xo (.mp .str esi ci))::up A1 lo.n (.xo nv)) j=lk A1 j:=fun j q1 q2=>by
    simp only[lk];rw[if_neg q1,ab q2]
   have hT0:lk ((nn.n,Ob.xo (.mp .str esi ci))::up A1 lo.n (.xo nv)) nn.n=some (.xo (.mp .str esi ci)):=by simp[lk]
   have hK:∀j x,¬j=li.n→¬lo.n=j→lk s.T.acc j=some x→lk ((nn.n,Ob.xo (.mp .str esi ci))::up A1 lo.n (.xo nv)) j=some x:=fun j x q1 q2 q3=>by
    rw[←hA j q1]at q3;rw[hT j (fun q=>by rw[←q]at q3;rw[show lk A1 nn.n=none from hnn]at q3;cases q3) q2,q3]
   have hnT:lk s.T.acc nn.n=none:=by rw[←hA _ hnli];exact hnn
   have hnew:a∉s.pre:=fun q=>hns ((hs.Rs e he).2 ⟨a,q,ha⟩)
   have hOk':qI es (s.pre++[a]):=⟨JS hs.ok.1 hnew,fun v hv=>by
    rcases Xh.1 hv with q|q
    ·exact hs.ok.2 v q
    ·rw[Xg.1 q];exact⟨e,he,ha⟩⟩
   refine⟨⟨⟨s.T.box,(nn.n,.xo (.mp .str esi ci))::up A1 lo.n (.xo nv)⟩,s.pre++[a],s.seen++[e.2.2],fun n=>if n=a then some nn.n else s.ids n,cX s.es s.c (kT a) (.mp nn.n),eV s.es s.c (kT a)⟩,⟨hs.box,fun j x hj=>?_,?_,?_,?_,hOk',fun e' he'=>?_,fun n=>?_,fun n=>?_,fun n j hj=>?_,fun n m j hn hm=>?_,fun n j hj=>?_⟩,?_,.refl _⟩
   ·exact hK j x (fun q=>by rw[q,hli]at hj;cases hj) (fun q=>by rw[←q,hlo]at hj;cases hj) (hs.acc j x hj)
   ·show lk (_::_) li.n=_;rw[hT li.n hnli (fun q=>hlne q.symm)];exact hli1
   ·show lk (_::_) lo.n=_;simp only[lk];rw[if_neg hnlo,aE,hc2,←hnv];rfl
   ·have q1:=pk s.es s.c (kT a) (.mp nn.n);have q2:=hs.len;simp only[Xj,YY];omega
   ·constructor
    ·intro q;rcases Xh.1 q with q|q
     ·obtain⟨v,r1,r2⟩:=(hs.Rs e' he').1 q;exact⟨v,XS _ r1,r2⟩
     ·have:e'=e:=eB hok.bn he' he (Xg.1 q);rw[this];exact⟨a,by simp,ha⟩
    ·rintro⟨v,r1,r2⟩;rcases Xh.1 r1 with q|q
     ·exact XS _ ((hs.Rs e' he').2 ⟨v,q,r2⟩)
     ·have:e'=e:=eB hok.nd he' he (by rw[r2,ha,Xg.1 q]);rw[this];simp
   ·show aJ (cX s.es s.c (kT a) (.mp nn.n)) (kT n)=(if n=a then some nn.n else s.ids n).map DV.mp;by_cases q:n=a
    ·rw[if_pos q,q,aY];rfl
    ·rw[if_neg q,bX _ _ (fun r=>q (ep r)),hs.get]
   ·show(if n=a then some nn.n else s.ids n)≠none↔n∈s.pre++[a];by_cases q:n=a
    ·rw[if_pos q];simp[q]
    ·rw[if_neg q,hs.Uc n];simp[q]
   ·have hj:(if n=a then some nn.n else s.ids n)=some j:=hj;by_cases q:n=a
    ·rw[if_pos q]at hj;cases hj;refine⟨?_,hnlo,hnli,fun f' hf'=>?_⟩
     ·cases hx:lk S.acc nn.n with
      |none=>rfl
      |some x=>rw[hs.acc _ _ hx]at hnT;cases hnT
     ·rw[q,hf]at hf';cases hf';exact⟨esi,ci,hT0,g2,g3⟩
    ·rw[if_neg q]at hj;obtain⟨r1,r2,r3,r4⟩:=hs.low n j hj;exact⟨r1,r2,r3,fun f' hf'=>(r4 f' hf').mono fun x hx=>hK j x r3 (fun q=>r2 q.symm) hx⟩
   ·have hn:(if n=a then some nn.n else s.ids n)=some j:=hn;have hm:(if m=a then some nn.n else s.ids m)=some j:=hm;by_cases q:n=a
    ·rw[if_pos q]at hn;by_cases r:m=a
     ·rw[q,r]
     ·rw[if_neg r]at hm;cases hn;exact absurd hnT (hs.lx m _ hm)
    ·rw[if_neg q]at hn;by_cases r:m=a
     ·rw[if_pos r]at hm;cases hm;exact absurd hnT (hs.lx n _ hn)
     ·rw[if_neg r]at hm;exact hs.inj n m j hn hm
   ·have hj:(if n=a then some nn.n else s.ids n)=some j:=hj;by_cases q:n=a
    ·rw[if_pos q]at hj;cases hj;show lk (_::_) nn.n≠none;rw[hT0];simp
    ·rw[if_neg q]at hj;obtain⟨x,hx⟩:=XD.1 (hs.lx n j hj);obtain⟨r1,r2,r3,r4⟩:=hs.low n j hj;show lk (_::_) j≠none;rw[hK j x r3 (fun q=>r2 q.symm) hx];simp
   ·have hlen:(s.pre++[a]).length≤es.length:=by
     have q1:((s.pre++[a]).map kT).Nodup:=aM (fun x y h=>ep h) hOk'.1
     have q2:((s.pre++[a]).map kT)⊆es.map (·.1):=fun u hu=>by
      obtain⟨v,hv,rfl⟩:=Xk.1 hu;obtain⟨e',he',h3⟩:=hOk'.2 v hv;exact Xk.2 ⟨e',he',h3⟩
     have:=bQ q1 q2;simpa using this
    show es.length-(s.pre++[a]).length<es.length-s.pre.length;rw[Xj,YY]at hlen ⊢;omega
end Go.Proofs.YtoepfmhnapedoaaGreatDoor
namespace Go.Proofs.YtoepfmhnapedoaaGreatDoor
open Aml Go
theorem Pq{θ:eG}(h:θ.bx.Nodup){p:Nat×Nat}(hp:p∈θ.ids):¬p.1=θ.t:=fun e=>by
 unfold eG.bx at h;rw[Xo]at h;exact h.1 (e▸Xz hp)
theorem EI{θ:eG}(h:θ.ax.Nodup){p:Nat×Nat}(hp:p∈θ.ids):¬p.2=θ.l1:=fun e=>by
 unfold eG.ax at h;rw[Xo]at h;exact h.1 (e▸Xc _ (Xz hp))
theorem y8{θ:eG}(h:θ.ax.Nodup){p:Nat×Nat}(hp:p∈θ.ids):¬p.2=θ.l2:=fun e=>by
 unfold eG.ax at h;rw[Xo,Xo]at h;exact h.2.1 (e▸Xz hp)
theorem tv{θ:eG}(h:θ.ax.Nodup):¬θ.l1=θ.l2:=fun e=>by
 unfold eG.ax at h;rw[Xo]at h;exact h.1 (e▸Xf ..)
theorem G9{α β:Type}{f:α→β}{l:List α}(h:(l.map f).Nodup){i j:Nat}{p q:α}(hi:l[i]? =some p)(hj:l[j]? =some q)(e:f p=f q):i=j:=by
 have h1:(l.map f)[i]? =some (f p):=by rw[Xd,hi];rfl
 have h2:(l.map f)[j]? =some (f p):=by rw[Xd,hj,e];rfl
 obtain⟨a1,b1⟩:=W6.1 h1;obtain⟨a2,b2⟩:=W6.1 h2;exact(List.getElem_inj h).1 (b1.trans b2.symm)
theorem eO{α:Type}{L:List (Nat×α)}{b c:Nat}{v:α}(h:¬lk L c=none):¬lk (up L b v) c=none:=fun e=>h (mg e)
theorem Pc(w0:W0){S:St}{θ:eG}{w:List RH}(h:TI S θ w)(hk:w.length≤1000000)(lv:Int):aa Tryz.prog w0 35 [bz θ.t,dI lv] S (fun d S'=>d=dI (lM w lv).2∧∃θ',TI S' θ' (lM w lv).1∧vN S S' θ θ'):=by
 obtain⟨es1,c1,es2,c2,h1,h2,h3⟩:=h.tb;have hne:=tv h.Bu;have hcl:=On w lv;refine(QB w0 h1 hne lv (eX w lv) (by omega) (h2 lv)).mono ?_;rintro d S' ⟨b,m,fb,fm,rfl,rfl⟩;have bt:¬b=θ.t:=fun e=>h.lL _ (Xf ..) (e▸fb);have ml1:¬m=θ.l1:=fun e=>h.vo _ (Xf ..) (e▸fm);have ml2:¬m=θ.l2:=fun e=>h.vo _ (Xc _ (Xf ..)) (e▸fm)
 have fr:vN S ⟨(b,[dI 0,.mp m])::S.box,(m,.xo (.mp (.int .i64) [] 0))::up (up S.acc θ.l1 (.xo (.mp (.int .i64) (cX es1 c1 (.int .i64 lv) (dI ((eX w lv:Int)+1))) (eV es1 c1 (.int .i64 lv))))) θ.l2 (.xo (.mp (.st [.i64,.i64]) (cX es2 c2 (oB lv ((eX w lv:Int)+1)) (bz b)) (eV es2 c2 (oB lv ((eX w lv:Int)+1)))))⟩ θ ⟨θ.t,θ.l1,θ.l2,θ.ids++[(b,m)]⟩:=by
  refine⟨rfl,fun c x _ hc=>ai fb hc,fun c x hn hc=>?_,fun c hc=>?_,fun c hc=>?_⟩
  ·unfold eG.ax at hn;rw[Xm,Xm,not_or,not_or]at hn;refine ai ?_ ?_
   ·rw[ab (fun e=>ml2 e.symm),ab (fun e=>ml1 e.symm)];exact fm
   ·rw[ab (fun e=>hn.2.1 e.symm),ab (fun e=>hn.1 e.symm)];exact hc
  ·unfold eG.bx at hc ⊢;rw[Xm]at hc ⊢;rcases hc with q|q
   ·exact .inl (.inl q)
   ·rw[Xw,Xh]at q;rcases q with q|q
    ·exact .inl (.inr q)
    ·rw[YR,Xg]at q;exact .inr (q▸fb)
  ·unfold eG.ax at hc ⊢;rw[Xm,Xm]at hc ⊢;rcases hc with q|q|q
   ·exact .inl (.inl q)
   ·exact .inl (.inr (.inl q))
   ·rw[Xw,Xh]at q;rcases q with q|q
    ·exact .inl (.inr (.inr q))
    ·rw[YR,Xg]at q;exact .inr (q▸fm)
 refine⟨rfl,⟨θ.t,θ.l1,θ.l2,θ.ids++[(b,m)]⟩,?_,fr⟩
 have fm':∀v v',lk (up (up S.acc θ.l1 v) θ.l2 v') m=none:=fun v v'=>by
  rw[ab (fun e=>ml2 e.symm),ab (fun e=>ml1 e.symm)];exact fm
 refine⟨h.ok.op lv,by rw[Ae,Xj,h.len];rfl,?_,?_,?_,?_,⟨cX es1 c1 (.int .i64 lv) (dI ((eX w lv:Int)+1)),eV es1 c1 (.int .i64 lv),cX es2 c2 (oB lv ((eX w lv:Int)+1)) (bz b),eV es2 c2 (oB lv ((eX w lv:Int)+1)),⟨ai fb h1.tb,ai (fm' _ _) ?_,ai (fm' _ _) ?_⟩,fun lv'=>?_,fun lv' n'=>?_⟩,fun i s p hs hg hp=>?_⟩
 ·have h4:=h.OD;unfold eG.bx at h4 ⊢;rw[Xw];rw[←Yc,Ym];refine⟨h4,by simp,fun a ha y hy=>?_⟩;rw[YR,Xg]at hy;rintro rfl;exact h.lL a ha (hy▸fb)
 ·have h4:=h.Bu;unfold eG.ax at h4 ⊢;rw[Xw];rw[←Yc,←Yc,Ym];refine⟨h4,by simp,fun a ha y hy=>?_⟩;rw[YR,Xg]at hy;rintro rfl;exact h.vo a ha (hy▸fm)
 ·intro c hc;show lk ((b,_)::S.box) c≠none;simp only[lk];split
  ·exact fun e=>by cases e
  ·rename_i q;rcases fr.nb c hc with q2|q2
   ·exact h.lL c q2
   ·exfalso
    unfold eG.bx at hc;rw[Xm,Xw,Xh,YR,Xg]at hc;rcases hc with q3|q3|q3
    ·exact h.lL c (q3▸Xf ..) q2
    ·exact h.lL c (Xc _ q3) q2
    ·exact q q3.symm
 ·intro c hc;show lk ((m,_)::up (up S.acc _ _) _ _) c≠none;simp only[lk];split
  ·exact fun e=>by cases e
  ·rename_i q;refine eO (eO ?_);rcases fr.na c hc with q2|q2
   ·exact h.vo c q2
   ·exfalso
    unfold eG.ax at hc;rw[Xm,Xm,Xw,Xh,YR,Xg]at hc;rcases hc with q3|q3|q3|q3
    ·exact h.vo c (q3▸Xf ..) q2
    ·exact h.vo c (q3▸Xc _ (Xf ..)) q2
    ·exact h.vo c (Xc _ (Xc _ q3)) q2
    ·exact q q3.symm
 ·rw[ab (fun e=>hne e.symm),aE,h1.m1];rfl
 ·rw[aE,ab hne,h1.m2];rfl
 ·rw[Al];by_cases q:lv=lv'
  ·subst q;rw[aY,if_pos rfl,if_neg (by omega)];rfl
  ·rw[bX _ _ (k:= .int .i64 lv) (k':= .int .i64 lv') (fun e=>q (by cases e;rfl)),if_neg q,h2];rfl
 ·show _=((θ.ids++[(b,m)])[dm (lM w lv).1 lv' n']?).map fun p=>bz p.1;rw[Lf h.ok];by_cases q:lv'=lv∧n'=(eX w lv:Int)+1
  ·obtain⟨rfl,rfl⟩:=q;rw[aY,if_neg (by rw[Fe h.ok];omega),if_pos ⟨rfl,rfl⟩,←h.len,Xv (Xa _),Zn];rfl
  ·rw[bX _ _ (fun e=>q (zC e)),h3,if_neg q];have:=h.len;split
   ·rw[Xx (by omega)]
   ·rw[Xe (by omega),Xe (by rw[Xj];simp;omega)]
 ·have hl:=h.len;unfold lM at hs;rcases XH i w.length with q|q
  ·rw[Xx q]at hs
   have hp':θ.ids[i]? =some p:=by
    have:(θ.ids++[(b,m)])[i]? =some p:=hp
    rwa [Xx (by omega)]at this
   obtain⟨es,c,q1,q2,q3⟩:=h.aC i s p hs hg hp';have hm:=W7 hp';exact⟨es,c,ai fb q1,ai (fm' _ _) (by rw[ab (fun e=>y8 h.Bu hm e.symm),ab (fun e=>EI h.Bu hm e.symm)];exact q2),q3⟩
  ·have hi:i=w.length:=by
    have:=(W6.1 hs).1;simp at this;omega
   subst hi;rw[Xv (Xa _),Zn]at hs;cases hs;have hp':(θ.ids++[(b,m)])[w.length]? =some p:=hp;rw[←hl,Xv (Xa _),Zn]at hp';cases hp';exact⟨[],0,by simp[lk],by simp[lk],fun x=>by simp[aJ]⟩
theorem E4(w0:W0){S:St}{θ:eG}{w:List RH}(h:TI S θ w)(lv n:Int):aa Tryz.prog w0 119 [bz θ.t,yZ lv n] S (fun d S'=>d=dB (nO w lv n).2∧TI S' θ (nO w lv n).1∧vN S S' θ θ):=by
 obtain⟨es1,c1,es2,c2,h1,h2,h3⟩:=h.tb;have hne:=tv h.Bu;have hcn:=z8 w lv n;have hok:=h.ok.cl lv n;have hle:=zj w lv n;rcases h.get lv n with⟨s,p,q1,q2,q3⟩|⟨q1,q2,q3⟩
 ·refine(zE w0 h1 lv n (some p.1) (by rw[h3,q2];rfl)).mono ?_;rintro d S' ⟨rfl,rfl⟩;have hix:=KD h.ok q3;have e2:(nO w lv n).2=true:=by unfold nO;rw[if_pos q3]
  have e1:(nO w lv n).1=w.set (dm w lv n) ⟨lv,n,[],0,true⟩:=by unfold nO;rw[if_pos q3]
  rw[e2];refine⟨rfl,?_,rfl,fun c x _ hc=>hc,fun c x hn hc=>?_,fun _ hc=> .inl hc,fun _ hc=> .inl hc⟩
  ·refine⟨hok,by rw[hle];exact h.len,h.OD,h.Bu,h.lL,fun c hc=>eO (h.vo c hc),⟨es1,c1,ig es2 (oB lv n),c2,⟨h1.tb,?_,?_⟩,fun lv'=>?_,fun lv' n'=>?_⟩,fun i a b ha hg hb=>?_⟩
   ·show lk (up S.acc _ _) θ.l1=_;rw[ab (fun e=>hne e.symm)];exact h1.m1
   ·show lk (up S.acc _ _) θ.l2=_;rw[aE,h1.m2];rfl
   ·rw[hcn];exact h2 lv'
   ·rw[hix];by_cases q:lv'=lv∧n'=n
    ·rw[if_pos q,q.1,q.2,dh,Xe (by have:=h.len;omega)];rfl
    ·rw[if_neg q,dw _ (fun e=>q (zC e))];exact h3 lv' n'
   ·rw[e1]at ha;by_cases q:dm w lv n=i
    ·rw[←q,X7 q3]at ha;cases ha;cases hg
    ·rw[X8 q]at ha;obtain⟨es,c,r1,r2,r3⟩:=h.aC i a b ha hg hb
     exact⟨es,c,r1,by
      show lk (up S.acc _ _) b.2=_;rw[ab (fun e=>y8 h.Bu (W7 hb) e.symm)];exact r2,r3⟩
  ·unfold eG.ax at hn;rw[Xm,Xm,not_or,not_or]at hn;show lk (up S.acc _ _) c=_;rw[ab (fun e=>hn.2.1 e.symm)];exact hc
 ·refine(zE w0 h1 lv n none (by rw[h3,q2];rfl)).mono ?_;rintro d S' ⟨rfl,rfl⟩;have e:nO w lv n=(w,false):=by unfold nO;rw[if_neg q3]
  rw[e];exact⟨rfl,h,vN.refl _ _⟩
theorem TI.put{S S':St}{θ:eG}{w:List RH}(h:TI S θ w){i:Nat}{s r:RH}{p:Nat×Nat}(hs:w[i]? =some s)(hp:θ.ids[i]? =some p)(hok:iM (w.set i r))(e1:r.lv=s.lv)(e2:r.n=s.n)(e3:r.gone=s.gone)
 (hb:∀c,c≠p.1→lk S'.box c=lk S.box c) (ha:∀c,c≠p.2→lk S'.acc c=lk S.acc c) (hr:PD S' p r):TI S' θ (w.set i r)∧vN S S' θ θ:=by
 obtain⟨es1,c1,es2,c2,h1,h2,h3⟩:=h.tb;have hm:=W7 hp;have nt:=Pq h.OD hm;have n1:=EI h.Bu hm;have n2:=y8 h.Bu hm;obtain⟨es,c,r1,r2,r3⟩:=hr;refine⟨⟨hok,by rw[List.length_set];exact h.len,h.OD,h.Bu,fun c hc=>?_,fun c hc=>?_,⟨es1,c1,es2,c2,⟨?_,?_,?_⟩,fun lv'=>?_,fun lv' n'=>?_⟩,fun j a b hja hg hjb=>?_⟩,rfl,fun c x hn hc=>?_,fun c x hn hc=>?_,fun _ hc=> .inl hc,fun _ hc=> .inl hc⟩
 ·by_cases q:c=p.1
  ·rw[q,r1];exact fun e=>by cases e
  ·rw[hb c q];exact h.lL c hc
 ·by_cases q:c=p.2
  ·rw[q,r2];exact fun e=>by cases e
  ·rw[ha c q];exact h.vo c hc
 ·rw[hb _ (fun e=>nt e.symm)];exact h1.tb
 ·rw[ha _ (fun e=>n1 e.symm)];exact h1.m1
 ·rw[ha _ (fun e=>n2 e.symm)];exact h1.m2
 ·rw[tF hs e1];exact h2 lv'
 ·rw[zl hs e1 e2 e3];exact h3 lv' n'
 ·by_cases q:i=j
  ·subst q;rw[X7 (W6.1 hs).1]at hja;cases hja;rw[hp]at hjb;cases hjb;exact⟨es,c,r1,r2,r3⟩
  ·rw[X8 q]at hja;obtain⟨es',c',q1,q2,q3⟩:=h.aC j a b hja hg hjb;have hndb:(θ.ids.map (·.1)).Nodup:=(Xo.1 h.OD).2;have hnda:(θ.ids.map (·.2)).Nodup:=(Xo.1 (Xo.1 h.Bu).2).2;exact⟨es',c',by rw[hb _ (fun e=>q (G9 hndb hp hjb e.symm))];exact q1,by rw[ha _ (fun e=>q (G9 hnda hp hjb e.symm))];exact q2,q3⟩
 ·rw[hb c (fun e=>hn (by rw[e];exact Xc _ (Xz hm)))];exact hc
 ·rw[ha c (fun e=>hn (by rw[e];exact Xc _ (Xc _ (Xz hm))))];exact hc
theorem O5(w0:W0){S:St}{θ:eG}{w:List RH}(h:TI S θ w){k:Int}(hk:oI w k)(hk2:k≤1000000)(lv n:Int):aa Tryz.prog w0 129 [bz θ.t,yZ lv n] S (fun d S'=>d=dI (qw w lv n).2∧TI S' θ (qw w lv n).1∧vN S S' θ θ):=by
 obtain⟨es1,c1,es2,c2,h1,h2,h3⟩:=h.tb;have hok:=h.ok.sn lv n;unfold qw at hok ⊢;rcases h.get lv n with⟨s,p,q1,q2,q3⟩|⟨q1,q2,q3⟩
 ·obtain⟨es,c,r1,r2,r3⟩:=h.aC _ s p q1 (fP q1).2.2 q2;have hm:=W7 q1;have hla:=h.ok.la s hm;have hlk:=hk s hm
  have hnn:aJ es (kI (s.last+1))=none:=by
   rw[r3,if_neg fun q=>by have:=(h.ok.LX s hm _ q).2;omega]
  rw[q1]at hok ⊢;simp only at hok ⊢;refine(Qk w0 h1 lv n p.1 p.2 (by rw[h3,q2];rfl) s.last es c r1 r2 hnn hla (by omega)).mono ?_;rintro d S' ⟨rfl,rfl⟩;refine⟨rfl,h.put (r:=JJ s) q1 q2 hok rfl rfl rfl (fun c hc=>ab (fun e=>hc e.symm) _ _) (fun c hc=>ab (fun e=>hc e.symm) _ _) ⟨cX es c (.int .i64 (s.last+1)) (dI 1),eV es c (.int .i64 (s.last+1)),?_,?_,fun x=>?_⟩⟩
  ·show lk (up S.box _ _) p.1=_;rw[aE,r1];rfl
  ·show lk (up S.acc _ _) p.2=_;rw[aE,r2];rfl
  ·unfold JJ;simp only[Xh,Xg];by_cases q:x=s.last+1
   ·subst q;rw[show kI (s.last+1)=Value.int .i64 (s.last+1)from rfl,aY,if_pos (.inr rfl)]
   ·rw[bX _ _ (k:= .int .i64 (s.last+1)) (k':=kI x) (fun e=>q (by unfold kI at e;cases e;rfl)),r3];simp[q]
 ·rw[q1]at hok ⊢;refine(Lw w0 h1 lv n (by rw[h3,q2];rfl)).mono ?_;rintro d S' ⟨rfl,rfl⟩;exact⟨rfl,h,vN.refl _ _⟩
theorem l3{x:Int}{l:List Int}:(FO x l).length=l.length↔¬x∈l:=by
 unfold FO;rw[List.length_filter_eq_length_iff];constructor
 ·intro h hx;have:=h x hx;simp at this
 ·intro h a ha;simp only[XE,decide_eq_false_iff_not];exact fun e=>h (e▸ha)
theorem II(w0:W0){S:St}{θ:eG}{w:List RH}(h:TI S θ w)(lv n x:Int):aa Tryz.prog w0 130 [bz θ.t,yZ lv n,dI x] S (fun d S'=>d=dB (oy w lv n x).2∧TI S' θ (oy w lv n x).1∧vN S S' θ θ):=by
 obtain⟨es1,c1,es2,c2,h1,h2,h3⟩:=h.tb;have hok:=h.ok.un lv n x;unfold oy at hok ⊢;rcases h.get lv n with⟨s,p,q1,q2,q3⟩|⟨q1,q2,q3⟩
 ·obtain⟨es,c,r1,r2,r3⟩:=h.aC _ s p q1 (fP q1).2.2 q2;have hm:=W7 q1;rw[q1]at hok ⊢;simp only at hok ⊢;have hx:=r3 x;by_cases q:x∈s.sn
  ·rw[if_pos q]at hx;rw[if_neg (fun e=>l3.1 e q)]at hok ⊢;refine(zU w0 h1 lv n x p.1 p.2 (by rw[h3,q2];rfl) s.last es c r1 r2 true hx).mono ?_;rintro d S' ⟨rfl,rfl⟩;refine⟨rfl,h.put (r:=⟨s.lv,s.n,FO x s.sn,s.last,s.gone⟩) q1 q2 hok rfl rfl rfl (fun c hc=>rfl) (fun c hc=>ab (fun e=>hc e.symm) _ _) ⟨ig es (.int .i64 x),c,?_,?_,fun y=>?_⟩⟩
   ·exact r1
   ·show lk (up S.acc _ _) p.2=_;rw[aE,r2];rfl
   ·unfold FO;simp only[YA,XE,decide_eq_false_iff_not];by_cases q5:y=x
    ·subst q5;rw[show kI y=Value.int .i64 y from rfl,dh,if_neg fun e=>e.2 rfl]
    ·rw[dw _ (k:= .int .i64 x) (k':=kI y) (fun e=>q5 (by unfold kI at e;cases e;rfl)),r3];simp[q5]
  ·rw[if_neg q]at hx;rw[if_pos (l3.2 q)]at hok ⊢;refine(zU w0 h1 lv n x p.1 p.2 (by rw[h3,q2];rfl) s.last es c r1 r2 false hx).mono ?_;rintro d S' ⟨rfl,rfl⟩;exact⟨rfl,h,vN.refl _ _⟩
 ·rw[q1]at hok ⊢;refine(Gq w0 h1 lv n x (by rw[h3,q2];rfl)).mono ?_;rintro d S' ⟨rfl,rfl⟩;exact⟨rfl,h,vN.refl _ _⟩
theorem EG(w0:W0){S:St}{θ:eG}{w:List RH}(h:TI S θ w):aa Tryz.prog w0 67 [bz θ.t] S (fun d S'=>∃θ',TI S' θ' []∧vN S S' θ θ'):=by
 obtain⟨es1,c1,es2,c2,h1,h2,h3⟩:=h.tb;have hne:=tv h.Bu;refine(LY w0 h1 hne).mono ?_;rintro d S' rfl;refine⟨⟨θ.t,θ.l1,θ.l2,[]⟩,⟨iM.nil,rfl,by simp[eG.bx],by simp[eG.ax,hne],fun c hc=>?_,fun c hc=>?_,⟨[],c1,[],c2,⟨h1.tb,?_,?_⟩,fun lv=>by simp[eX,aJ],fun lv n=>by simp[aJ]⟩,fun i s p hs=>by simp at hs⟩,rfl,fun c x _ hc=>hc,fun c x hn hc=>?_,fun c hc=> .inl ?_,fun c hc=> .inl ?_⟩
 ·simp[eG.bx]at hc;subst hc;exact h.lL _ (Xf ..)
 ·simp[eG.ax]at hc;refine eO (eO ?_);rcases hc with rfl|rfl
  ·exact h.vo _ (Xf ..)
  ·exact h.vo _ (Xc _ (Xf ..))
 ·show lk (up (up S.acc _ _) _ _) θ.l1=_;rw[ab (fun e=>hne e.symm),aE,h1.m1];rfl
 ·show lk (up (up S.acc _ _) _ _) θ.l2=_;rw[aE,ab hne,h1.m2];rfl
 ·unfold eG.ax at hn;rw[Xm,Xm,not_or,not_or]at hn;show lk (up (up S.acc _ _) _ _) c=_;rw[ab (fun e=>hn.2.1 e.symm),ab (fun e=>hn.1 e.symm)];exact hc
 ·simp[eG.bx]at hc;subst hc;exact Xf ..
 ·simp[eG.ax]at hc;rcases hc with rfl|rfl
  ·exact Xf ..
  ·exact Xc _ (Xf ..)
end Go.Proofs.YtoepfmhnapedoaaGreatDoor
namespace Aml
open Go Go.RowKit
def Same(T:List Nat)(a0 a:Act):Prop:=(∀t,t∈T→a.tmps[t]? =a0.tmps[t]?)∧a.defers=a0.defers∧a.tmps.size=a0.tmps.size
def Kt(T:List Nat)(a0:Act)(Q:Exit→Act→World→Prop)(e:Exit)(a:Act)(w:World):Prop:=match e with
 | .outgrown=>Q .outgrown a w
 |e=>Q e a w∧Same T a0 a
def Jw:Op→Bool
 | .defer _=>true
 |_=>false
def jY(T:List Nat)(o:Oper):Bool:=!Jw o.op&&(match o.dst with|some d=>!T.contains d|none=>true)
section
variable {P:Program} {w0:W0} {F:Fence} {n:Nat} {Q:Exit→Act→World→Prop}
theorem l4{T:List Nat}{a0 a:Act}{o:Oper}(hd:jY T o=true)(h:Same T a0 a)(u:Value):Same T a0 (a.put o.dst u):=by
 refine⟨fun t ht=>?_,(put_defers _ _ _).trans h.2.1,Eq.trans (by cases o.dst <;>simp[Act.put]) h.2.2⟩;unfold jY at hd;simp only[W8]at hd
 cases hq:o.dst with
 |none=>exact h.1 t ht
 |some d=>
  have hd:=hd.2;rw[hq]at hd;simp only[XE,List.contains_eq_mem,decide_eq_false_iff_not]at hd;have:d≠t:=fun e=>hd (e▸ht);simp only[Act.put];rw[Xu,if_neg this];exact h.1 t ht
theorem iX{ro:Option Nat}{ops:Array Oper}{g0:Gh}{Q:Exit→List DV→St→Prop}{T:List Nat}{a0:Act}:∀(l:List Oper) (fr:List DV) (S:St) (g:Gh) (a:Act) (w:World),l.all (jY T)=true→Same T a0 a→g0.le g→Rel w0 g S w→ae g fr a.tmps.toList→Dk w0 g a w→
 zP P w0 ops (fun fr S=>Q .normal fr S) l fr S→wpListIn (fz ro) 0 P ops (Kt T a0 (Good w0 g0 Q)) l a w
 |[],fr,S,g,a,w,_,hs,k,h1,h2,h3,h=>⟨⟨k.kd h3,g,fr,S,k,h1,h2,h⟩,hs⟩
 |o::rest,fr,S,g,a,w,hl,hs,k,h1,h2,h3,h=>by
  simp only[Zc,W8]at hl;unfold zP at h;unfold wpListIn;rcases gI h2 h with⟨hw,fr',h2',hA⟩|⟨hw,fr',h2',hB⟩
  ·rw[if_pos hw];refine fq hA h1 (fun x _=>ee h2' x) h3 k h2' (Q:=Q) (fun v w' hg=>⟨hg,hs⟩) fun g' d u S' w' k1 k2 k3 k4 k5=>?_;exact iX rest _ _ g' _ _ hl.2 (l4 hl.1 hs u) (k.trans k1) k2 (bD (h2'.mono k1) _ k3) (k1.dk k5) k4
  ·rw[if_neg (by simp[hw])];exact⟨fun _ _=>trivial,iX rest _ _ g _ _ hl.2 (l4 hl.1 hs undef) k h1 (bD h2' _ (gp g)) (h3.ba (put_defers _ _ _) fun _ _ h _=>h) hB⟩
end
section
variable {P:Program} {w0:W0}
def Lg(T:List Nat)(P:Program)(w0:W0)(c:Code)(fr:List DV)(S:St)(Q:Exit→List DV→St→Prop):Prop:=
 ∀g a0 a w,Rel w0 g S w→ae g fr a.tmps.toList→Dk w0 g a w→Same T a0 a→qV P c (Kt T a0 (Good w0 g Q)) a w
def oX(t:List Nat):Code→Bool
 | .skip=>true
 | .ret=>true
 | .exit _=>true
 | .seq a b=>oX t a&&oX t b
 | .cond _ a b=>oX t a&&oX t b
 | .block _ c=>oX t c
 | .region _ ops false=>ops.toList.all (fun o=>fw o.op&&jY t o)
 |_=>false
theorem Kt.mono{t:List Nat}{v:Act}{Q Q':Exit→Act→World→Prop}(h:∀e a w,Q e a w→Q' e a w){e:Exit}{a:Act}{w:World}(k:Kt t v Q e a w):Kt t v Q' e a w:=by
 cases e <;>first|exact⟨h _ _ _ k.1,k.2⟩|exact h _ _ _ k
theorem dW{t:List Nat}:∀(c:Code) {fr:List DV} {S:St} {Q:Exit→List DV→St→Prop},oX t c=true→vw P w0 [] c fr S Q→Lg t P w0 c fr S Q
 | .skip,fr,S,Q,_,h=>fun g v a w h1 h2 h3 h4=>mn ⟨⟨h3,g,fr,S,.refl g,h1,h2,h⟩,h4⟩
 | .ret,fr,S,Q,_,h=>fun g v a w h1 h2 h3 h4=>oT ⟨⟨h3,g,fr,S,.refl g,h1,h2,h⟩,h4⟩
 | .exit n,fr,S,Q,_,h=>fun g v a w h1 h2 h3 h4=>pn ⟨⟨h3,g,fr,S,.refl g,h1,h2,h⟩,h4⟩
 | .seq x y,fr,S,Q,ho,h=>fun g v a w h1 h2 h3 h4=>by
  simp only[oX,W8]at ho;refine iS (aU (dW x ho.1 h g v a w h1 h2 h3 h4) ?_);intro e a' w' hg
  cases e with
  |normal=>
   obtain⟨⟨hd,g',fr',S',k1,k2,k3,k4⟩,ht⟩:=hg;exact aU (dW y ho.2 k4 g' v a' w' k2 k3 (k1.dk hd) ht) fun _ _ _ k=>k.mono fun _ _ _ k=>k.of_le k1
  |exit n=>exact hg
  |goto n=>exact hg
  |ret=>exact hg
  |panic ch=>exact hg
  |outgrown=>exact hg
 | .cond c x y,fr,S,Q,ho,h=>fun g v a w h1 h2 h3 h4=>by
  simp only[oX,W8]at ho;have h:cu (ev fr c) (vw P w0 [] x fr S Q) (vw P w0 [] y fr S Q):=h;have hr:=ee h2 c;unfold cu at h;split at h
  ·rename_i b he;rw[he]at hr;exact cU (jT hr) (fun hb=>dW x ho.1 (h.1 hb) g v a w h1 h2 h3 h4) (fun hb=>dW y ho.2 (h.2 hb) g v a w h1 h2 h3 h4)
  ·exact h.elim
 | .block n c,fr,S,Q,ho,h=>fun g v a w h1 h2 h3 h4=>by
  unfold oX at ho
  have h:vw P w0 [] c fr S (eN n Q):=by
   unfold vw cj at h;simpa using h
  refine iH (aU (dW c ho h g v a w h1 h2 h3 h4) ?_);intro e a' w' hg
  cases e with
  |exit m=>
   obtain⟨⟨hd,g',fr',S',k1,k2,k3,k4⟩,ht⟩:=hg;simp only[Exit.inBlock];simp only[Qp,eN]at k4;split
   ·rename_i e;rw[if_pos e]at k4;exact⟨⟨hd,g',fr',S',k1,k2,k3,k4⟩,ht⟩
   ·rename_i e;rw[if_neg e]at k4;exact⟨⟨hd,g',fr',S',k1,k2,k3,k4⟩,ht⟩
  |normal=>exact hg
  |goto n=>exact hg
  |ret=>exact hg
  |panic ch=>exact hg
  |outgrown=>exact hg
 | .region n ops false,fr,S,Q,ho,h=>fun g v a w h1 h2 h3 h4=>by
  unfold oX at ho
  have ho1:ops.toList.all (fun o=>fw o.op)=true:=Xq.2 fun o hm=>by
   have:=Xq.1 ho o hm;rw[W8]at this;exact this.1
  have ho2:ops.toList.all (jY t)=true:=Xq.2 fun o hm=>by
   have:=Xq.1 ho o hm;rw[W8]at this;exact this.2
  have h:oE P w0 ops (fun fr S=>Q .normal fr S) ops.toList fr S:=by
   unfold vw cj at h;simpa using h
  have h:=fT _ ho1 h;have:=eg (P:=P) (id:=n) (l:=ops.toList) (Q:=Kt t v (Good w0 g Q)) (a:=a) (w:=w) fun ro=>iX (ro:=ro) (g0:=g) (Q:=Q) ops.toList fr S g a w ho2 h4 (.refl g) h1 h2 h3 (by simpa using h);simpa using this
 | .region n ops true,fr,S,Q,ho,h=>by cases ho
 | .loop c,fr,S,Q,ho,h=>by cases ho
 | .rangeFunc f ps a b,fr,S,Q,ho,h=>by cases ho
 | .scope c,fr,S,Q,ho,h=>by cases ho
 | .label l,fr,S,Q,ho,h=>by cases ho
 | .goto l,fr,S,Q,ho,h=>by cases ho
 | .refuse w,fr,S,Q,ho,h=>by cases ho
theorem Lg.mono{T:List Nat}{c:Code}{fr:List DV}{S:St}{Q Q':Exit→List DV→St→Prop}(h:Lg T P w0 c fr S Q)(hq:∀e fr S,Q e fr S→Q' e fr S):Lg T P w0 c fr S Q':=
 fun g v a w h1 h2 h3 h4=>aU (h g v a w h1 h2 h3 h4) fun e a w k=>k.mono fun e a w k=>k.mono hq
def jm:ResultVar→Nat
 | .tmp t=>t
 | .cell a _=>a
theorem sZ{fn:Func}{rs:List ResultVar}(hrs:fn.results=rs.toArray){a a':Act}(h:∀r,r∈rs→a'.tmps[jm r]? =a.tmps[jm r]?):results fn a'.tmps=results fn a.tmps:=by
 have:∀l:List ResultVar,(∀r,r∈l→a'.tmps[jm r]? =a.tmps[jm r]?)→l.mapM (re a'.tmps)=l.mapM (re a.tmps):=by
  intro l
  induction l with
  |nil=>intro _;rfl
  |cons r l ih=>
   intro h
   have e:re a'.tmps r=re a.tmps r:=by
    have h1:=h r Xf
    cases r with
    |tmp t=>simp only[re,jm]at h1 ⊢;rw[Xt,Xt,h1]
    |cell p t=>simp only[re,jm]at h1 ⊢;rw[Xt,Xt,h1]
   rw[List.mapM_cons,List.mapM_cons,e,ih fun r hr=>h r (Xc _ hr)]
 rw[jj,jj,hrs];simp only[List.mapM_toArray,this rs h]
def Idle(P:Program)(cl:FuncId)(bs:List Value):Prop:=∀w,CallsDIn (fz none) 0 P cl bs.toArray .returning w fun e u' w'=>(∃r,e= .returned r)∧u'= .returning∧w'=w
def Oz(P:Program)(w0:W0)(cl:FuncId)(bs:List Value)(pq:DV→St→Prop)(K:St→Prop):Prop:=∀g T w v d,Rel w0 g T w→az g d v→pq d T→
 CallsDIn (fz none) 0 P cl bs.toArray (.panicking [{v,recovered:=false}]) w fun e u' w'=>(∃r,e= .returned r)∧u'= .panicking [{v,recovered:=true}]∧∃g' T',g.le g'∧Rel w0 g' T' w'∧K T'
theorem gM{F:Fence}{n:Nat}{f:FuncId}{args:Array Value}{u:FrameMode}{w:World}{R R':Ending→FrameMode→World→Prop}(h:CallsDIn F n P f args u w R)(hr:∀e u w,R e u w→R' e u w):CallsDIn F n P f args u w R':=
 ⟨h.1,fun c cs hu hroom=>let⟨e,u',w',fr,hR,x⟩:=h.2 c cs hu hroom;⟨e,u',w',fr,hr _ _ _ hR,x⟩⟩
end
end Aml
namespace Lat
def bt(o:List Nat)(a b:Nat):Bool:=(o.getD a 0).testBit b
def bJ(up:List Nat)(a:Nat):Nat:=up.getD a 0%2^up.length
def iV(up:List Nat):List Nat:=(List.range up.length).map fun a=>bJ up a ||| 2^a
def lX(c:Nat)(o:List Nat)(a:Nat):List Nat:=if bt o a c then o.set a (o.getD a 0 ||| o.getD c 0)else o
def dX(c:Nat)(o:List Nat)(k:Nat):List Nat:=(List.range k).foldl (lX c) o
def bR(up:List Nat)(k:Nat):List Nat:=(List.range k).foldl (fun o c=>dX c o up.length) (iV up)
def eC(up:List Nat):List Nat:=bR up up.length
theorem fk(up:List Nat):(iV up).length=up.length:=by simp[iV]
theorem jL{f:Nat→Nat}{n a:Nat}(h:a<n):((List.range n).map f).getD a 0=f a:=by
 rw[Xs,Xd,X3 h];rfl
theorem sL{up:List Nat}{a b:Nat}(h:a<up.length):bt (iV up) a b=((decide (b<up.length)&&bt up a b)||decide (a=b)):=by
 unfold bt iV;rw[jL h,Nat.testBit_or,bJ,Nat.testBit_mod_two_pow,Nat.testBit_two_pow]
theorem A7(c:Nat)(o:List Nat)(a:Nat):(lX c o a).length=o.length:=by
 unfold lX;split <;>simp
theorem Hv{c:Nat}{o:List Nat}{a x b:Nat}(h:a<o.length):bt (lX c o a) x b=(if x=a then bt o a b||(bt o a c&&bt o c b)else bt o x b):=by
 unfold lX;split
 ·rename_i hc;by_cases e:x=a
  ·subst e;rw[if_pos rfl,hc,Yw];unfold bt;rw[Xs,X7 h];simp[Nat.testBit_or]
  ·rw[if_neg e];unfold bt;rw[Xs,X8 (fun q=>e q.symm),←Xs]
 ·rename_i hc;have hc:bt o a c=false:=by simpa using hc
  by_cases e:x=a
  ·subst e;rw[if_pos rfl,hc,Bool.false_and,Bool.or_false]
  ·rw[if_neg e]
theorem vG(c:Nat)(o:List Nat):dX c o 0=o:=rfl
theorem gP(c:Nat)(o:List Nat)(k:Nat):dX c o (k+1)=lX c (dX c o k) k:=by
 unfold dX;rw[YZ,Zk];rfl
theorem lu(c:Nat)(o:List Nat)(k:Nat):(dX c o k).length=o.length:=by
 induction k with
 |zero=>rfl
 |succ k ih=>rw[gP,A7,ih]
theorem rL{c:Nat}{o:List Nat}:∀{k:Nat},k≤o.length→∀x b,bt (dX c o k) x b=(if x<k then bt o x b||(bt o x c&&bt o c b)else bt o x b)
 |0,_,x,b=>by rw[vG,if_neg (by omega)]
 |k+1,hk,x,b=>by
  have ih:=fun x b=>rL (c:=c) (o:=o) (k:=k) (by omega) x b;rw[gP,Hv (by rw[lu];omega)]
  have hc:∀b,bt (dX c o k) c b=bt o c b:=fun b=>by
   rw[ih];split
   ·cases bt o c b <;>simp
   ·rfl
  by_cases e:x=k
  ·subst e;rw[if_pos rfl,if_pos (by omega),ih,if_neg (by omega),ih,if_neg (by omega),hc]
  ·rw[if_neg e,ih];by_cases h:x<k
   ·rw[if_pos h,if_pos (by omega)]
   ·rw[if_neg h,if_neg (by omega)]
theorem nE(up:List Nat):bR up 0=iV up:=rfl
theorem gV(up:List Nat)(k:Nat):bR up (k+1)=dX k (bR up k) up.length:=by
 unfold bR;rw[YZ,Zk];rfl
theorem dp(up:List Nat)(k:Nat):(bR up k).length=up.length:=by
 induction k with
 |zero=>exact fk up
 |succ k ih=>rw[gV,lu,ih]
theorem iJ{up:List Nat}{k x b:Nat}(hx:x<up.length):bt (bR up (k+1)) x b=(bt (bR up k) x b||(bt (bR up k) x k&&bt (bR up k) k b)):=by
 rw[gV,rL (by rw[dp];exact Xa _),if_pos hx]
theorem D3{o:List Nat}{a b:Nat}(h:o.length≤a):bt o a b=false:=by
 unfold bt;rw[Xs,Xe h];simp
theorem fC{o:List Nat}{a b:Nat}(h:bt o a b=true):a<o.length:=by
 rcases XH a o.length with h'|h'
 ·exact h'
 ·rw[D3 h']at h;cases h
theorem mw{up:List Nat}:∀{k:Nat},k≤up.length→∀x b,bt (bR up k) x b=true→b<up.length
 |0,_,x,b,h=>by
  have hx:=fC h;rw[nE,fk]at hx;rw[nE,sL hx]at h;simp at h;rcases h with h|h
  ·exact h.1
  ·omega
 |k+1,hk,x,b,h=>by
  have hx:=fC h;rw[dp]at hx;rw[iJ hx,Yq,W8]at h;rcases h with h|h
  ·exact mw (by omega) _ _ h
  ·exact mw (by omega) _ _ h.2
theorem pz{up:List Nat}:∀{k:Nat},k≤up.length→∀x b,bt (iV up) x b=true→bt (bR up k) x b=true
 |0,_,x,b,h=>h
 |k+1,hk,x,b,h=>by
  have hx:=fC h;rw[fk]at hx;rw[iJ hx,pz (by omega) _ _ h];rfl
theorem mr{up:List Nat}:∀{k:Nat},k≤up.length→∀x c b,c<k→bt (bR up k) x c=true→bt (bR up k) c b=true→bt (bR up k) x b=true
 |0,_,x,c,b,h,_,_=>by omega
 |k+1,hk,x,c,b,hc,h1,h2=>by
  have hx:x<up.length:=by have:=fC h1;rwa [dp]at this
  have hc':c<up.length:=by omega
  have T:=fun x c b=>mr (up:=up) (k:=k) (by omega) x c b;rw[iJ hx]at h1 ⊢;rw[iJ hc']at h2;simp only[Yq,W8]at h1 h2 ⊢;by_cases e:c=k
  ·subst e;refine .inr ⟨?_,?_⟩
   ·rcases h1 with h|h
    ·exact h
    ·exact h.1
   ·rcases h2 with h|h
    ·exact h
    ·exact h.2
  ·have hlt:c<k:=by omega
   rcases h1 with h1|h1 <;>rcases h2 with h2|h2
   ·exact .inl (T _ _ _ hlt h1 h2)
   ·exact .inr ⟨T _ _ _ hlt h1 h2.1,h2.2⟩
   ·exact .inr ⟨h1.1,T _ _ _ hlt h1.2 h2⟩
   ·exact .inr ⟨h1.1,h2.2⟩
theorem fO{up:List Nat}{R:Nat→Nat→Prop}(h0:∀a b,bt (iV up) a b=true→R a b)(ht:∀a b c,R a b→R b c→R a c):∀{k:Nat},k≤up.length→∀x b,bt (bR up k) x b=true→R x b
 |0,_,x,b,h=>h0 x b h
 |k+1,hk,x,b,h=>by
  have hx:x<up.length:=by have:=fC h;rwa [dp]at this
  rw[iJ hx,Yq,W8]at h;rcases h with h|h
  ·exact fO h0 ht (by omega) _ _ h
  ·exact ht _ _ _ (fO h0 ht (by omega) _ _ h.1) (fO h0 ht (by omega) _ _ h.2)
theorem oM(up:List Nat):(eC up).length=up.length:=dp up _
theorem F2{up:List Nat}{x b:Nat}(h:bt (eC up) x b=true):b<up.length:=mw (Xa _) _ _ h
theorem zN{up:List Nat}{x b:Nat}(h:bt (iV up) x b=true):bt (eC up) x b=true:=pz (Xa _) _ _ h
theorem Bx{up:List Nat}{x c b:Nat}(h1:bt (eC up) x c=true)(h2:bt (eC up) c b=true):bt (eC up) x b=true:=mr (Xa _) _ _ _ (F2 h1) h1 h2
theorem A5{up:List Nat}{R:Nat→Nat→Prop}(h0:∀a b,bt (iV up) a b=true→R a b)(ht:∀a b c,R a b→R b c→R a c){x b:Nat}(h:bt (eC up) x b=true):R x b:=fO h0 ht (Xa _) _ _ h
theorem vA{o p:List Nat}(hl:o.length=p.length)(h:∀a b,bt o a b=bt p a b):o=p:=by
 refine X4 fun a=>?_;by_cases ha:a<o.length
 ·rw[W5 ha,W5 (hl▸ha)];congr 1;refine Y2 fun b=>?_;have:=h a b;unfold bt at this
  rwa [Xs,W5 ha,Xs,W5 (hl▸ha)]at this
 ·rw[Xe (by omega),Xe (by omega)]
structure Cl(up:List Nat):Prop where
 lt:∀a b,bt up a b=true→b<up.length
 refl:∀a,a<up.length→bt up a a=true
 trans:∀a b c,bt up a b=true→bt up b c=true→bt up a c=true
theorem Me(up:List Nat):Cl (eC up):=
 ⟨fun a b h=>by rw[oM];exact F2 h,fun a h=>zN (by rw[oM]at h;rw[sL h];simp),fun a b c=>Bx⟩
theorem pG{up:List Nat}(h:Cl up):iV up=up:=by
 refine vA (fk up) fun a b=>?_;rcases XH a up.length with ha|ha
 ·rw[sL ha]
  cases e:bt up a b with
  |true=>simp[h.lt a b e]
  |false=>
   have:¬a=b:=by rintro rfl;rw[h.refl a ha]at e;cases e
   simp[this]
 ·rw[D3 (by rw[fk];exact ha),D3 ha]
theorem so{up:List Nat}(h:Cl up):eC up=up:=by
 refine vA (oM up) fun a b=>?_
 cases e:bt up a b with
 |true=>exact zN (by rw[pG h];exact e)
 |false=>
  cases e2:bt (eC up) a b with
  |false=>rfl
  |true=>
   have:=A5 (R:=fun a b=>bt up a b=true) (fun a b q=>by rw[pG h]at q;exact q) (fun a b c=>h.trans a b c) e2;rw[this]at e;cases e
theorem qR{up:List Nat}:eC up=up↔Cl up:=⟨fun h=>h▸Me up,so⟩
def cS(up:List Nat)(a b:Nat):Bool:=decide (up.length≤64)&&decide (a<up.length)&&decide (b<up.length)&&bt up a b
def cR(up:List Nat)(a b:Int):Bool:=decide (0≤a)&&decide (0≤b)&&cS up a.toNat b.toNat
theorem cB{up:List Nat}{a b:Nat}:cS up a b=true↔up.length≤64∧a<up.length∧b<up.length∧bt up a b=true:=by
 unfold cS;simp[and_assoc]
def fF(up:List Nat)(a k:Nat):Nat:=(List.range k).foldl (fun x i=>if cS up i a then x ||| 2^i else x) 0
def cm(up:List Nat)(a:Nat):Nat:=fF up a up.length
theorem ld(up:List Nat)(a k:Nat):fF up a (k+1)=if cS up k a then fF up a k ||| 2^k else fF up a k:=by
 unfold fF;rw[YZ,Zk];rfl
theorem iy(up:List Nat)(a:Nat):∀k i,(fF up a k).testBit i=(decide (i<k)&&cS up i a)
 |0,i=>by simp[fF]
 |k+1,i=>by
  rw[ld];split
  ·rename_i h;rw[Nat.testBit_or,iy up a k,Nat.testBit_two_pow];by_cases e:k=i
   ·subst e;simp[h]
   ·have:(i<k+1)=(i<k):=by simp;omega
    simp[this,e]
  ·rename_i h;rw[iy up a k];by_cases e:k=i
   ·subst e;simp[h]
   ·have:(i<k+1)=(i<k):=by simp;omega
    simp[this]
theorem DH(up:List Nat)(a k:Nat):fF up a k<2^k:=Nat.lt_pow_two_of_testBit _ fun i hi=>by rw[iy];simp;omega
theorem mD(up:List Nat)(a i:Nat):(cm up a).testBit i=cS up i a:=by
 unfold cm;rw[iy]
 cases e:cS up i a with
 |false=>simp
 |true=>simp[(cB.1 e).2.1]
theorem NS{x k:Nat}(h:x.testBit k=false):x ||| 2^k=x+2^k:=by
 refine Y2 fun i=>?_
 have hm:x/2^k%2=0:=by
  rw[YH]at h;have:=of_decide_eq_false h;omega
 have hx:x=2^(k+1)*(x/2^(k+1))+x%2^k:=by
  have h1:=Nat.div_add_mod x (2^k);have h2:=Nat.div_add_mod (x/2^k) 2;rw[Nat.div_div_eq_div_mul,←YS]at h2;rw[hm]at h2
  have:2^k*(x/2^k)=2^(k+1)*(x/2^(k+1)):=by
   rw[←h2,YS,Nat.mul_assoc];simp
  omega
 have hlt:x%2^k<2^k:=Nat.mod_lt _ (Y0 k);have hp:2^(k+1)=2*2^k:=by rw[YS];omega
 have hlt2:x%2^k+2^k<2^(k+1):=by omega
 rw[Nat.testBit_or,Nat.testBit_two_pow];rcases Yl i k with hi|hi|hi
 ·rw[YL,Nat.testBit_two_pow_add_gt hi];have:¬k=i:=by omega
  simp[this]
 ·subst hi;rw[YL,Nat.testBit_two_pow_add_eq,h];simp
 ·have hne:¬k=i:=by omega
  conv=>rhs;rw[hx,Ya,Nat.testBit_two_pow_mul_add _ hlt2]
  conv=>lhs;rw[hx,Nat.testBit_two_pow_mul_add _ (by omega:x%2^k<2^(k+1))]
  rw[if_neg (by omega),if_neg (by omega)];simp[hne]
theorem AI(up:List Nat)(a k:Nat):fF up a (k+1)=if cS up k a then fF up a k+2^k else fF up a k:=by
 rw[ld];split
 ·rw[NS (by rw[iy];simp)]
 ·rfl
def aR(x:Nat):List Nat:=(List.range 64).filter fun i=>x.testBit i
theorem rz{x i:Nat}:i∈aR x↔i<64∧x.testBit i=true:=by simp[aR]
def GM(le:Nat→Nat→Bool)(n a b c:Nat):Prop:=c<n∧le a c=true∧le b c=true∧∀d,d<n→le a d=true→le b d=true→le c d=true
def kL(le:Nat→Nat→Bool)(n:Nat)(a b:Nat):Prop:=∃c,GM le n a b c
structure kA(up:List Nat):Prop where
 pos:1≤up.length
 le:up.length≤64
 cl:Cl up
 C8:∀a b,bt up a b=true→bt up b a=true→a=b
 join:∀a b,b<a→a<up.length→kL (cS up) up.length a b
 meet:∀a b,b<a→a<up.length→kL (fun x y=>cS up y x) up.length a b
end Lat
namespace Lat
def M7(le:Nat→Nat→Bool)(n a b c:Nat):Prop:=GM le n a b c∧∀d,d<c→¬GM le n a b d
open Classical in
noncomputable def jF(le:Nat→Nat→Bool)(n a b:Nat):Int:=if h:∃c,M7 le n a b c then(Classical.choose h:Nat)else -1
theorem zi{le:Nat→Nat→Bool}{n a b c:Nat}(h0:∀d,d<c→¬GM le n a b d)(h:GM le n a b c):jF le n a b=(c:Int):=by
 unfold jF;have hx:∃c,M7 le n a b c:=⟨c,h,h0⟩;rw[dif_pos hx];have h2:=Classical.choose_spec hx
 have:Classical.choose hx=c:=by
  rcases Yl (Classical.choose hx) c with q|q|q
  ·exact absurd h2.1 (h0 _ q)
  ·exact q
  ·exact absurd h (h2.2 _ q)
 rw[this]
theorem zh{le:Nat→Nat→Bool}{n a b:Nat}(h:∀d,¬GM le n a b d):jF le n a b= -1:=by
 unfold jF;rw[dif_neg];rintro⟨c,hc,_⟩;exact h c hc
theorem sQ{le:Nat→Nat→Bool}{n a b:Nat}:jF le n a b<0↔¬kL le n a b:=by
 constructor
 ·rintro hneg ⟨c,hc⟩
  have:∀m c,c≤m→GM le n a b c→∃c,M7 le n a b c:=by
   intro m
   induction m with
   |zero=>intro c h1 h2;exact⟨c,h2,fun d hd=>by omega⟩
   |succ m ih=>
    intro c h1 h2;by_cases q:∃d,d<c∧GM le n a b d
    ·obtain⟨d,q1,q2⟩:=q;exact ih d (by omega) q2
    ·exact⟨c,h2,fun d hd h=>q ⟨d,hd,h⟩⟩
  obtain⟨c',h⟩:=this c c (Xa _) hc;rw[zi h.2 h.1]at hneg;omega
 ·intro h;rw[zh fun d hd=>h ⟨d,hd⟩];omega
theorem BY{up:List Nat}(hl:up.length≤64)(x y:Nat):cS ((List.range up.length).map (cm up)) x y=cS up y x:=by
 have hlen:((List.range up.length).map (cm up)).length=up.length:=by simp
 by_cases hx:x<up.length
 ·have e:bt ((List.range up.length).map (cm up)) x y=cS up y x:=by
   unfold bt;rw[jL hx,mD]
  cases q:cS up y x with
  |true=>
   have:=cB.1 q;exact cB.2 ⟨by omega,by omega,by omega,by rw[e,q]⟩
  |false=>
   cases r:cS ((List.range up.length).map (cm up)) x y with
   |false=>rfl
   |true=>have:=(cB.1 r).2.2.2;rw[e,q]at this;cases this
 ·cases q:cS up y x with
  |true=>have:=cB.1 q;omega
  |false=>
   cases r:cS ((List.range up.length).map (cm up)) x y with
   |false=>rfl
   |true=>have:=cB.1 r;omega
end Lat
namespace Lat
structure Jo(up o:List Nat):Prop where
 len:o.length=up.length
 lt:∀x,x∈o→x<2^up.length
 sub:∀a b,bt (iV up) a b=true→bt o a b=true
 inc:∀a b,bt o a b=true→bt (eC up) a b=true
theorem rX{o:List Nat}{a b x:Nat}(h:o[a]? =some x):bt o a b=x.testBit b:=by
 unfold bt;rw[Xs,h];rfl
theorem Ll{n x y:Nat}(hx:x<2^n)(hy:y<2^n):x ||| y<2^n:=Nat.or_lt_two_pow hx hy
theorem IP{n k:Nat}(h:k<n):2^k<2^n:=Nat.pow_lt_pow_right (by omega) h
theorem HK{up:List Nat}:∀x,x∈iV up→x<2^up.length:=by
 intro x hx;obtain⟨a,ha,rfl⟩:=Xk.1 hx;have:=X9.1 ha;exact Ll (Nat.mod_lt _ (Y0 _)) (IP this)
theorem vW{o:List Nat}{a:Nat}:o.getD a 0∈o∨o.getD a 0=0:=by
 rw[Xs]
 cases h:o[a]? with
 |none=>exact .inr rfl
 |some x=>exact .inl (W7 h)
theorem DZ{n c:Nat}{o:List Nat}{a:Nat}(h:∀x,x∈o→x<2^n):∀x,x∈lX c o a→x<2^n:=by
 unfold lX;split
 ·intro x hx
  have hg:∀i,o.getD i 0<2^n:=fun i=>by
   rcases vW (o:=o) (a:=i)with q|q
   ·exact h _ q
   ·rw[q];exact Y0 _
  rcases Yh hx with q|q
  ·exact h x q
  ·rw[q];exact Ll (hg _) (hg _)
 ·exact h
theorem r6{n c:Nat}{o:List Nat}(h:∀x,x∈o→x<2^n)(k:Nat):∀x,x∈dX c o k→x<2^n:=by
 induction k with
 |zero=>exact h
 |succ k ih=>rw[gP];exact DZ ih
theorem wW{up:List Nat}(k:Nat):∀x,x∈bR up k→x<2^up.length:=by
 induction k with
 |zero=>exact HK
 |succ k ih=>rw[gV];exact r6 ih _
end Lat
namespace Lat
structure vM(up:List Nat)(a b:Nat):Prop where
 lt:bt up a b=true→b<up.length
 refl:a=b→bt up a b=true
 C8:bt up a b=true→a≠b→bt up b a=false
 trans:∀c,c<up.length→bt up a b=true→bt up b c=true→bt up a c=true
def qh(up:List Nat)(a b:Nat):Prop:=kL (cS up) up.length a b∧kL (fun x y=>cS up y x) up.length a b
theorem EP{up:List Nat}(hb:∀x,x∈up→x<2^64)(h1:1≤up.length)(h2:up.length≤64):kA up↔(∀a,a<up.length→∀b,b<64→vM up a b)∧∀a,a<up.length→∀b,b<a→qh up a b:=by
 have h64:∀a b,bt up a b=true→b<64:=by
  intro a b h;rcases XH b 64 with q|q
  ·exact q
  ·exfalso
   have ha:=fC h;have e:up[a]? =some up[a]:=W5 ha;rw[rX e]at h;have hx:=hb _ (W7 e);have:=Nat.testBit_lt_two_pow (Yk hx (Nat.pow_le_pow_right (by omega) q));rw[this]at h;cases h
 constructor
 ·intro h;refine⟨fun a ha b hb=>⟨h.cl.lt a b,fun e=>e▸h.cl.refl a ha,fun q hne=>?_,fun c hc=>h.cl.trans a b c⟩,fun a ha b hb=>⟨h.join a b hb ha,h.meet a b hb ha⟩⟩
  cases e:bt up b a with
  |false=>rfl
  |true=>exact absurd (h.C8 a b q e) hne
 ·rintro⟨h3,h4⟩;refine⟨h1,h2,⟨fun a b q=>(h3 a (fC q) b (h64 _ _ q)).lt q,fun a ha=>(h3 a ha a (by omega)).refl rfl,fun a b c q r=>?_⟩,fun a b q r=>?_,fun a b hb ha=>(h4 a ha b hb).1,fun a b hb ha=>(h4 a ha b hb).2⟩
  ·have hc:=(h3 b (fC r) c (h64 _ _ r)).lt r;exact(h3 a (fC q) b (h64 _ _ q)).trans c hc q r
  ·by_cases e:a=b
   ·exact e
   ·have:=(h3 a (fC q) b (h64 _ _ q)).C8 q e;rw[r]at this;cases this
end Lat
namespace Lat
def pL(x k:Nat):Prop:=x.testBit k=true∧∀i,i<k→x.testBit i=false
theorem Nc{x:Nat}(h0:x≠0)(hx:x<18446744073709551616):∃k,k<64∧pL x k:=by
 have h1:∃k,x.testBit k=true:=by
  refine XP fun h=>h0 (Y2 fun i=>?_);rw[Nat.zero_testBit]
  cases e:x.testBit i with
  |false=>rfl
  |true=>exact absurd ⟨i,e⟩ h
 obtain⟨k0,hk0⟩:=h1
 have:∀m k,k≤m→x.testBit k=true→∃k,pL x k:=by
  intro m
  induction m with
  |zero=>intro k h1 h2;exact⟨k,h2,fun i hi=>by omega⟩
  |succ m ih=>
   intro k h1 h2;by_cases q:∃d,d<k∧x.testBit d=true
   ·obtain⟨d,q1,q2⟩:=q;exact ih d (by omega) q2
   ·refine⟨k,h2,fun i hi=>?_⟩
    cases e:x.testBit i with
    |false=>rfl
    |true=>exact absurd ⟨i,hi,e⟩ q
 obtain⟨k,hk⟩:=this k0 k0 (Xa _) hk0;refine⟨k,?_,hk⟩;refine Nat.lt_of_not_le fun h=>?_;have h2:(2:Nat)^64≤2^k:=Nat.pow_le_pow_right (by decide) h;have:=Nat.testBit_lt_two_pow (x:=x) (i:=k) (by omega);have hk1:=hk.1;rw[this]at hk1;cases hk1
theorem ET{x k:Nat}(h:pL x k):x=2^k*(2*(x/2^(k+1))+1):=by
 have h1:x%2^k=0:=by
  refine Y2 fun i=>?_;rw[Nat.testBit_mod_two_pow,Nat.zero_testBit];by_cases hi:i<k
  ·rw[h.2 i hi];simp
  ·simp[hi]
 have h2:x/2^k%2=1:=by
  have:=h.1;rw[YH]at this;exact of_decide_eq_true this
 have h3:=Nat.div_add_mod x (2^k);have h4:=Nat.div_add_mod (x/2^k) 2;rw[Nat.div_div_eq_div_mul,←YS,h2]at h4;rw[h4];omega
theorem y5{k m i:Nat}:(2^k*(2*m+1)).testBit i=(decide (k≤i)&&(if i=k then true else m.testBit (i-k-1))):=by
 rw[Nat.testBit_two_pow_mul];by_cases h:k≤i
 ·simp only[h,decide_true,Yw];by_cases e:i=k
  ·subst e;rw[Zn,if_pos rfl,Nat.testBit_zero];simp
  ·rw[if_neg e];obtain⟨j,hj⟩:∃j,i-k=j+1:=⟨i-k-1,by omega⟩;rw[hj,Nat.testBit_succ,show(2*m+1)/2=m by omega];rfl
 ·simp[h]
theorem Bg{x k:Nat}(h:pL x k):∀i,(x &&& (x-1)).testBit i=(x.testBit i&&decide (i≠k)):=by
 intro i;have e:=ET h;generalize x/2^(k+1)=m at e;have hp:=Y0 k
 have e1:x-1=2^(k+1)*m+(2^k-1):=by
  rw[e,Nat.mul_add,YP,YS,Nat.mul_assoc];omega
 rw[Nat.testBit_and,e1,Nat.testBit_two_pow_mul_add _ (by rw[YS];omega)];by_cases hi:i<k+1
 ·rw[if_pos hi];by_cases e2:i=k
  ·subst e2;have:(2^i-1).testBit i=false:=Nat.testBit_lt_two_pow (by omega);rw[this];simp
  ·rw[h.2 i (by omega)];simp
 ·rw[if_neg hi,e,y5];have h1:k≤i:=by omega
  have h2:¬i=k:=by omega
  simp[h1,h2,show i-(k+1)=i-k-1 by omega]
theorem IU{x k:Nat}(h:pL x k)(hk:k<64)(hx:x<18446744073709551616):x &&& (18446744073709551616-x)=2^k:=by
 have e:=ET h;generalize hm:x/2^(k+1)=m at e;have hp:=Y0 k;have h64:2^k*2^(64-k)=18446744073709551616:=by rw[←Nat.pow_add,show k+(64-k)=64 by omega]
 have h63:2^(64-k)=2*2^(63-k):=by rw[show 64-k=(63-k)+1 by omega,YS];omega
 have hml:m<2^(63-k):=by
  rw[←hm];refine Nat.div_lt_of_lt_mul ?_;rw[←Nat.pow_add,show k+1+(63-k)=64 by omega];exact hx
 have e1:18446744073709551616-x=2^k*(2*(2^(63-k)-(m+1))+1):=by
  rw[←h64,e,←Nat.mul_sub];congr 1;omega
 refine Y2 fun i=>?_;rw[Nat.testBit_and,e1]
 conv=>lhs;lhs;rw[e]
 rw[y5,y5,Nat.testBit_two_pow];by_cases h1:k≤i
 ·by_cases h2:i=k
  ·subst h2;simp
  ·have h3:¬k=i:=fun q=>h2 q.symm;have hc:=Nat.testBit_two_pow_sub_succ hml (i-k-1);simp only[h1,h2,h3,decide_true,decide_false,Yw,if_false];rw[hc];cases m.testBit (i-k-1) <;>simp
 ·have h3:¬k=i:=by omega
  simp[h1,h3]
theorem xO:aR 0=[]:=by
 unfold aR;rw[List.filter_eq_nil_iff];intro i _;simp
theorem range_split{k n:Nat}(h:k<n):List.range n=List.range k++k::((List.range (n-k-1)).map (k+1+·)):=by
 refine X4 fun i=>?_;rcases Yl i k with h1|h1|h1
 ·rw[X3 (by omega),Xx (by simpa using h1),X3 h1]
 ·subst h1;rw[X3 h,Xv (by simp),List.length_range,Zn];rfl
 ·rw[Xv (by simp;omega),List.length_range];obtain⟨j,hj⟩:∃j,i-k=j+1:=⟨i-k-1,by omega⟩;rw[hj,Zb,Xd];by_cases hi:i<n
  ·rw[X3 hi,X3 (by omega)];simp only[XB,Xr];omega
  ·rw[Xe (by simp;omega),Xe (by simp;omega)];rfl
theorem AX{x k:Nat}(h:pL x k)(hk:k<64):aR x=k::aR (x &&& (x-1)):=by
 have hc:=Bg h;unfold aR;rw[range_split hk,YT,YT,List.filter_cons,List.filter_cons]
 have e1:∀y:Nat,(∀i,i<k→y.testBit i=false)→(List.range k).filter (fun i=>y.testBit i)=[]:=fun y hy=>by
  rw[List.filter_eq_nil_iff];intro i hi;rw[hy i (X9.1 hi)];simp
 have e2:(x &&& (x-1)).testBit k=false:=by rw[hc];simp
 rw[e1 x h.2,e1 _ (fun i hi=>by rw[hc,h.2 i hi];rfl),e2];simp only[h.1,if_true,Yr,XM,if_false];congr 1;refine List.filter_congr fun i hi=>?_;obtain⟨j,_,rfl⟩:=Xk.1 hi;rw[hc];have:k+1+j≠k:=by omega
 simp[this]
end Lat
namespace Go.Proofs.YtoepfmhnapedoaaGreatDoor
open Aml Go Lat
@[go_sem] def ec (up:List Nat):DV:= .sl 1 false (up.map fun x:Nat=>dU (x:Int))
def di(up:List Nat):Prop:=∀x,x∈up→x<18446744073709551616
theorem di.at_{up:List Nat}(h:di up){i x:Nat}(hx:up[i]? =some x):x<18446744073709551616:=h x (W7 hx)
def vU(up:List Nat)(a:Int):Bool:=decide (up.length≤64∧0≤a∧a<(up.length:Int))
theorem oR{up:List Nat}{a:Int}:vU up a=true↔up.length≤64∧0≤a∧a<(up.length:Int):=decide_eq_true_iff
theorem tP(w0:W0)(up:List Nat)(a:Int)(S:St):aa Tryz.prog w0 144 [ec up,dI a] S (fun d S'=>d=dB (vU up a)∧S'=S):=by
 unfold vU;refine bW [] mx Tryz.func144 rfl rfl (by kernel_rfl) ?_;simp(maxDischargeDepth:=12) (maxSteps:=1000000) -implicitDefEqProofs only[Tryz.ntmps144,go_sem,Nat.reduceAdd,Nat.reduceSub,Nat.reduceMul,Nat.reduceLeDiff,Nat.reduceEqDiff,Nat.reduceGT,Nat.reduceBEq,reduceCtorEq,↓reduceIte,Int.reduceToNat,Int.reduceLE,Int.reduceLT,Int.reduceNe,Int.reduceEq];refine⟨fun h1=>⟨fun h2=>⟨fun h3=>⟨by omega,by omega,by omega⟩,fun h3=>h3.2.2⟩,fun h2 h3=>by omega⟩,fun h1 h2=>by omega⟩
theorem Vc(n:Nat):((n:Int).tdiv 2)=((n/2:Nat):Int):=rfl
theorem VW(n:Nat):((n:Int).tmod 2)=((n%2:Nat):Int):=rfl
theorem Ed(x i:Nat):x/2^i/2=x/2^(i+1):=by rw[Nat.div_div_eq_div_mul,YS]
theorem uv{k:Nat}(h:k<64):2^k<18446744073709551616:=Nat.pow_lt_pow_right (by omega) (show k<64 from h)
theorem wN{x:Nat}(h:x<18446744073709551616):IntKind.u64.wrap (x:Int)=(x:Int):=SY (by omega) (by omega)
theorem aI{i:Nat}(h:i<4611686018427387905):IntKind.i64.wrap ((i:Int)+1)=((i+1:Nat):Int):=by rw[oD (by omega) (by omega)];omega
theorem Gz(w0:W0)(x k:Nat)(hx:x<18446744073709551616)(hk:k<4611686018427387904)(S:St):aa Tryz.prog w0 60 [dU (x:Int),dI (k:Int)] S (fun d S'=>d=dB (x.testBit k)∧S'=S):=by
 refine bW [] mx Tryz.func60 rfl rfl (by kernel_rfl) ?_;simp(maxDischargeDepth:=12) (maxSteps:=1000000) -implicitDefEqProofs only[Tryz.ntmps60,go_sem,Nat.reduceAdd,Nat.reduceSub,Nat.reduceMul,Nat.reduceLeDiff,Nat.reduceEqDiff,Nat.reduceGT,Nat.reduceBEq,reduceCtorEq,↓reduceIte,Int.reduceToNat,Int.reduceLE,Int.reduceLT,Int.reduceNe,Int.reduceEq];refine aX [] k [0,1,5] (fun i=>[(0,dU ((x/2^i:Nat):Int)),(5,dI i)]) (fun _=>S) (fun _=>True) mx (by kernel_rfl) ?_ ?_
 ·simp(maxDischargeDepth:=12) (maxSteps:=1000000) -implicitDefEqProofs only[go_sem,Nat.reduceAdd,Nat.reduceSub,Nat.reduceMul,Nat.reduceLeDiff,Nat.reduceEqDiff,Nat.reduceGT,Nat.reduceBEq,reduceCtorEq,↓reduceIte,Int.reduceToNat,Int.reduceLE,Int.reduceLT,Int.reduceNe,Int.reduceEq];exact(Nat.div_one x).symm
 ·intro i hi _;simp(maxDischargeDepth:=12) (maxSteps:=1000000) -implicitDefEqProofs only[go_sem,Nat.reduceAdd,Nat.reduceSub,Nat.reduceMul,Nat.reduceLeDiff,Nat.reduceEqDiff,Nat.reduceGT,Nat.reduceBEq,reduceCtorEq,↓reduceIte,Int.reduceToNat,Int.reduceLE,Int.reduceLT,Int.reduceNe,Int.reduceEq];refine⟨fun h=>⟨h,?_,aI (by omega)⟩,fun h=>?_⟩
  ·have:=Nat.div_le_self (x/2^i) 2;have:=Nat.div_le_self x (2^i);rw[Vc,wN (by omega),Ed]
  ·have e:i=k:=by omega
   subst e;rw[VW,YH];exact decide_eq_decide.2 ⟨fun h=>by omega,fun h=>by omega⟩
theorem SS(w0:W0)(k:Nat)(hk:k<64)(S:St):aa Tryz.prog w0 194 [dI (k:Int)] S (fun d S'=>d=dU ((2^k:Nat):Int)∧S'=S):=by
 refine bW [] mx Tryz.func194 rfl rfl (by kernel_rfl) ?_;simp(maxDischargeDepth:=12) (maxSteps:=1000000) -implicitDefEqProofs only[Tryz.ntmps194,go_sem,Nat.reduceAdd,Nat.reduceSub,Nat.reduceMul,Nat.reduceLeDiff,Nat.reduceEqDiff,Nat.reduceGT,Nat.reduceBEq,reduceCtorEq,↓reduceIte,Int.reduceToNat,Int.reduceLE,Int.reduceLT,Int.reduceNe,Int.reduceEq];refine aX [] k [0,3,4] (fun i=>[(3,dU ((2^i:Nat):Int)),(4,dI i)]) (fun _=>S) (fun _=>True) mx (by kernel_rfl) ?_ ?_
 ·simp(maxDischargeDepth:=12) (maxSteps:=1000000) -implicitDefEqProofs only[go_sem,Nat.reduceAdd,Nat.reduceSub,Nat.reduceMul,Nat.reduceLeDiff,Nat.reduceEqDiff,Nat.reduceGT,Nat.reduceBEq,reduceCtorEq,↓reduceIte,Int.reduceToNat,Int.reduceLE,Int.reduceLT,Int.reduceNe,Int.reduceEq];rfl
 ·intro i hi _;simp(maxDischargeDepth:=12) (maxSteps:=1000000) -implicitDefEqProofs only[go_sem,Nat.reduceAdd,Nat.reduceSub,Nat.reduceMul,Nat.reduceLeDiff,Nat.reduceEqDiff,Nat.reduceGT,Nat.reduceBEq,reduceCtorEq,↓reduceIte,Int.reduceToNat,Int.reduceLE,Int.reduceLT,Int.reduceNe,Int.reduceEq];refine⟨fun h=>⟨h,?_,aI (by omega)⟩,fun h=>by rw[show i=k by omega]⟩;have h1:((2^i:Nat):Int)*2=((2^(i+1):Nat):Int):=by rw[YS];push_cast;rfl
  have h2:=uv (show i+1≤63+0 by omega|>fun h=>Nat.lt_succ_of_le h);rw[h1,wN h2]
theorem eT{x y:Nat}(hx:x<18446744073709551616)(hy:y<18446744073709551616):cI .and .u64 (x:Int) (y:Int)=((x &&& y:Nat):Int):=by
 have h1:(BitVec.ofInt 64 (x:Int)).toNat=x:=by rw[Y3,Zg];exact YG hx
 have h2:(BitVec.ofInt 64 (y:Int)).toNat=y:=by rw[Y3,Zg];exact YG hy
 show IntKind.u64.wrap (((BitVec.ofInt 64 (x:Int) &&& BitVec.ofInt 64 (y:Int)).toNat:Nat):Int)=_;rw[BitVec.toNat_and,h1,h2];exact wN (YU Nat.and_le_left hx)
theorem mZ{x y:Nat}(hx:x<18446744073709551616)(hy:y<18446744073709551616):cI .or .u64 (x:Int) (y:Int)=((x ||| y:Nat):Int):=by
 have h1:(BitVec.ofInt 64 (x:Int)).toNat=x:=by rw[Y3,Zg];exact YG hx
 have h2:(BitVec.ofInt 64 (y:Int)).toNat=y:=by rw[Y3,Zg];exact YG hy
 show IntKind.u64.wrap (((BitVec.ofInt 64 (x:Int) ||| BitVec.ofInt 64 (y:Int)).toNat:Nat):Int)=_;rw[BitVec.toNat_or,h1,h2];exact wN (Nat.or_lt_two_pow (n:=64) hx hy)
theorem Ql{x k:Nat}(hk:k<64):((x:Int)).fdiv (2^min k 64)=((x/2^k:Nat):Int):=by
 rw[YW (by omega),Int.fdiv_eq_ediv_of_nonneg _ (by exact Int.le_of_lt (Int.pow_pos (by decide)))]
 push_cast;rfl
theorem KT{x k:Nat}(hx:x<18446744073709551616)(hk:k<64):decide (cI .and .u64 ((x:Int).fdiv (2^min k 64)) 1=1)=x.testBit k:=by
 rw[Ql hk];have:=Nat.div_le_self x (2^k);have e:=eT (x:=x/2^k) (y:=1) (by omega) (by omega);rw[show((1:Nat):Int)=1 from rfl]at e;rw[e,Nat.and_one_is_mod,YH];exact decide_eq_decide.2 ⟨fun h=>by omega,fun h=>by omega⟩
theorem sO{up:List Nat}{a b:Int}:cR up a b=true↔up.length≤64∧0≤a∧a<(up.length:Int)∧0≤b∧b<(up.length:Int)∧bt up a.toNat b.toNat=true:=by
 unfold cR;simp only[W8,decide_eq_true_eq,cB];constructor
 ·rintro⟨⟨h1,h2⟩,h3,h4,h5,h6⟩;exact⟨h3,h1,by omega,h2,by omega,h6⟩
 ·rintro⟨h1,h2,h3,h4,h5,h6⟩;exact⟨⟨h2,h4⟩,h1,by omega,by omega,h6⟩
theorem lG{up:List Nat}{a b:Int}(h:¬(up.length≤64∧0≤a∧a<(up.length:Int)∧0≤b∧b<(up.length:Int))):false=cR up a b:=by
 cases e:cR up a b with
 |false=>rfl
 |true=>rw[sO]at e;exact absurd ⟨e.1,e.2.1,e.2.2.1,e.2.2.2.1,e.2.2.2.2.1⟩ h
theorem FY{up:List Nat}{a b:Int}(h1:up.length≤64)(h2:0≤a)(h3:a<(up.length:Int))(h4:0≤b)(h5:b<(up.length:Int)){x:Nat}(hx:up[a.toNat]? =some x):cR up a b=x.testBit b.toNat:=by
 have e:bt up a.toNat b.toNat=x.testBit b.toNat:=by unfold bt;rw[Xs,hx];rfl
 rw[←e]
 cases q:bt up a.toNat b.toNat with
 |true=>exact sO.2 ⟨h1,h2,h3,h4,h5,q⟩
 |false=>
  cases r:cR up a b with
  |false=>rfl
  |true=>rw[sO,q]at r;exact absurd r.2.2.2.2.2 (by simp)
theorem l5(w0:W0)(up:List Nat)(hu:di up)(a b:Int)(S:St):aa Tryz.prog w0 22 [ec up,dI a,dI b] S (fun d S'=>d=dB (cR up a b)∧S'=S):=by
 refine bW [] mx Tryz.func22 rfl rfl (by kernel_rfl) ?_;simp(maxDischargeDepth:=12) (maxSteps:=1000000) -implicitDefEqProofs only[Tryz.ntmps22,go_sem,Nat.reduceAdd,Nat.reduceSub,Nat.reduceMul,Nat.reduceLeDiff,Nat.reduceEqDiff,Nat.reduceGT,Nat.reduceBEq,reduceCtorEq,↓reduceIte,Int.reduceToNat,Int.reduceLE,Int.reduceLT,Int.reduceNe,Int.reduceEq];refine⟨fun h1=>⟨fun h2=>⟨fun h3=>⟨fun h4=>⟨fun h5=>⟨h2,h3,fun x hx=>?_⟩,fun h5=>lG (by omega)⟩,fun h4=>lG (by omega)⟩,fun h3=>lG (by omega)⟩,fun h2=>lG (by omega)⟩,fun h1=>lG (by omega)⟩;obtain⟨n,rfl⟩:∃n:Nat,b=(n:Int):=⟨b.toNat,by omega⟩;refine ao (Gz _ x n (hu.at_ hx) (by omega) _) ?_;simp(maxDischargeDepth:=12) (maxSteps:=1000000) -implicitDefEqProofs only[go_sem,Nat.reduceAdd,Nat.reduceSub,Nat.reduceMul,Nat.reduceLeDiff,Nat.reduceEqDiff,Nat.reduceGT,Nat.reduceBEq,reduceCtorEq,↓reduceIte,Int.reduceToNat,Int.reduceLE,Int.reduceLT,Int.reduceNe,Int.reduceEq];exact(FY (by omega) h2 h3 h4 h5 hx).symm
theorem tG(w0:W0)(up:List Nat)(hu:di up)(a b:Int)(S:St):aa Tryz.prog w0 110 [ec up,dI a,dI b] S (fun d S'=>d=dB (cR up a b)∧S'=S):=by
 refine bW [] mx Tryz.func110 rfl rfl (by kernel_rfl) ?_;simp(maxDischargeDepth:=12) (maxSteps:=1000000) -implicitDefEqProofs only[Tryz.ntmps110,go_sem,Nat.reduceAdd,Nat.reduceSub,Nat.reduceMul,Nat.reduceLeDiff,Nat.reduceEqDiff,Nat.reduceGT,Nat.reduceBEq,reduceCtorEq,↓reduceIte,Int.reduceToNat,Int.reduceLE,Int.reduceLT,Int.reduceNe,Int.reduceEq];refine ao (tP _ up a _) ?_;simp(maxDischargeDepth:=12) (maxSteps:=1000000) -implicitDefEqProofs only[go_sem,Nat.reduceAdd,Nat.reduceSub,Nat.reduceMul,Nat.reduceLeDiff,Nat.reduceEqDiff,Nat.reduceGT,Nat.reduceBEq,reduceCtorEq,↓reduceIte,Int.reduceToNat,Int.reduceLE,Int.reduceLT,Int.reduceNe,Int.reduceEq];refine⟨fun h1=>ao (tP _ up b _) ?_,fun h1=>?_⟩
 ·rw[oR]at h1;simp(maxDischargeDepth:=12) (maxSteps:=1000000) -implicitDefEqProofs only[go_sem,Nat.reduceAdd,Nat.reduceSub,Nat.reduceMul,Nat.reduceLeDiff,Nat.reduceEqDiff,Nat.reduceGT,Nat.reduceBEq,reduceCtorEq,↓reduceIte,Int.reduceToNat,Int.reduceLE,Int.reduceLT,Int.reduceNe,Int.reduceEq];refine⟨fun h2=>?_,fun h2=>?_⟩
  ·rw[oR]at h2;refine⟨h1.2.1,h1.2.2,fun x hx=>⟨h2.2.1,?_⟩⟩;obtain⟨n,rfl⟩:∃n:Nat,b=(n:Int):=⟨b.toNat,by omega⟩;have e:=FY h1.1 h1.2.1 h1.2.2 h2.2.1 h2.2.2 hx;rw[e,YO,←KT (hu.at_ hx) (by omega)]
  ·exact lG fun h=>by rw[vU,decide_eq_false_iff_not]at h2;exact h2 ⟨h.1,h.2.2.2.1,h.2.2.2.2⟩
 ·exact lG fun h=>by rw[vU,decide_eq_false_iff_not]at h1;exact h1 ⟨h.1,h.2.1,h.2.2.1⟩
theorem tR(w0:W0)(up:List Nat)(hu:di up)(a:Nat)(ha:a<up.length)(hl:up.length≤64)(S:St):aa Tryz.prog w0 143 [ec up,dI (a:Int)] S (fun d S'=>d=dU ((bJ up a:Nat):Int)∧S'=S):=by
 have hw:∀x,up[a]? =some x→bJ up a=x%2^up.length:=fun x hx=>by
  unfold bJ;rw[Xs,hx];rfl
 refine bW [] mx Tryz.func143 rfl rfl (by kernel_rfl) ?_;simp(maxDischargeDepth:=12) (maxSteps:=1000000) -implicitDefEqProofs only[Tryz.ntmps143,go_sem,Nat.reduceAdd,Nat.reduceSub,Nat.reduceMul,Nat.reduceLeDiff,Nat.reduceEqDiff,Nat.reduceGT,Nat.reduceBEq,reduceCtorEq,↓reduceIte,Int.reduceToNat,Int.reduceLE,Int.reduceLT,Int.reduceNe,Int.reduceEq];refine⟨fun h=>⟨ha,fun x hx=>?_⟩,fun h=>⟨ha,fun x hx=>?_⟩⟩
 ·have:=hu.at_ hx;rw[hw x hx,show up.length=64 by omega];exact(YG (show x<2^64 from this)).symm
 ·have hlt:up.length<64:=by omega
  have h1:=uv hlt;have h2:0<2^up.length:=Y0 _;have e:(1:Int)*2^min up.length 64=((2^up.length:Nat):Int):=by rw[YW (by omega),Int.one_mul];push_cast;rfl
  have e2:((2^up.length:Nat):Int)-1=((2^up.length-1:Nat):Int):=by omega
  rw[e,wN h1,e2,wN (by omega),eT (hu.at_ hx) (by omega),Nat.and_two_pow_sub_one_eq_mod,hw x hx]
theorem ed(up:List Nat)(a b:Nat):cR up (a:Int) (b:Int)=cS up a b:=by
 unfold cR;rw[YO,YO];simp
theorem jx{up:List Nat}{a i:Nat}(h:i≤64):fF up a i<18446744073709551616:=
 Yk (DH up a i) (Nat.pow_le_pow_right (by omega) h)
theorem KW{i:Nat}(h:i<64):IntKind.u64.wrap (1*2^min i 64)=((2^i:Nat):Int):=by
 have e:(1:Int)*2^min i 64=((2^i:Nat):Int):=by rw[YW (by omega),Int.one_mul];push_cast;rfl
 rw[e,wN (uv h)]
theorem K8(w0:W0)(up:List Nat)(hu:di up)(a:Nat)(hl:up.length≤64)(S:St):aa Tryz.prog w0 147 [ec up,dI (a:Int)] S (fun d S'=>d=dU ((cm up a:Nat):Int)∧S'=S):=by
 refine bW [] mx Tryz.func147 rfl rfl (by kernel_rfl) ?_;simp(maxDischargeDepth:=12) (maxSteps:=1000000) -implicitDefEqProofs only[Tryz.ntmps147,go_sem,Nat.reduceAdd,Nat.reduceSub,Nat.reduceMul,Nat.reduceLeDiff,Nat.reduceEqDiff,Nat.reduceGT,Nat.reduceBEq,reduceCtorEq,↓reduceIte,Int.reduceToNat,Int.reduceLE,Int.reduceLT,Int.reduceNe,Int.reduceEq];refine aX [] up.length [0,1,5,8,9] (fun i=>[(5,dU ((fF up a i:Nat):Int)),(9,dI i)]) (fun _=>S) (fun _=>True) mx (by kernel_rfl) ?_ ?_
 ·simp(maxDischargeDepth:=12) (maxSteps:=1000000) -implicitDefEqProofs only[go_sem,Nat.reduceAdd,Nat.reduceSub,Nat.reduceMul,Nat.reduceLeDiff,Nat.reduceEqDiff,Nat.reduceGT,Nat.reduceBEq,reduceCtorEq,↓reduceIte,Int.reduceToNat,Int.reduceLE,Int.reduceLT,Int.reduceNe,Int.reduceEq];rfl
 ·intro i hi _;simp(maxDischargeDepth:=12) (maxSteps:=1000000) -implicitDefEqProofs only[go_sem,Nat.reduceAdd,Nat.reduceSub,Nat.reduceMul,Nat.reduceLeDiff,Nat.reduceEqDiff,Nat.reduceGT,Nat.reduceBEq,reduceCtorEq,↓reduceIte,Int.reduceToNat,Int.reduceLE,Int.reduceLT,Int.reduceNe,Int.reduceEq];refine⟨fun h=>ao (tG _ up hu i a _) ?_,fun h=>by rw[show i=up.length by omega];rfl⟩;simp(maxDischargeDepth:=12) (maxSteps:=1000000) -implicitDefEqProofs only[go_sem,Nat.reduceAdd,Nat.reduceSub,Nat.reduceMul,Nat.reduceLeDiff,Nat.reduceEqDiff,Nat.reduceGT,Nat.reduceBEq,reduceCtorEq,↓reduceIte,Int.reduceToNat,Int.reduceLE,Int.reduceLT,Int.reduceNe,Int.reduceEq];have e:=ld up a i;rw[ed];refine⟨fun q=>⟨h,?_,aI (by omega)⟩,fun q=>⟨h,?_,aI (by omega)⟩⟩
  ·rw[q,if_pos rfl]at e;rw[KW (by omega),mZ (jx (by omega)) (uv (by omega)),←e]
  ·rw[q]at e;rw[e];rfl
theorem Qr(w0:W0)(up:List Nat)(hu:di up)(a:Nat)(hl:up.length≤64)(S:St):aa Tryz.prog w0 175 [ec up,dI (a:Int)] S (fun d S'=>d=dU ((cm up a:Nat):Int)∧S'=S):=by
 refine bW [] mx Tryz.func175 rfl rfl (by kernel_rfl) ?_;simp(maxDischargeDepth:=12) (maxSteps:=1000000) -implicitDefEqProofs only[Tryz.ntmps175,go_sem,Nat.reduceAdd,Nat.reduceSub,Nat.reduceMul,Nat.reduceLeDiff,Nat.reduceEqDiff,Nat.reduceGT,Nat.reduceBEq,reduceCtorEq,↓reduceIte,Int.reduceToNat,Int.reduceLE,Int.reduceLT,Int.reduceNe,Int.reduceEq];refine aX [] up.length [0,1,5,6] (fun i=>[(5,dU ((fF up a i:Nat):Int)),(6,dI i)]) (fun _=>S) (fun _=>True) mx (by kernel_rfl) ?_ ?_
 ·simp(maxDischargeDepth:=12) (maxSteps:=1000000) -implicitDefEqProofs only[go_sem,Nat.reduceAdd,Nat.reduceSub,Nat.reduceMul,Nat.reduceLeDiff,Nat.reduceEqDiff,Nat.reduceGT,Nat.reduceBEq,reduceCtorEq,↓reduceIte,Int.reduceToNat,Int.reduceLE,Int.reduceLT,Int.reduceNe,Int.reduceEq];rfl
 ·intro i hi _;simp(maxDischargeDepth:=12) (maxSteps:=1000000) -implicitDefEqProofs only[go_sem,Nat.reduceAdd,Nat.reduceSub,Nat.reduceMul,Nat.reduceLeDiff,Nat.reduceEqDiff,Nat.reduceGT,Nat.reduceBEq,reduceCtorEq,↓reduceIte,Int.reduceToNat,Int.reduceLE,Int.reduceLT,Int.reduceNe,Int.reduceEq];refine⟨fun h=>ao (l5 _ up hu i a _) ?_,fun h=>by rw[show i=up.length by omega];rfl⟩;simp(maxDischargeDepth:=12) (maxSteps:=1000000) -implicitDefEqProofs only[go_sem,Nat.reduceAdd,Nat.reduceSub,Nat.reduceMul,Nat.reduceLeDiff,Nat.reduceEqDiff,Nat.reduceGT,Nat.reduceBEq,reduceCtorEq,↓reduceIte,Int.reduceToNat,Int.reduceLE,Int.reduceLT,Int.reduceNe,Int.reduceEq];have e:=AI up a i;rw[ed];refine⟨fun q=>ao (SS _ i (by omega) _) ?_,fun q=>⟨h,?_,aI (by omega)⟩⟩
  ·rw[q,if_pos rfl]at e;have h1:=jx (up:=up) (a:=a) (show i+1≤64 by omega);simp(maxDischargeDepth:=12) (maxSteps:=1000000) -implicitDefEqProofs only[go_sem,Nat.reduceAdd,Nat.reduceSub,Nat.reduceMul,Nat.reduceLeDiff,Nat.reduceEqDiff,Nat.reduceGT,Nat.reduceBEq,reduceCtorEq,↓reduceIte,Int.reduceToNat,Int.reduceLE,Int.reduceLT,Int.reduceNe,Int.reduceEq];refine⟨h,?_,aI (by omega)⟩;have e2:((fF up a i:Nat):Int)+((2^i:Nat):Int)=((fF up a (i+1):Nat):Int):=by rw[e];push_cast;rfl
   rw[e2,wN h1]
  ·rw[q]at e;rw[e];rfl
theorem I6(w0:W0)(up:List Nat)(hu:di up)(hl:up.length≤64)(S:St):aa Tryz.prog w0 142 [ec up] S (fun d S'=>d=ec ((List.range up.length).map (cm up))∧S'=S):=by
 refine bW [] mx Tryz.func142 rfl rfl (by kernel_rfl) ?_;simp(maxDischargeDepth:=12) (maxSteps:=1000000) -implicitDefEqProofs only[Tryz.ntmps142,go_sem,Nat.reduceAdd,Nat.reduceSub,Nat.reduceMul,Nat.reduceLeDiff,Nat.reduceEqDiff,Nat.reduceGT,Nat.reduceBEq,reduceCtorEq,↓reduceIte,Int.reduceToNat,Int.reduceLE,Int.reduceLT,Int.reduceNe,Int.reduceEq];refine nB 3 1 rfl (by omega) fun l=>?_;refine aX [] up.length [0,3,4] (fun i=>[(3,.acc l.n i),(4,dI i)]) (fun i=>⟨S.box,(l.n,.arr 1 (((List.range i).map (cm up)).map fun x:Nat=>dU (x:Int)))::S.acc⟩) (fun _=>True) mx (by kernel_rfl) ?_ ?_
 ·simp(maxDischargeDepth:=12) (maxSteps:=1000000) -implicitDefEqProofs only[go_sem,Nat.reduceAdd,Nat.reduceSub,Nat.reduceMul,Nat.reduceLeDiff,Nat.reduceEqDiff,Nat.reduceGT,Nat.reduceBEq,reduceCtorEq,↓reduceIte,Int.reduceToNat,Int.reduceLE,Int.reduceLT,Int.reduceNe,Int.reduceEq];exact .refl _
 ·intro i hi _;simp(maxDischargeDepth:=12) (maxSteps:=1000000) -implicitDefEqProofs only[go_sem,Nat.reduceAdd,Nat.reduceSub,Nat.reduceMul,Nat.reduceLeDiff,Nat.reduceEqDiff,Nat.reduceGT,Nat.reduceBEq,reduceCtorEq,↓reduceIte,Int.reduceToNat,Int.reduceLE,Int.reduceLT,Int.reduceNe,Int.reduceEq];refine⟨fun h=>ao (Qr _ up hu i hl _) ?_,fun h=>?_⟩
  ·have e:(List.range (i+1)).map (cm up)=(List.range i).map (cm up)++[cm up i]:=by rw[YZ,Xw];rfl
   have hm8:maxLen=9223372036854775807:=rfl;have hlr:(List.range i).length=i:=List.length_range;simp(maxDischargeDepth:=12) (maxSteps:=1000000) -implicitDefEqProofs only[go_sem,Nat.reduceAdd,Nat.reduceSub,Nat.reduceMul,Nat.reduceLeDiff,Nat.reduceEqDiff,Nat.reduceGT,Nat.reduceBEq,reduceCtorEq,↓reduceIte,Int.reduceToNat,Int.reduceLE,Int.reduceLT,Int.reduceNe,Int.reduceEq];refine⟨hlr,by omega,by omega,h,⟨?_,aI (by omega)⟩,?_⟩
   ·rw[hlr];exact .refl _
   ·rw[Xw,Xw];exact .refl _
  ·have e:i=up.length:=by omega
   subst e;exact⟨by simp,.refl _⟩
theorem NF(w0:W0)(l m:List Nat)(h0:l.length≤4611686018427387904)(S:St):aa Tryz.prog w0 108 [ec l,ec m] S (fun d S'=>d=dB (decide (l=m))∧S'=S):=by
 refine bW [] mx Tryz.func108 rfl rfl (by kernel_rfl) ?_;simp(maxDischargeDepth:=12) (maxSteps:=1000000) -implicitDefEqProofs only[Tryz.ntmps108,go_sem,Nat.reduceAdd,Nat.reduceSub,Nat.reduceMul,Nat.reduceLeDiff,Nat.reduceEqDiff,Nat.reduceGT,Nat.reduceBEq,reduceCtorEq,↓reduceIte,Int.reduceToNat,Int.reduceLE,Int.reduceLT,Int.reduceNe,Int.reduceEq];refine⟨fun h1 h2=>h1 (congrArg List.length h2),fun h=>?_⟩;have h:l.length=m.length:=by omega
 refine aX [] l.length [0,1,12,13] (fun i=>[(13,dI i)]) (fun i=>S) (fun i=>∀j,j<i→l[j]? =m[j]?) mx (by kernel_rfl) ?_ ?_
 ·simp(maxDischargeDepth:=12) (maxSteps:=1000000) -implicitDefEqProofs only[go_sem,Nat.reduceAdd,Nat.reduceSub,Nat.reduceMul,Nat.reduceLeDiff,Nat.reduceEqDiff,Nat.reduceGT,Nat.reduceBEq,reduceCtorEq,↓reduceIte,Int.reduceToNat,Int.reduceLE,Int.reduceLT,Int.reduceNe,Int.reduceEq];intro j hj;omega
 ·intro i hi hinv;simp(maxDischargeDepth:=12) (maxSteps:=1000000) -implicitDefEqProofs only[go_sem,Nat.reduceAdd,Nat.reduceSub,Nat.reduceMul,Nat.reduceLeDiff,Nat.reduceEqDiff,Nat.reduceGT,Nat.reduceBEq,reduceCtorEq,↓reduceIte,Int.reduceToNat,Int.reduceLE,Int.reduceLT,Int.reduceNe,Int.reduceEq];refine⟨fun hlt=>⟨hlt,fun x hx=>⟨by omega,fun y hy=>⟨fun hne e=>?_,fun he=>⟨hlt,fun j hj=>?_,aI (by omega)⟩⟩⟩⟩,fun hge=>?_⟩
  ·rw[e,hy]at hx;exact hne (XG hx).symm
  ·by_cases e:j=i
   ·subst e;rw[hx,hy,Decidable.not_not.1 he]
   ·exact hinv j (by omega)
  ·refine X4 fun j=>?_;by_cases hj:j<l.length
   ·exact hinv j (by omega)
   ·rw[Xe (by omega),Xe (by omega)]
theorem Ld(w0:W0)(up:List Nat)(hu:di up)(hl:up.length≤64)(a b:Nat)(S:St):aa Tryz.prog w0 101 [ec up,dI (a:Int),dI (b:Int)] S (fun d S'=>d=dI (jF (cS up) up.length a b)∧S'=S):=by
 refine bW [] mx Tryz.func101 rfl rfl (by kernel_rfl) ?_;simp(maxDischargeDepth:=12) (maxSteps:=1000000) -implicitDefEqProofs only[Tryz.ntmps101,go_sem,Nat.reduceAdd,Nat.reduceSub,Nat.reduceMul,Nat.reduceLeDiff,Nat.reduceEqDiff,Nat.reduceGT,Nat.reduceBEq,reduceCtorEq,↓reduceIte,Int.reduceToNat,Int.reduceLE,Int.reduceLT,Int.reduceNe,Int.reduceEq];refine aX [] up.length [0,1,2,7] (fun i=>[(7,dI i)]) (fun _=>S) (fun i=>∀c,c<i→¬GM (cS up) up.length a b c) mx (by kernel_rfl) ?_ ?_
 ·simp(maxDischargeDepth:=12) (maxSteps:=1000000) -implicitDefEqProofs only[go_sem,Nat.reduceAdd,Nat.reduceSub,Nat.reduceMul,Nat.reduceLeDiff,Nat.reduceEqDiff,Nat.reduceGT,Nat.reduceBEq,reduceCtorEq,↓reduceIte,Int.reduceToNat,Int.reduceLE,Int.reduceLT,Int.reduceNe,Int.reduceEq];intro c hc;omega
 ·intro i hi hinv;simp(maxDischargeDepth:=12) (maxSteps:=1000000) -implicitDefEqProofs only[go_sem,Nat.reduceAdd,Nat.reduceSub,Nat.reduceMul,Nat.reduceLeDiff,Nat.reduceEqDiff,Nat.reduceGT,Nat.reduceBEq,reduceCtorEq,↓reduceIte,Int.reduceToNat,Int.reduceLE,Int.reduceLT,Int.reduceNe,Int.reduceEq];refine⟨fun h=>ao (l5 _ up hu a i _) ?_,fun h=>?_⟩
  ·simp(maxDischargeDepth:=12) (maxSteps:=1000000) -implicitDefEqProofs only[go_sem,Nat.reduceAdd,Nat.reduceSub,Nat.reduceMul,Nat.reduceLeDiff,Nat.reduceEqDiff,Nat.reduceGT,Nat.reduceBEq,reduceCtorEq,↓reduceIte,Int.reduceToNat,Int.reduceLE,Int.reduceLT,Int.reduceNe,Int.reduceEq,ed];refine⟨fun h1=>ao (l5 _ up hu b i _) ?_,fun h1=>?_⟩
   all_goals
    try (simp(maxDischargeDepth:=12) (maxSteps:=1000000) -implicitDefEqProofs only[go_sem,Nat.reduceAdd,Nat.reduceSub,Nat.reduceMul,Nat.reduceLeDiff,Nat.reduceEqDiff,Nat.reduceGT,Nat.reduceBEq,reduceCtorEq,↓reduceIte,Int.reduceToNat,Int.reduceLE,Int.reduceLT,Int.reduceNe,Int.reduceEq,ed])
    refine fc [] [0,1,2,7,8,9] (σ:=Nat×Bool) (fun s=>[(8,dB s.2),(9,dI s.1)]) (fun _=>S) (fun s=>s.1≤up.length∧(s.2=true↔cS up a i=true∧cS up b i=true∧∀d,d<s.1→cS up a d=true→cS up b d=true→cS up i d=true)) (fun s=>up.length-s.1) (0,cS up a i&&cS up b i) mx (by kernel_rfl) ⟨⟨Xl _,?_⟩,?_⟩ ?_
    ·dsimp only;rw[W8];exact⟨fun h=>⟨h.1,h.2,fun d hd=>by omega⟩,fun h=>⟨h.1,h.2.1⟩⟩
    ·try (simp(maxDischargeDepth:=12) (maxSteps:=1000000) -implicitDefEqProofs only[go_sem,Nat.reduceAdd,Nat.reduceSub,Nat.reduceMul,Nat.reduceLeDiff,Nat.reduceEqDiff,Nat.reduceGT,Nat.reduceBEq,reduceCtorEq,↓reduceIte,Int.reduceToNat,Int.reduceLE,Int.reduceLT,Int.reduceNe,Int.reduceEq,h1])
    ·rintro⟨d,f⟩ ⟨hd,hf⟩;dsimp only at hd hf
     have hT:f=true→¬d<up.length→(i:Int)=jF (cS up) up.length a b:=fun q q2=>by
      obtain⟨k1,k2,k3⟩:=hf.1 q;exact(zi hinv ⟨h,k1,k2,fun d' hd'=>k3 d' (by omega)⟩).symm
     have hF:f=false→i<up.length∧(∀(c:Nat),c<i+1→¬GM (cS up) up.length a b c)∧IntKind.i64.wrap ((i:Int)+1)=((i+1:Nat):Int):=fun q=>by
      refine⟨h,fun c hc hj=>?_,aI (by omega)⟩;by_cases e:c=i
      ·subst e;have:=hf.2 ⟨hj.2.1,hj.2.2.1,fun d' hd'=>hj.2.2.2 d' (by omega)⟩;rw[q]at this;cases this
      ·exact hinv c (by omega) hj
     simp(maxDischargeDepth:=12) (maxSteps:=1000000) -implicitDefEqProofs only[go_sem,Nat.reduceAdd,Nat.reduceSub,Nat.reduceMul,Nat.reduceLeDiff,Nat.reduceEqDiff,Nat.reduceGT,Nat.reduceBEq,reduceCtorEq,↓reduceIte,Int.reduceToNat,Int.reduceLE,Int.reduceLT,Int.reduceNe,Int.reduceEq];refine⟨fun hlt=>⟨fun q=>ao (l5 _ up hu a d _) ?_,fun q=>⟨fun q'=>absurd (q.symm.trans q') (by simp),hF⟩⟩,fun hge=>⟨fun q=>hT q hge,hF⟩⟩;simp(maxDischargeDepth:=12) (maxSteps:=1000000) -implicitDefEqProofs only[go_sem,Nat.reduceAdd,Nat.reduceSub,Nat.reduceMul,Nat.reduceLeDiff,Nat.reduceEqDiff,Nat.reduceGT,Nat.reduceBEq,reduceCtorEq,↓reduceIte,Int.reduceToNat,Int.reduceLE,Int.reduceLT,Int.reduceNe,Int.reduceEq,ed]
     have step:∀f':Bool,(f'=true↔(cS up a d=true→cS up b d=true→cS up i d=true))→(f'=true↔cS up a i=true∧cS up b i=true∧∀d',d'<d+1→cS up a d'=true→cS up b d'=true→cS up i d'=true):=fun f' hf'=>by
      obtain⟨k1,k2,k3⟩:=hf.1 q;rw[hf'];constructor
      ·intro hq;refine⟨k1,k2,fun d' hd'=>?_⟩;by_cases e:d'=d
       ·subst e;exact hq
       ·exact k3 d' (by omega)
      ·intro hq;exact hq.2.2 d (by omega)
     refine⟨fun g1=>ao (l5 _ up hu b d _) ?_,fun g1=>⟨(d+1,true),⟨by show d+1≤_;omega,step true ⟨fun _ g=>absurd (g1.symm.trans g) (by simp),fun _=>rfl⟩⟩,by show up.length-(d+1)<_;omega,rfl,aI (by omega)⟩⟩;simp(maxDischargeDepth:=12) (maxSteps:=1000000) -implicitDefEqProofs only[go_sem,Nat.reduceAdd,Nat.reduceSub,Nat.reduceMul,Nat.reduceLeDiff,Nat.reduceEqDiff,Nat.reduceGT,Nat.reduceBEq,reduceCtorEq,↓reduceIte,Int.reduceToNat,Int.reduceLE,Int.reduceLT,Int.reduceNe,Int.reduceEq,ed];refine⟨fun g2=>⟨(d+1,true),⟨by show d+1≤_;omega,step true ⟨fun _ _ g=>absurd (g2.symm.trans g) (by simp),fun _=>rfl⟩⟩,by show up.length-(d+1)<_;omega,rfl,aI (by omega)⟩,fun g2=>ao (l5 _ up hu i d _) ?_⟩;simp(maxDischargeDepth:=12) (maxSteps:=1000000) -implicitDefEqProofs only[go_sem,Nat.reduceAdd,Nat.reduceSub,Nat.reduceMul,Nat.reduceLeDiff,Nat.reduceEqDiff,Nat.reduceGT,Nat.reduceBEq,reduceCtorEq,↓reduceIte,Int.reduceToNat,Int.reduceLE,Int.reduceLT,Int.reduceNe,Int.reduceEq,ed];exact⟨(d+1,cS up i d),⟨by show d+1≤_;omega,step _ ⟨fun g _ _=>g,fun g=>g g1 g2⟩⟩,by show up.length-(d+1)<_;omega,rfl,aI (by omega)⟩
  ·have e:i=up.length:=by omega
   subst e;exact(zh fun d hd=>hinv d hd.1 hd).symm
theorem CO(up:List Nat)(hl:up.length≤64):di ((List.range up.length).map (cm up)):=by
 intro x hx;obtain⟨a,_,rfl⟩:=Xk.1 hx;exact jx hl
theorem QP(w0:W0)(up:List Nat)(hu:di up)(hl:up.length≤64)(a b:Nat)(S:St):aa Tryz.prog w0 102 [ec up,dI (a:Int),dI (b:Int)] S (fun d S'=>d=dI (jF (fun x y=>cS up y x) up.length a b)∧S'=S):=by
 have e:jF (fun x y=>cS up y x) up.length a b=jF (cS ((List.range up.length).map (cm up))) ((List.range up.length).map (cm up)).length a b:=by
  rw[show cS ((List.range up.length).map (cm up))=fun x y=>cS up y x from funext fun x=>funext fun y=>BY hl x y];simp
 have hlen:((List.range up.length).map (cm up)).length=up.length:=by simp
 rw[e];refine bW [] mx Tryz.func102 rfl rfl (by kernel_rfl) ?_;simp(maxDischargeDepth:=12) (maxSteps:=1000000) -implicitDefEqProofs only[Tryz.ntmps102,go_sem,Nat.reduceAdd,Nat.reduceSub,Nat.reduceMul,Nat.reduceLeDiff,Nat.reduceEqDiff,Nat.reduceGT,Nat.reduceBEq,reduceCtorEq,↓reduceIte,Int.reduceToNat,Int.reduceLE,Int.reduceLT,Int.reduceNe,Int.reduceEq];refine⟨fun h=>by omega,fun h=>ao (I6 _ up hu hl _) ?_⟩;simp(maxDischargeDepth:=12) (maxSteps:=1000000) -implicitDefEqProofs only[go_sem,Nat.reduceAdd,Nat.reduceSub,Nat.reduceMul,Nat.reduceLeDiff,Nat.reduceEqDiff,Nat.reduceGT,Nat.reduceBEq,reduceCtorEq,↓reduceIte,Int.reduceToNat,Int.reduceLE,Int.reduceLT,Int.reduceNe,Int.reduceEq];refine ao (Ld _ _ (CO up hl) (by omega) a b _) ?_;simp(maxDischargeDepth:=12) (maxSteps:=1000000) -implicitDefEqProofs only[go_sem,Nat.reduceAdd,Nat.reduceSub,Nat.reduceMul,Nat.reduceLeDiff,Nat.reduceEqDiff,Nat.reduceGT,Nat.reduceBEq,reduceCtorEq,↓reduceIte,Int.reduceToNat,Int.reduceLE,Int.reduceLT,Int.reduceNe,Int.reduceEq]
@[go_sem] def nD (l:List Nat):List DV:=l.map fun x:Nat=>dU (x:Int)
theorem QG{n x:Nat}(hn:n≤64)(h:x<2^n):x<18446744073709551616:=Yk h (Nat.pow_le_pow_right (by omega) hn)
theorem Og(w0:W0)(up:List Nat)(hu:di up)(hl:up.length≤64)(S:St):aa Tryz.prog w0 109 [ec up] S (fun d S'=>d=ec (eC up)∧S'=S):=by
 have hm8:maxLen=9223372036854775807:=rfl;refine bW [] mx Tryz.func109 rfl rfl (by kernel_rfl) ?_;simp(maxDischargeDepth:=12) (maxSteps:=1000000) -implicitDefEqProofs only[Tryz.ntmps109,go_sem,Nat.reduceAdd,Nat.reduceSub,Nat.reduceMul,Nat.reduceLeDiff,Nat.reduceEqDiff,Nat.reduceGT,Nat.reduceBEq,reduceCtorEq,↓reduceIte,Int.reduceToNat,Int.reduceLE,Int.reduceLT,Int.reduceNe,Int.reduceEq];refine⟨fun h=>by omega,fun _=>?_⟩;refine nB 3 1 rfl (by omega) fun l=>?_;refine aX [] up.length [0,3,11,12] (fun i=>[(3,.acc l.n i),(12,dI i)]) (fun i=>⟨S.box,(l.n,.arr 1 (nD ((iV up).take i)))::S.acc⟩) (fun _=>True) mx (by kernel_rfl) ?_ ?_
 ·simp(maxDischargeDepth:=12) (maxSteps:=1000000) -implicitDefEqProofs only[go_sem,Nat.reduceAdd,Nat.reduceSub,Nat.reduceMul,Nat.reduceLeDiff,Nat.reduceEqDiff,Nat.reduceGT,Nat.reduceBEq,reduceCtorEq,↓reduceIte,Int.reduceToNat,Int.reduceLE,Int.reduceLT,Int.reduceNe,Int.reduceEq]
 ·intro i hi _;simp(maxDischargeDepth:=12) (maxSteps:=1000000) -implicitDefEqProofs only[go_sem,Nat.reduceAdd,Nat.reduceSub,Nat.reduceMul,Nat.reduceLeDiff,Nat.reduceEqDiff,Nat.reduceGT,Nat.reduceBEq,reduceCtorEq,↓reduceIte,Int.reduceToNat,Int.reduceLE,Int.reduceLT,Int.reduceNe,Int.reduceEq];refine⟨fun h=>eu (tR _ up hu i h hl _) ?_,fun h=>?_⟩
  ·have hlo:((iV up).take i).length=i:=by rw[XT,fk];omega
   have hwl:bJ up i<18446744073709551616:=QG hl (Nat.mod_lt _ (Y0 _))
   have ho:(iV up).take (i+1)=(iV up).take i++[bJ up i ||| 2^i]:=by
    rw[XZ];congr 1;unfold iV;rw[Xd,X3 h];rfl
   have hb:cI .or .u64 (bJ up i:Int) (IntKind.u64.wrap (1*2^min i 64))=((bJ up i ||| 2^i:Nat):Int):=by rw[KW (by omega),mZ hwl (uv (by omega))]
   simp(maxDischargeDepth:=12) (maxSteps:=1000000) -implicitDefEqProofs only[go_sem,Nat.reduceAdd,Nat.reduceSub,Nat.reduceMul,Nat.reduceLeDiff,Nat.reduceEqDiff,Nat.reduceGT,Nat.reduceBEq,reduceCtorEq,↓reduceIte,Int.reduceToNat,Int.reduceLE,Int.reduceLT,Int.reduceNe,Int.reduceEq,hlo,hb];have hmn:min i (iV up).length=i:=by rw[fk];omega
   refine⟨hmn,by omega,by omega,h,⟨?_,aI (by omega)⟩,?_⟩
   ·rw[hmn];exact .refl _
   ·rw[ho,Xw];exact .refl _
  ·have e:i=up.length:=by omega
   subst e;rw[XF (by rw[fk];exact Xa _)];refine aX [] up.length [3,26,27] (fun c=>[(27,dI c)]) (fun c=>⟨S.box,(l.n,.arr 1 (nD (bR up c)))::S.acc⟩) (fun _=>True) mx (by kernel_rfl) ?_ ?_
   ·simp(maxDischargeDepth:=12) (maxSteps:=1000000) -implicitDefEqProofs only[go_sem,Nat.reduceAdd,Nat.reduceSub,Nat.reduceMul,Nat.reduceLeDiff,Nat.reduceEqDiff,Nat.reduceGT,Nat.reduceBEq,reduceCtorEq,↓reduceIte,Int.reduceToNat,Int.reduceLE,Int.reduceLT,Int.reduceNe,Int.reduceEq];exact .refl _
   ·intro c hc _;simp(maxDischargeDepth:=12) (maxSteps:=1000000) -implicitDefEqProofs only[go_sem,Nat.reduceAdd,Nat.reduceSub,Nat.reduceMul,Nat.reduceLeDiff,Nat.reduceEqDiff,Nat.reduceGT,Nat.reduceBEq,reduceCtorEq,↓reduceIte,Int.reduceToNat,Int.reduceLE,Int.reduceLT,Int.reduceNe,Int.reduceEq];refine⟨fun hlt=>?_,fun hge=>?_⟩
    ·refine aX [] up.length [3,5,26,27,31,32] (fun a=>[(32,dI a)]) (fun a=>⟨S.box,(l.n,.arr 1 (nD (dX c (bR up c) a)))::S.acc⟩) (fun _=>True) mx (by kernel_rfl) ?_ ?_
     ·simp(maxDischargeDepth:=12) (maxSteps:=1000000) -implicitDefEqProofs only[go_sem,Nat.reduceAdd,Nat.reduceSub,Nat.reduceMul,Nat.reduceLeDiff,Nat.reduceEqDiff,Nat.reduceGT,Nat.reduceBEq,reduceCtorEq,↓reduceIte,Int.reduceToNat,Int.reduceLE,Int.reduceLT,Int.reduceNe,Int.reduceEq];exact .refl _
     ·intro a ha _;have hrl:(dX c (bR up c) a).length=up.length:=by rw[lu,dp]
      simp(maxDischargeDepth:=12) (maxSteps:=1000000) -implicitDefEqProofs only[go_sem,Nat.reduceAdd,Nat.reduceSub,Nat.reduceMul,Nat.reduceLeDiff,Nat.reduceEqDiff,Nat.reduceGT,Nat.reduceBEq,reduceCtorEq,↓reduceIte,Int.reduceToNat,Int.reduceLE,Int.reduceLT,Int.reduceNe,Int.reduceEq,hrl];have hrb:∀x,x∈dX c (bR up c) a→x<18446744073709551616:=fun x hx=>QG hl (r6 (wW c) a x hx);have hst:=gP c (bR up c) a;refine⟨fun h2=>⟨h2,h2,fun x hx=>?_⟩,fun h2=>?_⟩
      ·have hxb:=hrb x (W7 hx)
       have hb:(cI .and .u64 ((x:Int).fdiv (2^min c 64)) 1=1)↔bt (dX c (bR up c) a) a c=true:=by
        rw[rX hx,←KT hxb (by omega),decide_eq_true_eq]
       unfold lX at hst;refine⟨fun q=>⟨h2,h2,fun y hy=>⟨hlt,hlt,fun z hz=>⟨h2,h2,fun _ _=>⟨h2,aI (by omega),?_⟩⟩⟩⟩,fun q=>⟨h2,aI (by omega),?_⟩⟩
       ·rw[if_pos (hb.1 q),Xs,hy,Xs,hz]at hst;rw[hst,mZ (hrb y (W7 hy)) (hrb z (W7 hz)),List.map_set];exact .refl _
       ·rw[if_neg (fun g=>q (hb.2 g))]at hst;rw[hst];exact .refl _
      ·have e:a=up.length:=by omega
       subst e;refine⟨hlt,aI (by omega),?_⟩;rw[gV];exact .refl _
    ·have e:c=up.length:=by omega
     subst e;exact⟨dp up _,.refl _⟩
theorem Sx(w0:W0)(up:List Nat)(hu:di up)(h0:up.length≤4611686018427387904)(S:St):aa Tryz.prog w0 55 [ec up] S (fun d S'=>d=dB (pB (kA up))∧S'=S):=by
 refine bW [] mx Tryz.func55 rfl rfl (by kernel_rfl) ?_;simp(maxDischargeDepth:=12) (maxSteps:=1000000) -implicitDefEqProofs only[Tryz.ntmps55,go_sem,Nat.reduceAdd,Nat.reduceSub,Nat.reduceMul,Nat.reduceLeDiff,Nat.reduceEqDiff,Nat.reduceGT,Nat.reduceBEq,reduceCtorEq,↓reduceIte,Int.reduceToNat,Int.reduceLE,Int.reduceLT,Int.reduceNe,Int.reduceEq];refine⟨fun h hp=>?_,fun h=>⟨fun h' hp=>?_,fun h'=>?_⟩⟩
 ·have:=hp.pos;omega
 ·have:=hp.le;omega
 have hl:up.length≤64:=by omega
 have hpos:1≤up.length:=by omega
 have hiff:=EP (up:=up) (fun x hx=>hu x hx) hpos hl;rw[hiff];refine aX [] up.length [0,3] (fun a=>[(3,dI a)]) (fun _=>S) (fun a=>∀a',a'<a→∀b,b<64→vM up a' b) mx (by kernel_rfl) ?_ ?_
 ·simp(maxDischargeDepth:=12) (maxSteps:=1000000) -implicitDefEqProofs only[go_sem,Nat.reduceAdd,Nat.reduceSub,Nat.reduceMul,Nat.reduceLeDiff,Nat.reduceEqDiff,Nat.reduceGT,Nat.reduceBEq,reduceCtorEq,↓reduceIte,Int.reduceToNat,Int.reduceLE,Int.reduceLT,Int.reduceNe,Int.reduceEq];intro a' ha';omega
 ·intro a ha hA;simp(maxDischargeDepth:=12) (maxSteps:=1000000) -implicitDefEqProofs only[go_sem,Nat.reduceAdd,Nat.reduceSub,Nat.reduceMul,Nat.reduceLeDiff,Nat.reduceEqDiff,Nat.reduceGT,Nat.reduceBEq,reduceCtorEq,↓reduceIte,Int.reduceToNat,Int.reduceLE,Int.reduceLT,Int.reduceNe,Int.reduceEq];refine⟨fun hla=>?_,fun hge=>?_⟩
  ·have A3:∀b:Nat,((bt up a b=true∧up.length≤b)∨(a=b∧bt up a b=false)∨(bt up a b=true∧a≠b∧bt up b a=true))→¬vM up a b:=by
    rintro b (⟨q1,q2⟩|⟨q1,q2⟩|⟨q1,q2,q3⟩) h
    ·have:=h.lt q1;omega
    ·rw[h.refl q1]at q2;cases q2
    ·rw[h.C8 q1 q2]at q3;cases q3
   refine aX [10] 64 [0,3,4] (fun b=>[(4,dI b)]) (fun _=>S) (fun b=>∀b',b'<b→vM up a b') mx (by kernel_rfl) ?_ ?_
   ·simp(maxDischargeDepth:=12) (maxSteps:=1000000) -implicitDefEqProofs only[go_sem,Nat.reduceAdd,Nat.reduceSub,Nat.reduceMul,Nat.reduceLeDiff,Nat.reduceEqDiff,Nat.reduceGT,Nat.reduceBEq,reduceCtorEq,↓reduceIte,Int.reduceToNat,Int.reduceLE,Int.reduceLT,Int.reduceNe,Int.reduceEq];intro b' hb';omega
   ·intro b hb hB;simp(maxDischargeDepth:=12) (maxSteps:=1000000) -implicitDefEqProofs only[go_sem,Nat.reduceAdd,Nat.reduceSub,Nat.reduceMul,Nat.reduceLeDiff,Nat.reduceEqDiff,Nat.reduceGT,Nat.reduceBEq,reduceCtorEq,↓reduceIte,Int.reduceToNat,Int.reduceLE,Int.reduceLT,Int.reduceNe,Int.reduceEq];refine⟨fun hlb=>⟨hla,fun x hx=>ao (Gz _ x b (hu.at_ hx) (by omega) _) ?_⟩,fun hge=>?_⟩
    ·have hbx:=rX (b:=b) hx;simp(maxDischargeDepth:=12) (maxSteps:=1000000) -implicitDefEqProofs only[go_sem,Nat.reduceAdd,Nat.reduceSub,Nat.reduceMul,Nat.reduceLeDiff,Nat.reduceEqDiff,Nat.reduceGT,Nat.reduceBEq,reduceCtorEq,↓reduceIte,Int.reduceToNat,Int.reduceLE,Int.reduceLT,Int.reduceNe,Int.reduceEq];refine xN (σ:=Bool) [] [0,3,4,5,65] (fun f=>[(65,dB f)]) (fun _=>S) (fun f=>f=true↔((bt up a b=true∧up.length≤b)∨(a=b∧bt up a b=false)∨(bt up a b=true∧a≠b∧bt up b a=true))) mx (by kernel_rfl) ?_ ?_
     ·rw[hbx]
      cases hto:x.testBit b with
      |true=>
       simp(maxDischargeDepth:=12) (maxSteps:=1000000) -implicitDefEqProofs only[go_sem,Nat.reduceAdd,Nat.reduceSub,Nat.reduceMul,Nat.reduceLeDiff,Nat.reduceEqDiff,Nat.reduceGT,Nat.reduceBEq,reduceCtorEq,↓reduceIte,Int.reduceToNat,Int.reduceLE,Int.reduceLT,Int.reduceNe,Int.reduceEq,hto];have st:∀q:¬up.length≤b,∀e:¬a=b,(∃s:Bool,(s=true↔up.length≤b∨¬a=b∧bt up b a=true)∧bt up b a=s):=fun q e=>⟨bt up b a,⟨fun g=> .inr ⟨e,g⟩,fun g=>g.elim (fun g=>absurd g q) (fun g=>g.2)⟩,rfl⟩;refine⟨fun q=>⟨true,⟨fun _=> .inl q,fun _=>rfl⟩,rfl⟩,fun q=>⟨fun e=>⟨fun ne=>absurd e ne,fun _=>⟨false,⟨fun g=>(by cases g),fun g=>g.elim (fun g=>absurd g q) (fun g=>absurd e g.1)⟩,rfl⟩⟩,fun e=>⟨fun _=>⟨by omega,fun y hy=>ao (Gz _ y a (hu.at_ hy) (by omega) _) ?_⟩,fun ne=>absurd e ne⟩⟩⟩;simp(maxDischargeDepth:=12) (maxSteps:=1000000) -implicitDefEqProofs only[go_sem,Nat.reduceAdd,Nat.reduceSub,Nat.reduceMul,Nat.reduceLeDiff,Nat.reduceEqDiff,Nat.reduceGT,Nat.reduceBEq,reduceCtorEq,↓reduceIte,Int.reduceToNat,Int.reduceLE,Int.reduceLT,Int.reduceNe,Int.reduceEq];rw[←rX (b:=a) hy];exact st q e
      |false=>
       simp(maxDischargeDepth:=12) (maxSteps:=1000000) -implicitDefEqProofs only[go_sem,Nat.reduceAdd,Nat.reduceSub,Nat.reduceMul,Nat.reduceLeDiff,Nat.reduceEqDiff,Nat.reduceGT,Nat.reduceBEq,reduceCtorEq,↓reduceIte,Int.reduceToNat,Int.reduceLE,Int.reduceLT,Int.reduceNe,Int.reduceEq,hto];exact⟨fun e=>⟨true,⟨fun _=>e,fun _=>rfl⟩,rfl⟩,fun e=>⟨false,⟨fun g=>(by cases g),fun g=>absurd g e⟩,rfl⟩⟩
     ·intro f hf;simp(maxDischargeDepth:=12) (maxSteps:=1000000) -implicitDefEqProofs only[go_sem,Nat.reduceAdd,Nat.reduceSub,Nat.reduceMul,Nat.reduceLeDiff,Nat.reduceEqDiff,Nat.reduceGT,Nat.reduceBEq,reduceCtorEq,↓reduceIte,Int.reduceToNat,Int.reduceLE,Int.reduceLT,Int.reduceNe,Int.reduceEq];refine⟨fun q hp=>A3 b (hf.1 q) (hp.1 a hla b (by omega)),fun q=>?_⟩;have hno:¬((bt up a b=true∧up.length≤b)∨(a=b∧bt up a b=false)∨(bt up a b=true∧a≠b∧bt up b a=true)):=fun g=>by rw[hf.2 g]at q;cases q
      refine aX [] up.length [0,3,4,5,6] (fun c=>[(6,dI c)]) (fun _=>S) (fun c=>∀c',c'<c→bt up a b=true→bt up b c'=true→bt up a c'=true) mx (by kernel_rfl) ?_ ?_
      ·simp(maxDischargeDepth:=12) (maxSteps:=1000000) -implicitDefEqProofs only[go_sem,Nat.reduceAdd,Nat.reduceSub,Nat.reduceMul,Nat.reduceLeDiff,Nat.reduceEqDiff,Nat.reduceGT,Nat.reduceBEq,reduceCtorEq,↓reduceIte,Int.reduceToNat,Int.reduceLE,Int.reduceLT,Int.reduceNe,Int.reduceEq];intro c hc;omega
      ·intro c hc hC
       have done:(bt up a b=true→∀c',c'<up.length→bt up b c'=true→bt up a c'=true)→((b:Int)<64∧(∀b',b'<b+1→vM up a b')∧IntKind.i64.wrap ((b:Int)+1)=((b+1:Nat):Int)):=fun hq=>by
        refine⟨hlb,fun b' hb'=>?_,aI (by omega)⟩;by_cases e:b'=b
        ·subst e;refine⟨fun g=>?_,fun g=>?_,fun g1 g2=>?_,fun c hc g1 g2=>hq g1 c hc g2⟩
         ·exact Nat.lt_of_not_le fun g2=>hno (.inl ⟨g,g2⟩)
         ·cases h:bt up a b' with
          |true=>rfl
          |false=>exact absurd (.inr (.inl ⟨g,h⟩)) hno
         ·cases h:bt up b' a with
          |false=>rfl
          |true=>exact absurd (.inr (.inr ⟨g1,g2,h⟩)) hno
        ·exact hB b' (by omega)
       rw[hbx]at hC done hno;simp(maxDischargeDepth:=12) (maxSteps:=1000000) -implicitDefEqProofs only[go_sem,Nat.reduceAdd,Nat.reduceSub,Nat.reduceMul,Nat.reduceLeDiff,Nat.reduceEqDiff,Nat.reduceGT,Nat.reduceBEq,reduceCtorEq,↓reduceIte,Int.reduceToNat,Int.reduceLE,Int.reduceLT,Int.reduceNe,Int.reduceEq];refine⟨fun hlc=>⟨fun q5=>⟨?_,fun y hy=>ao (Gz _ y c (hu.at_ hy) (by omega) _) ?_⟩,fun q5=>?_⟩,fun hge=>?_⟩
       ·exact Nat.lt_of_not_le fun g2=>hno (.inl ⟨q5,g2⟩)
       ·have hby:=rX (b:=c) hy;simp(maxDischargeDepth:=12) (maxSteps:=1000000) -implicitDefEqProofs only[go_sem,Nat.reduceAdd,Nat.reduceSub,Nat.reduceMul,Nat.reduceLeDiff,Nat.reduceEqDiff,Nat.reduceGT,Nat.reduceBEq,reduceCtorEq,↓reduceIte,Int.reduceToNat,Int.reduceLE,Int.reduceLT,Int.reduceNe,Int.reduceEq];refine⟨fun q6=>⟨hla,fun z hz=>ao (Gz _ z c (hu.at_ hz) (by omega) _) ?_⟩,fun q6=>⟨hlc,fun c' hc' g1 g2=>?_,aI (by omega)⟩⟩
        ·have hbz:=rX (b:=c) hz;simp(maxDischargeDepth:=12) (maxSteps:=1000000) -implicitDefEqProofs only[go_sem,Nat.reduceAdd,Nat.reduceSub,Nat.reduceMul,Nat.reduceLeDiff,Nat.reduceEqDiff,Nat.reduceGT,Nat.reduceBEq,reduceCtorEq,↓reduceIte,Int.reduceToNat,Int.reduceLE,Int.reduceLT,Int.reduceNe,Int.reduceEq];refine⟨fun q7=>⟨hlc,fun c' hc' g1 g2=>?_,aI (by omega)⟩,fun q7 hp=>?_⟩
         rotate_left
         ·have:=(hp.1 a hla b (by omega)).trans c hlc (by rw[hbx];exact q5) (by rw[hby];exact q6);rw[hbz,q7]at this;cases this
         ·by_cases e:c'=c
          ·subst e;rw[hbz];exact q7
          ·exact hC c' (by omega) (by rw[←hbx];exact g1) g2
        ·by_cases e:c'=c
         ·subst e;rw[hby,q6]at g2;cases g2
         ·exact hC c' (by omega) (by rw[←hbx];exact g1) g2
       ·have:=done fun g=>by rw[q5]at g;cases g
        exact⟨by omega,this.2⟩
       ·have e:c=up.length:=by omega
        subst e;have:=done fun g c' hc' g2=>hC c' hc' g g2;exact⟨by omega,this.2⟩
    ·have e:b=64:=by omega
     subst e;refine⟨hla,fun a' ha'=>?_,aI (by omega)⟩;by_cases e:a'=a
     ·subst e;exact hB
     ·exact hA a' (by omega)
  ·have e:a=up.length:=by omega
   subst e;refine aX [] up.length [0,8] (fun a=>[(8,dI a)]) (fun _=>S) (fun a=>∀a',a'<a→∀b,b<a'→qh up a' b) mx (by kernel_rfl) ?_ ?_
   ·simp(maxDischargeDepth:=12) (maxSteps:=1000000) -implicitDefEqProofs only[go_sem,Nat.reduceAdd,Nat.reduceSub,Nat.reduceMul,Nat.reduceLeDiff,Nat.reduceEqDiff,Nat.reduceGT,Nat.reduceBEq,reduceCtorEq,↓reduceIte,Int.reduceToNat,Int.reduceLE,Int.reduceLT,Int.reduceNe,Int.reduceEq];intro a' ha';omega
   ·intro a ha3 hP;simp(maxDischargeDepth:=12) (maxSteps:=1000000) -implicitDefEqProofs only[go_sem,Nat.reduceAdd,Nat.reduceSub,Nat.reduceMul,Nat.reduceLeDiff,Nat.reduceEqDiff,Nat.reduceGT,Nat.reduceBEq,reduceCtorEq,↓reduceIte,Int.reduceToNat,Int.reduceLE,Int.reduceLT,Int.reduceNe,Int.reduceEq];refine⟨fun hla=>?_,fun hge=>?_⟩
    ·refine aX [] a [0,8,9] (fun b=>[(9,dI b)]) (fun _=>S) (fun b=>∀b',b'<b→qh up a b') mx (by kernel_rfl) ?_ ?_
     ·simp(maxDischargeDepth:=12) (maxSteps:=1000000) -implicitDefEqProofs only[go_sem,Nat.reduceAdd,Nat.reduceSub,Nat.reduceMul,Nat.reduceLeDiff,Nat.reduceEqDiff,Nat.reduceGT,Nat.reduceBEq,reduceCtorEq,↓reduceIte,Int.reduceToNat,Int.reduceLE,Int.reduceLT,Int.reduceNe,Int.reduceEq];intro b' hb';omega
     ·intro b hb hB;simp(maxDischargeDepth:=12) (maxSteps:=1000000) -implicitDefEqProofs only[go_sem,Nat.reduceAdd,Nat.reduceSub,Nat.reduceMul,Nat.reduceLeDiff,Nat.reduceEqDiff,Nat.reduceGT,Nat.reduceBEq,reduceCtorEq,↓reduceIte,Int.reduceToNat,Int.reduceLE,Int.reduceLT,Int.reduceNe,Int.reduceEq];refine⟨fun hlb=>ao (Ld _ up hu hl a b _) ?_,fun hge=>?_⟩
      ·simp(maxDischargeDepth:=12) (maxSteps:=1000000) -implicitDefEqProofs only[go_sem,Nat.reduceAdd,Nat.reduceSub,Nat.reduceMul,Nat.reduceLeDiff,Nat.reduceEqDiff,Nat.reduceGT,Nat.reduceBEq,reduceCtorEq,↓reduceIte,Int.reduceToNat,Int.reduceLE,Int.reduceLT,Int.reduceNe,Int.reduceEq];refine⟨fun q hp=>?_,fun q=>ao (QP _ up hu hl a b _) ?_⟩
       ·exact(sQ.1 q) (hp.2 a hla b hlb).1
       ·simp(maxDischargeDepth:=12) (maxSteps:=1000000) -implicitDefEqProofs only[go_sem,Nat.reduceAdd,Nat.reduceSub,Nat.reduceMul,Nat.reduceLeDiff,Nat.reduceEqDiff,Nat.reduceGT,Nat.reduceBEq,reduceCtorEq,↓reduceIte,Int.reduceToNat,Int.reduceLE,Int.reduceLT,Int.reduceNe,Int.reduceEq];refine⟨fun q2 hp=>?_,fun q2=>⟨hlb,fun b' hb'=>?_,aI (by omega)⟩⟩
        ·exact(sQ.1 q2) (hp.2 a hla b hlb).2
        ·by_cases e:b'=b
         ·subst e;exact⟨Xp.1 fun g=>q (sQ.2 g),Xp.1 fun g=>q2 (sQ.2 g)⟩
         ·exact hB b' (by omega)
      ·have e:b=a:=by omega
       subst e;refine⟨hla,fun a' ha'=>?_,aI (by omega)⟩;by_cases e:a'=b
       ·subst e;exact hB
       ·exact hP a' (by omega)
    ·have e:a=up.length:=by omega
     subst e;exact⟨hA,hP⟩
end Go.Proofs.YtoepfmhnapedoaaGreatDoor
