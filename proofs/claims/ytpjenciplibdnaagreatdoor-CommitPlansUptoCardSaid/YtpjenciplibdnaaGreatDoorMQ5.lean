/-
  Part 5 of the proof that the last text ends: from 'Putting, walked' to 'Entries from a key on, by a stack of nodes and places'. By an AI agent.
-/
import Derived.Test.YtpjenciplibdnaaGreatDoorMQ4
import Derived.Shelf.Small.Bits
import Derived.Shelf.Strconv.Itoa0
import Derived.Shelf.Sort.Plain
import Derived.Ground.Names2Prog
import Derived.Shelf.Slices.SearchI
import Derived.Shelf.Slices.In.SortNone
import Derived.Shelf.Slices.Empties
import Derived.Test.YtpjenciplibdnaaGreatDoorProg
import Derived.Test.YtpjenciplibdnaaGreatDoorMQ3
import Derived.Sort.Grow
set_option linter.unusedVariables false
set_option linter.unusedSimpArgs false
set_option maxRecDepth 100000
set_option maxHeartbeats 16000000
namespace Go.Proofs.YtpjenciplibdnaaGreatDoor
open Aml Go
theorem BJ{α:Type}{p:α→Bool}:∀{l:List α} {k:Nat} {c:α},k<(l.takeWhile p).length→l[k]? =some c→p c=true
 |[],_,_,h,_=>by simp at h
 |a::l,k,c,h,hc=>by
  rw[ae9]at h
  cases hp:p a with
  |false=>rw[hp]at h;simp at h
  |true=>
   rw[hp]at h;simp only[if_true,abx]at h
   cases k with
   |zero=>simp at hc;rw[←hc];exact hp
   |succ k=>exact BJ (p:=p) (l:=l) (k:=k) (by omega) (by simpa using hc)
theorem Cv{α:Type}{p:α→Bool}:∀{l:List α} {c:α},l[(l.takeWhile p).length]? =some c→p c=false
 |[],_,h=>by simp at h
 |a::l,c,h=>by
  rw[ae9]at h
  cases hp:p a with
  |false=>rw[hp]at h;simp at h;rw[←h];exact hp
  |true=>rw[hp]at h;simp only[if_true,abx,afl]at h;exact Cv h
theorem aaT{d:Nat}{n:N}(h:Nd (d+1) n)(ht:bA n≤524288):U0 n:=
 ⟨aeq (aT n) ht,fun c hc=>by
  obtain⟨_,k,hk,hn⟩:=h.2.2 c hc;have:=cL hc hk;have:=aT k;exact⟨k,hk,oq hn,by omega⟩,fun c hc=>(h.2.2 c hc).1.1⟩
theorem Z4(w0:W0)(key val:ByteArray)(hk:key.size≤16)(hv:val.size≤400):∀(d:Nat) (n:N) (S:St),Nd d n→bA n+d+8≤524288→ab Tryz.prog w0 146 [eN n,dS key,dS val] S (fun e S'=>e=eN (cb key val n)∧S'=S):=by
 intro d
 induction d with
 |zero=>
  intro n S hn ht;have hlf:=hn.1;have hl:=aT n;refine aJ [4] mx Tryz.func146 rfl rfl (by kernel_rfl) ?_;refine @aa _ (aM @Tryz.ntmps146 @hlf ?_);intro b b1 b2;rw[fS _ _ _ hlf];have hidx:=CR n.l key;refine y7 b2.n [dS key,dS val,.sl 1 false [],.sl 3 false []] (fu _ _ _) (by exact @aa _ aF) ?_;refine @aa _ (af ?_);refine aw [] (bf n.l key) [1,3,6,9,10] (fun k=>[(10,dI k)]) (fun _=>⟨(b2.n,[dS key,dS val,.sl 1 false [],.sl 3 false []])::(b1.n,[dI 0,dB false,.sl 0 true []])::(b.n,[dI n.aj,dB true,.sl 4 false (n.l.map dC)])::S.box,S.acc⟩) (fun _=>True) mx (by kernel_rfl) ?_ ?_
  ·exact @aa _ aF
  ·intro k hk' _
   have new:∀m:List C,m=bU n.l key val→m=n.l.take (bf n.l key)++[.mk key val [] []]++n.l.drop (bf n.l key)→Wk (.agg [dI 0,dB true,.sl 4 false (List.map dC (n.l.take (bf n.l key))++[eC (.mk key val [] [])]++List.map dC (n.l.drop (bf n.l key)))]) (.agg [dI 0,dB true,.sl 4 false (List.map dC (bU n.l key val))]):=fun m h1 h2=>by
    rw[←h1,h2,aa1,aa1,aa9,adT,BM];exact .refl _
   refine @aa _ (af ?_);have e2:k<n.l.length→IntKind.i64.wrap ((k:Int)+1)=((k+1:Nat):Int):=fun _=>by rw[aG (by omega) (by omega)];omega
   refine⟨fun hlt=>⟨hlt,fun a ha=>⟨fun hy=>?_,fun hno=>?_⟩⟩,fun hge=>?_⟩
   ·have:k≠bf n.l key:=by
     rintro rfl;have:=Cv (p:=fun c:C=>cC c.key key) ha;simp only[hy]at this;cases this
    exact⟨by omega,e2 hlt⟩
   ·have hki:k=bf n.l key:=by
     rcases adR k (bf n.l key)with h|h
     ·have:=BJ (p:=fun c:C=>cC c.key key) h ha;simp only[hno]at this;cases this
     ·omega
    subst hki;have hmin:min (bf n.l key) n.l.length=bf n.l key:=by omega
    refine⟨fun _=>⟨hlt,fun a4 ha4=>⟨fun heq=>?_,fun hne=>?_⟩⟩,fun h=>absurd hlt h⟩
    ·cases aC ha ha4;refine ae (sS w0 n.l [.mk key val [] []] _ _ (by omega) (by simp) hlt) ?_ (by exact @aa _ aF);refine @aa _ (af ?_);have:bU n.l key val=aA n.l (bf n.l key) [.mk key val [] []]:=by unfold bU;simp only[ha];rw[if_pos heq]
     rw[this];exact .refl _
    ·cases aC ha ha4;rw[hmin];exact⟨by omega,by omega,by unfold maxLen;omega,fun lb=>⟨by omega,by unfold maxLen;omega,by omega,by omega,by unfold maxLen;omega,new _ rfl (by unfold bU;simp only[ha];rw[if_neg (by rw[hne];simp)])⟩⟩
   ·have hki:k=bf n.l key:=by omega
    subst hki;have hmin:min (bf n.l key) n.l.length=bf n.l key:=by omega
    have hnone:n.l[bf n.l key]? =none:=ad6 (by omega);refine⟨fun h=>absurd h hge,fun _=>?_⟩;rw[hmin];exact⟨by omega,by omega,by unfold maxLen;omega,fun lb=>⟨by omega,by unfold maxLen;omega,by omega,by omega,by unfold maxLen;omega,new _ rfl (by unfold bU;simp only[hnone])⟩⟩
 |succ d ih=>
  intro n S hn ht;have hlf:=hn.1;have hl:=aT n;refine aJ [4] mx Tryz.func146 rfl rfl (by kernel_rfl) ?_;refine @aa _ (aM @Tryz.ntmps146 @hlf ?_);intro b b1;refine ae (XG w0 n key _ (by omega) hn.2.1) ?_ (by exact @aa _ (jd @hlf));refine @aa _ (af ?_);have hw:=fZ hn.2.1 key;obtain⟨c,kid,hc,_,_,hkid,hkey,hnd⟩:=cw hn hw;have htk:=cL (aap hc) hkid;have hlen:=ad9.2 hn.2.1;refine⟨hw,fun a ha=>?_⟩;cases aC hc ha;rw[hkid];refine⟨by simp,fun a2 ha2=>?_⟩;obtain rfl:kid=a2:=by simpa using ha2
  refine ae (ih kid _ hnd (by omega)) ?_;refine @aa _ (af ?_);intro b2;refine pT mx (by kernel_rfl) ?_;refine @aa _ (af ?_);refine⟨hw,fun a ha=>?_⟩;cases aC hc ha;refine kM (fun B hB=>sS w0 n.l [ak c.key (cb key val kid)] (fY n.l key) _ (by omega) (by simp) hw) ?_ (by simp(maxDischargeDepth:=12) (maxSteps:=1000000) -implicitDefEqProofs only[go_sem,Nat.reduceAdd,Nat.reduceSub,Nat.reduceMul,Nat.reduceLeDiff,Nat.reduceEqDiff,Nat.reduceGT,Nat.reduceBEq,reduceCtorEq,↓reduceIte,Int.reduceToNat,Int.reduceLE,Int.reduceLT,Int.reduceNe,Int.reduceEq,ak,aN]);refine @aa _ (af ?_)
  have h1:=ia hn hw 0 (m:=[ak c.key (cb key val kid)]) (.inr (by simp)) fun c' hc'=>by
   rw[acz]at hc';subst hc';exact dQ hkey (fW hk hv hnd)
  have h2:=cI (m:=[ak c.key (cb key val kid)]) hw;have h4:=jM (m:=[ak c.key (cb key val kid)]) hc;have h5:=oO hk hv hnd;rw[bI,ll,jh,dw hkid]at h4;have h6:=bu n;refine kM (fun B hB=>KD w0 (.mk 0 false (aA n.l (fY n.l key) [ak c.key (cb key val kid)])) (fY n.l key) _ (aaT h1 (by rw[jB];omega)) (by simp only[N.eX,abx,acL]at *;omega)) ?_;exact @aa _ (jd (jz key val n hlf hc hkid))
def kN(key val:ByteArray)(n:N):N:=jD (cb key val n)
theorem aa6(w0:W0)(key val:ByteArray)(hk:key.size≤16)(hv:val.size≤400)(d:Nat)(n:N)(S:St)(hn:Nd d n)(ht:bA n+2*d+16≤524288):ab Tryz.prog w0 88 [eN n,dS key,dS val] S (fun e S'=>e=eN (kN key val n)∧S'=S):=by
 have h1:=fW hk hv hn;have h2:=oO hk hv hn;refine aJ [] mx Tryz.func88 rfl rfl (by kernel_rfl) ?_;refine @aa _ (ai @Tryz.ntmps88 ?_);intro b b1;refine ae (Z4 w0 key val hk hv d n _ hn (by omega)) ?_;refine @aa _ (af ?_);refine ae (aag w0 (SizeOf.sizeOf (cb key val n)+1) (cb key val n) _ (by omega) ⟨Ti h1,oq h1,by omega⟩) ?_;simp(maxDischargeDepth:=12) (maxSteps:=1000000) -implicitDefEqProofs only[go_sem,Nat.reduceAdd,Nat.reduceSub,Nat.reduceMul,Nat.reduceLeDiff,Nat.reduceEqDiff,Nat.reduceGT,Nat.reduceBEq,reduceCtorEq,↓reduceIte,Int.reduceToNat,Int.reduceLE,Int.reduceLT,Int.reduceNe,Int.reduceEq,kN]
theorem Wh{key val:ByteArray}(hk:key.size≤16)(hv:val.size≤400){d:Nat}{n:N}(h:Nd d n):∃d',d'≤d+1∧Nd d' (kN key val n)∧bA (kN key val n)≤bA n+d+3:=by
 have h1:=fW hk hv h;obtain⟨d',h2,h3⟩:=Lz h1;have:=oO hk hv h;have:=FM h1;exact⟨d',h2,h3,by unfold kN;omega⟩
def cD(key:ByteArray):N→Option ByteArray
 | .mk p true l=>(l.find? fun c=>eF c.key key).map C.data
 | .mk p false l=>match h:l[fY l key]? with
  |some (.mk ck cd cp (k::r))=>cD key k
  |_=>none
termination_by n=>SizeOf.sizeOf n
decreasing_by
 have h1:=afv (aap h);simp at h1 ⊢;omega
theorem mF(key:ByteArray)(n:N)(h:n.leaf=true):cD key n=(n.l.find? fun c=>eF c.key key).map C.data:=by
 cases n with|mk p b l=>simp only[N.leaf]at h;subst h;rw[cD];rfl
theorem qK(key:ByteArray)(n:N)(h:n.leaf=false){c:C}{k:N}(hc:n.l[fY n.l key]? =some c)(hk:c.kid=[k]):cD key n=cD key k:=by
 cases n with|mk p b l=>
 simp only[N.leaf]at h;subst h
 cases c with|mk ck cd cp cr=>
 simp only[C.kid]at hk;subst hk;simp only[N.l]at hc;rw[cD];split
 ·rename_i h1;rw[hc]at h1;cases h1;rfl
 ·rename_i h1;exact absurd hc (h1 _ _ _ _ _)
def aI(key:ByteArray):N→N
 | .mk p true l=> .mk 0 true (l.filter fun c=>!eF c.key key)
 | .mk p false l=>match h:l[fY l key]? with
  |some (.mk ck cd cp (k::r))=>cG (.mk 0 false (l.set (fY l key) (.mk ck cd cp [aI key k]))) (fY l key)
  |_=> .mk 0 true []
termination_by n=>SizeOf.sizeOf n
decreasing_by
 have h1:=afv (aap h);simp at h1 ⊢;omega
theorem cN(key:ByteArray)(n:N)(h:n.leaf=true):aI key n= .mk 0 true (n.l.filter fun c=>!eF c.key key):=by
 cases n with|mk p b l=>simp only[N.leaf]at h;subst h;rw[aI];rfl
theorem fM(key:ByteArray)(n:N)(h:n.leaf=false){c:C}{k:N}(hc:n.l[fY n.l key]? =some c)(hk:c.kid=[k]):aI key n=cG (.mk 0 false (n.l.set (fY n.l key) (.mk c.key c.data c.an [aI key k]))) (fY n.l key):=by
 cases n with|mk p b l=>
 simp only[N.leaf]at h;subst h
 cases c with|mk ck cd cp cr=>
 simp only[C.kid]at hk;subst hk;simp only[N.l]at hc ⊢;rw[aI];split
 ·rename_i h1;rw[hc]at h1;cases h1;rfl
 ·rename_i h1;exact absurd hc (h1 _ _ _ _ _)
theorem Ct{α:Type}{p:α→Bool}:∀{l:List α} {k:Nat} {a:α},(l.take k).find? p=none→l[k]? =some a→p a=true→l.find? p=some a
 |[],_,_,_,h,_=>by simp at h
 |b::l,0,a,_,h,hp=>by simp at h;subst h;rw[afu,hp]
 |b::l,k+1,a,hn,h,hp=>by
  rw[aeW,afu]at hn;rw[afu]
  cases hb:p b with
  |true=>rw[hb]at hn;cases hn
  |false=>rw[hb]at hn;exact Ct hn (by simpa using h) hp
theorem Qm{α:Type}{p:α→Bool}{l:List α}{k:Nat}{a:α}(hn:(l.take k).find? p=none)(h:l[k]? =some a)(hp:p a=false):(l.take (k+1)).find? p=none:=by
 rw[abZ,h,aea,afi,hn,Option.none_or,afu,hp];rfl
theorem Xp(w0:W0)(key:ByteArray):∀(d:Nat) (n:N) (S:St),Nd d n→bA n≤524288→ab Tryz.prog w0 87 [eN n,dS key] S (fun e S'=>e= .bM [dS ((cD key n).getD aN),dB (cD key n).isSome]∧S'=S):=by
 intro d
 induction d with
 |zero=>
  intro n S hn ht;have hlf:=hn.1;have hl:=aT n;refine aJ [2] mx Tryz.func87 rfl rfl (by kernel_rfl) ?_;refine @aa _ (aM @Tryz.ntmps87 @hlf ?_);rw[mF _ _ hlf];intro b;refine aw [] n.l.length [1,2,6] (fun k=>[(6,dI k)]) (fun _=>⟨(b.n,[dI n.aj,dB true,.sl 4 false (n.l.map dC)])::S.box,S.acc⟩) (fun k=>(n.l.take k).find? (fun c=>eF c.key key)=none) mx (by kernel_rfl) ?_ ?_
  ·refine @aa _ (af ?_);rfl
  ·intro k hk' hnone;refine @aa _ (af ?_);have e2:k<n.l.length→IntKind.i64.wrap ((k:Int)+1)=((k+1:Nat):Int):=fun _=>by rw[aG (by omega) (by omega)];omega
   refine⟨fun hlt=>⟨hlt,fun a ha=>⟨fun hy=>⟨hlt,fun a2 ha2=>?_⟩,fun hno=>⟨hlt,Qm hnone ha hno,e2 hlt⟩⟩⟩,fun hge=>?_⟩
   ·cases aC ha ha2;rw[Ct hnone ha hy];exact .refl _
   ·rw[aaA (by omega)]at hnone;rw[hnone];exact .refl _
 |succ d ih=>
  intro n S hn ht;have hlf:=hn.1;have hl:=aT n;refine aJ [2] mx Tryz.func87 rfl rfl (by kernel_rfl) ?_;refine @aa _ (aM @Tryz.ntmps87 @hlf ?_);have hw:=fZ hn.2.1 key;obtain⟨c,kid,hc,_,_,hkid,hkey,hnd⟩:=cw hn hw;have htk:=cL (aap hc) hkid;have hlen:=ad9.2 hn.2.1;intro b;refine⟨fun h1=>?_,fun h1=>absurd h1 (by omega)⟩;refine pT mx (by kernel_rfl) ?_;refine @aa _ (af ?_);refine kM (fun B hB=>XG w0 n key _ (by omega) hn.2.1) ?_ (by exact @aa _ (jd @hlf));refine @aa _ (af ?_);refine⟨hw,fun a ha=>?_⟩;cases aC hc ha;rw[hkid];refine⟨by simp,fun a2 ha2=>?_⟩;obtain rfl:kid=a2:=by simpa using ha2
  refine kM (fun B hB=>ih kid _ hnd (by omega)) ?_;exact @aa _ (jd (qK key n hlf hc hkid))
theorem mem_set{α:Type}:∀{l:List α} {i:Nat} {a b:α},b∈l.set i a→b∈l∨b=a
 |[],_,_,_,h=>by simp at h
 |x::l,0,a,b,h=>by
  rw[afR]at h;rcases ab6.1 h with rfl|h
  ·exact .inr rfl
  ·exact .inl (abn _ h)
 |x::l,i+1,a,b,h=>by
  rw[List.set_cons_succ]at h;rcases ab6.1 h with rfl|h
  ·exact .inl aaX
  ·exact(mem_set h).imp (abn _) id
theorem sG{d:Nat}{n:N}(hn:Nd (d+1) n){i:Nat}(hi:i<n.l.length){c':C}(h:UQ c'∧∃k,c'.kid=[k]∧Nd d k):Nd (d+1) (.mk 0 false (n.l.set i c')):=
 ⟨rfl,fun e=>by have:=congrArg List.length e;simp only[N.eX,afw,acL]at this;omega,fun c hc=>by
  rcases mem_set hc with hc|rfl
  ·exact hn.2.2 c hc
  ·exact h⟩
theorem F7{l:List C}{i:Nat}{c c':C}(h:l[i]? =some c):lE (l.set i c')+nH c=lE l+nH c':=by
 induction l generalizing i with
 |nil=>simp at h
 |cons a l ih=>
  cases i with
  |zero=>simp at h;subst h;rw[afR,bI,bI];omega
  |succ i=>rw[List.set_cons_succ,bI,bI];have:=ih (i:=i) (by simpa using h);omega
theorem db{key:ByteArray}:∀{d:Nat} {n:N},Nd d n→Nd d (aI key n)
 |0,n,h=>by
  rw[cN _ _ h.1];exact⟨rfl,fun c hc=>h.2 c (aey.1 hc).1⟩
 |d+1,n,h=>by
  have hw:=fZ h.2.1 key;obtain⟨c,kid,hc,_,_,hkid,hkey,hnd⟩:=cw h hw;rw[fM _ _ h.1 hc hkid];refine tX (sG h hw ⟨(h.2.2 c (aap hc)).1,_,rfl,db hnd⟩) ?_;simp only[N.eX,afw];exact hw
theorem DA(p:C→Bool)(l:List C):lE (l.filter p)≤lE l:=by
 induction l with
 |nil=>exact abI _
 |cons a l ih=>
  rw[aeA,bI];split
  ·rw[bI];omega
  ·omega
theorem lj{key:ByteArray}:∀{d:Nat} {n:N},Nd d n→bA (aI key n)≤bA n+d
 |0,n,h=>by
  rw[cN _ _ h.1,jB,bu n];exact DA _ _
 |d+1,n,h=>by
  have hw:=fZ h.2.1 key;obtain⟨c,kid,hc,_,_,hkid,hkey,hnd⟩:=cw h hw;rw[fM _ _ h.1 hc hkid];have h1:=sG h hw (c':= .mk c.key c.data c.an [aI key kid]) ⟨(h.2.2 c (aap hc)).1,_,rfl,db hnd⟩;have h2:=uM h1 (k:=fY n.l key) (by simp only[N.eX,afw];exact hw);have h3:=F7 hc (c':= .mk c.key c.data c.an [aI key kid]);have h4:=lj hnd (key:=key);rw[dw hkid,dw (k:=aI key kid) rfl]at h3;rw[jB]at h2;rw[bu n];omega
def nf(key:ByteArray)(n:N):N:=if(cD key n).isSome then jD (aI key n)else n
theorem Vy{key:ByteArray}{d:Nat}{n:N}(h:Nd d n):∃d',d'≤d+1∧Nd d' (nf key n)∧bA (nf key n)≤bA n+d+3:=by
 unfold nf;split
 ·have h1:=db (key:=key) h;obtain⟨d',h2,h3⟩:=Lz h1;have:=lj h (key:=key);have:=FM h1;exact⟨d',h2,h3,by omega⟩
 ·exact⟨d,by omega,h,by omega⟩
theorem xi:∀(a:List UInt8),Op.bytesLess a a=false
 |[]=>rfl
 |x::a=>by simp[Op.bytesLess,xi a]
theorem CL:∀{a b c:List UInt8},Op.bytesLess a b=true→Op.bytesLess b c=true→Op.bytesLess a c=true
 |[],[],_,h,_=>by simp[Op.bytesLess]at h
 |[],_::_,[],_,h=>by simp[Op.bytesLess]at h
 |[],_::_,_::_,_,_=>by simp[Op.bytesLess]
 |_::_,[],_,h,_=>by simp[Op.bytesLess]at h
 |_::_,_::_,[],_,h=>by simp[Op.bytesLess]at h
 |x::a,y::b,z::c,h1,h2=>by
  simp only[Op.bytesLess,ael,decide_eq_true_eq,abG,beq_iff_eq]at h1 h2 ⊢;rcases h1 with h1|⟨rfl,h1⟩
  ·rcases h2 with h2|⟨rfl,h2⟩
   ·exact .inl (UInt8.lt_trans h1 h2)
   ·exact .inl h1
  ·rcases h2 with h2|⟨rfl,h2⟩
   ·exact .inl h2
   ·exact .inr ⟨rfl,CL h1 h2⟩
theorem J1:∀(a b:List UInt8),Op.bytesLess a b=true∨a=b∨Op.bytesLess b a=true
 |[],[]=> .inr (.inl rfl)
 |[],_::_=> .inl (by simp[Op.bytesLess])
 |_::_,[]=> .inr (.inr (by simp[Op.bytesLess]))
 |x::a,y::b=>by
  simp only[Op.bytesLess,ael,decide_eq_true_eq,abG,beq_iff_eq];rcases UInt8.lt_or_lt_of_ne (a:=x) (b:=y)|>fun f=>Classical.em (x=y) |>.elim (fun h=>Or.inr h) fun h=>Or.inl (f h)with h|rfl
  ·rcases h with h|h
   ·exact .inl (.inl h)
   ·exact .inr (.inr (.inl h))
  ·rcases J1 a b with h|rfl|h
   ·exact .inl (.inr ⟨rfl,h⟩)
   ·exact .inr (.inl rfl)
   ·exact .inr (.inr (.inr ⟨rfl,h⟩))
theorem Fv{a b:ByteArray}(h:a.data.toList=b.data.toList):a=b:=by
 cases a;cases b;simp only[ByteArray.mk.injEq];exact Array.toList_inj.1 h
theorem bZ{a b:ByteArray}:eF a b=true↔a=b:=by
 unfold eF;rw[decide_eq_true_eq];exact⟨Fv,fun h=>h▸rfl⟩
theorem gk(a:ByteArray):eF a a=true:=bZ.2 rfl
theorem bF{a b:ByteArray}:eF a b=false↔a≠b:=by rw[←Bool.not_eq_true,bZ]
theorem da(a:ByteArray):cC a a=false:=xi _
theorem gO{a b c:ByteArray}(h:cC a b=true)(k:cC b c=true):cC a c=true:=CL h k
theorem oJ(a b:ByteArray):cC a b=true∨a=b∨cC b a=true:=(J1 a.data.toList b.data.toList).imp id (Or.imp Fv id)
theorem fP{a b:ByteArray}(h:cC a b=true):cC b a=false:=by
 rw[←Bool.not_eq_true];intro k;have:=gO h k;rw[da]at this;cases this
theorem cz{a b:ByteArray}(h:cC a b=true):a≠b:=by rintro rfl;rw[da]at h;cases h
theorem NP(a b:ByteArray):kL a b=!cC b a:=by
 unfold kL;rcases oJ a b with h|rfl|h
 ·rw[fP h,show Op.bytesLess a.data.toList b.data.toList=true from h];rfl
 ·rw[da];simp
 ·have h1:=fP h;have h2:¬a.data.toList=b.data.toList:=fun e=>cz h (Fv e).symm;rw[h,show Op.bytesLess a.data.toList b.data.toList=false from h1,decide_eq_false h2];rfl
theorem fR{a b:ByteArray}:kL a b=true↔cC b a=false:=by rw[NP];simp
theorem qy(a:ByteArray):kL a a=true:=fR.2 (da a)
theorem iy{a b:ByteArray}:kL a b=false↔cC b a=true:=by rw[NP];simp
theorem rD{a b:ByteArray}(h:cC a b=true):kL a b=true:=fR.2 (fP h)
theorem mK{a b c:ByteArray}(h:kL a b=true)(k:cC b c=true):cC a c=true:=by
 rcases oJ a b with h1|rfl|h1
 ·exact gO h1 k
 ·exact k
 ·rw[fR.1 h]at h1;cases h1
theorem iJ{a b c:ByteArray}(h:cC a b=true)(k:kL b c=true):cC a c=true:=by
 rcases oJ b c with h1|rfl|h1
 ·exact gO h h1
 ·exact h
 ·rw[fR.1 k]at h1;cases h1
theorem nR(a:ByteArray):kL aN a=true:=by
 rw[fR];unfold cC;show Op.bytesLess _ []=false;cases a.data.toList <;>rfl
theorem vI(l:List Int):∀j p,1≤p→p≤j+1→fy l (tp l j)≤fy l p
 |0,p,h1,h2=>by have:p=1:=by omega
                subst this;exact afE _
 |j+1,p,h1,h2=>by
  simp only[tp];split
  ·rename_i h;rcases adR p (j+2)with h3|h3
   ·have:=vI l j p h1 (by omega);omega
   ·have:p=j+2:=by omega
    subst this;exact afE _
  ·rename_i h;rcases adR p (j+2)with h3|h3
   ·exact vI l j p h1 (by omega)
   ·have:p=j+2:=by omega
    subst this;omega
theorem lG(l:List Int)(p:Nat):(l.take p).sum+(l.drop p).sum=l.sum:=by
 rw[←aeo,adI]
theorem GF{l:List Int}(h:∀x,x∈l→0≤x):0≤l.sum:=by
 induction l with
 |nil=>exact afE _
 |cons a l ih=>have:=ih fun x hx=>h x (abn _ hx);have:=h a aaX;rw[adb];omega
theorem half{m:Int}(hm:0≤m):∀(l:List Int),(∀x,x∈l→0≤x∧x≤m)→∀u:Int,0≤u→u≤2*l.sum→∃p,p≤l.length∧2*(l.take p).sum≤u+m∧u≤2*(l.take p).sum+m:=by
 intro l
 induction l with
 |nil=>intro _ u h0 h1;exact⟨0,abI _,by simp at *;omega,by simp at *;omega⟩
 |cons a l ih=>
  intro h u h0 h1;obtain⟨a0,am⟩:=h a aaX;rw[adb]at h1;by_cases ht:u≤a
  ·exact⟨0,aeh _,by simp;omega,by simp;omega⟩
  ·by_cases hta:u≤2*a
   ·exact⟨1,by simp,by simp;omega,by simp;omega⟩
   ·obtain⟨p,p1,p2,p3⟩:=ih (fun x hx=>h x (abn _ hx)) (u-2*a) (by omega) (by omega);exact⟨p+1,by simp;omega,by rw[aeW,adb];omega,by rw[aeW,adb];omega⟩
theorem Jg{l:List Int}{m:Int}(h:∀x,x∈l→0≤x∧x≤m)(h0:122<l.sum)(hm0:0≤m)(hm:m≤35):
 1≤atR l∧atR l<l.length∧2*(l.take (atR l)).sum≤l.sum+m∧2*(l.drop (atR l)).sum≤l.sum+m:=by
 obtain⟨p,p1,p2,p3⟩:=half hm0 l h l.sum (by omega) (by omega);have hp0:p≠0:=by rintro rfl;simp at p3;omega
 have hpl:p≠l.length:=by rintro rfl;rw[aed]at p2;omega
 have hb:=vI l (l.length-2) p (by omega) (by omega);have hat:atR l=tp l (l.length-2):=by unfold atR;rw[if_neg];rintro(h|h) <;>omega
 have hle:=yg l (l.length-2);rw[hat];generalize tp l (l.length-2)=q at*;have sp:=lG l p;have sq:=lG l q;refine⟨hle.1,by omega,?_,?_⟩
 ·unfold fy at hb;split at hb <;>split at hb <;>omega
 ·unfold fy at hb;split at hb <;>split at hb <;>omega
theorem qN{l:List Int}(h:l.sum≤122):atR l=0:=by unfold atR;rw[if_pos (.inl h)]
mutual
def du:N→List C
 | .mk _ b l=>Qo b l
def jU(b:Bool):C→List C
 | .mk k d ps kid=>if b then [.mk k d ps kid]else aaG kid
def Qo(b:Bool):List C→List C
 |[]=>[]
 |c::l=>jU b c++Qo b l
def aaG:List N→List C
 |[]=>[]
 |n::_=>du n
end
theorem HU(b:Bool)(l:List C):Qo b l=l.flatMap (jU b):=by
 induction l with
 |nil=>rfl
 |cons c l ih=>rw[Qo,ih,acA]
theorem cQ(n:N):du n=n.l.flatMap (jU n.leaf):=by cases n;rw[du,HU];rfl
theorem gA(p:Int)(b:Bool)(l:List C):du (.mk p b l)=l.flatMap (jU b):=by rw[cQ];rfl
theorem Kf(c:C):jU true c=[c]:=by cases c;rfl
theorem bB{c:C}{k:N}(h:c.kid=[k]):jU false c=du k:=by
 cases c with|mk a b d e=>
 simp only[C.uq]at h;subst h;rfl
theorem dz(key:ByteArray)(k:N):jU false (ak key k)=du k:=bB rfl
theorem gI(l:List C):l.flatMap (jU true)=l:=by
 induction l with
 |nil=>rfl
 |cons c l ih=>rw[acA,Kf,ih];rfl
theorem dn{n:N}(h:n.leaf=true):du n=n.l:=by rw[cQ,h,gI]
def ShL(c:C):Prop:=c.key≠aN∧c.key.size≤16∧c.data.size≤400∧(c.an≠[]→16<c.data.size)∧c.an.length≤4∧c.kid=[]
def ShK(c:C):Prop:=c.key.size≤16∧c.data=aN∧c.an=[]
def RC(c c':C):Prop:=cC c.key c'.key=true∧∀x,x∈jU false c→cC x.key c'.key=true
def dF(l:List C):Prop:=l.Pairwise fun a b=>cC a.key b.key=true
def Fits(n:N):Prop:=30≤(ah n).sum∧(ah n).sum≤122
def iR(G F:N→Prop)(c:C):Prop:=ShK c∧(∀x,x∈jU false c→kL c.key x.key=true)∧∃k,c.kid=[k]∧G k∧F k
structure Tj(G:N→Prop)(l:List C):Prop where
 k0:keyOf l=aN
 pw:l.Pairwise RC
 cell:∀c,c∈l→iR G Fits c
def Good:Nat→N→Prop
 |0,n=>n.leaf=true∧dF n.l∧∀c,c∈n.l→ShL c
 |d+1,n=>n.leaf=false∧n.l≠[]∧Tj (Good d) n.l
structure Vm(d:Nat)(A:List C)(c:C)(B:List C):Prop where
 k0:keyOf (A++c::B)=aN
 pw:(A++c::B).Pairwise RC
 ahead:∀x,x∈A→iR (Good d) Fits x
 behind:∀x,x∈B→iR (Good d) Fits x
 own:iR (Good d) (fun k=>(ah k).sum≤167) c
theorem ax:∀{d:Nat} {n:N},Good d n→Nd d n
 |0,n,h=>⟨h.1,fun c hc=>by obtain⟨h1,h2,h3,h4,h5,h6⟩:=h.2.2 c hc;exact⟨⟨h2,h3,h5⟩,h6⟩⟩
 |d+1,n,h=>⟨h.1,h.2.1,fun c hc=>by
  obtain⟨⟨h1,h2,h3⟩,h4,k,h5,h6,h7⟩:=h.2.2.cell c hc;exact⟨⟨h1,by rw[h2,bk];omega,by rw[h3];exact abI _⟩,k,h5,ax h6⟩⟩
theorem gr(c:C):ba false c=4+c.key.size:=rfl
theorem size_leaf{c:C}(h:c.key.size≤16∧c.data.size≤400):0≤ba true c∧ba true c≤35:=by
 unfold ba need;simp only[if_true];split
 ·split <;>omega
 ·split <;>omega
theorem cU(p:Int)(b:Bool)(l:List C):ah (.mk p b l)=l.map (ba b):=rfl
theorem gE:∀{d:Nat} {n:N},Good d n→∀x,x∈ah n→0≤x∧x≤(if d=0 then 35 else 20)
 |0,n,h,x,hx=>by
  unfold ah at hx;obtain⟨c,hc,rfl⟩:=adS.1 hx;obtain⟨h1,h2,h3,_⟩:=h.2.2 c hc;rw[h.1];exact size_leaf ⟨h2,h3⟩
 |d+1,n,h,x,hx=>by
  unfold ah at hx;obtain⟨c,hc,rfl⟩:=adS.1 hx;have:=(h.2.2.cell c hc).1.1;rw[h.1,gr,if_neg (by omega)];omega
theorem oM{n:N}(h:Fits n):n.l≠[]:=by
 intro e;have:=h.1;unfold ah at this;rw[e]at this;simp at this
theorem yN:∀{d:Nat} {n:N},Good d n→n.l≠[]→du n≠[]
 |0,n,h,hn=>by rw[dn h.1];exact hn
 |d+1,n,h,hn=>by
  obtain⟨c,l,hl⟩:∃c l,n.l=c::l:=by cases hx:n.l with|nil=>exact absurd hx hn|cons c l=>exact⟨c,l,rfl⟩
  obtain⟨_,_,k,h5,h6,h7⟩:=h.2.2.cell c (by rw[hl];exact aaX);have:=yN h6 (oM h7);rw[cQ,h.1,hl,acA,bB h5];intro e;exact this (List.append_eq_nil_iff.1 e).1
theorem mq{d:Nat}{c:C}(h:iR (Good d) Fits c):∃x,x∈jU false c:=by
 obtain⟨_,_,k,h5,h6,h7⟩:=h;rw[bB h5];exact List.exists_mem_of_ne_nil _ (yN h6 (oM h7))
theorem j2(key:ByteArray){a:C}(l:List C):bD key (a::l)= .mk key a.data a.an a.kid::l:=rfl
theorem mn(key:ByteArray)(c:C):jU false (.mk key c.data c.an c.kid)=jU false c:=by cases c;simp[jU,C.kid]
theorem nQ(key:ByteArray)(l:List C):(bD key l).flatMap (jU false)=l.flatMap (jU false):=by
 cases l with
 |nil=>rfl
 |cons a l=>rw[j2,acA,acA,mn]
theorem QL{G:N→Prop}{l:List C}(h1:l.Pairwise RC)(h2:∀c,c∈l→dF (jU false c)∧∀x,x∈jU false c→kL c.key x.key=true):dF (l.flatMap (jU false)):=by
 unfold dF
 induction l with
 |nil=>exact List.Pairwise.nil
 |cons c l ih=>
  rw[adM]at h1;rw[acA,aeB];refine⟨(h2 c aaX).1,ih h1.2 fun x hx=>h2 x (abn _ hx),fun x hx y hy=>?_⟩;obtain⟨c',hc',hy⟩:=ad7.1 hy;exact iJ ((h1.1 c' hc').2 x hx) ((h2 c' (abn _ hc')).2 y hy)
theorem xk:∀{d:Nat} {n:N},Good d n→dF (du n)
 |0,n,h=>by rw[dn h.1];exact h.2.1
 |d+1,n,h=>by
  rw[cQ,h.1];refine QL (G:=Good d) h.2.2.pw fun c hc=>?_;obtain⟨_,h4,k,h5,h6,h7⟩:=h.2.2.cell c hc;exact⟨by rw[bB h5];exact xk h6,h4⟩
theorem fv{l m:List C}{R:C→C→Prop}:(l++m).Pairwise R↔l.Pairwise R∧m.Pairwise R∧∀a,a∈l→∀b,b∈m→R a b:=aeB
theorem gG(A:List C)(c:C)(B m:List C):aA (A++c::B) A.length m=A++m++B:=by
 unfold aA;rw[List.take_left',abA,abA,show A.length+1=(A++[c]).length by simp,show A++c::B=(A++[c])++B by simp,List.drop_left']
 ·rfl
 ·rfl
theorem rQ{A B B':List C}(h:keyOf B=keyOf B')(hB:B≠[])(hB':B'≠[]):keyOf (A++B)=keyOf (A++B'):=by
 cases A with
 |nil=>exact h
 |cons a A=>rfl
theorem OL{d:Nat}{A B m:List C}{c:C}(h:Vm d A c B)(hm:m≠[])(h0:keyOf m=c.key)(hp:m.Pairwise RC)(hcell:∀x,x∈m→iR (Good d) Fits x)(hle:∀x,x∈m→kL c.key x.key=true)
 (hU:∀b,b∈B→∀x,x∈m→RC x b):Tj (Good d) (A++m++B):=by
 obtain⟨p1,p2,p3⟩:=fv.1 h.pw;rw[adM]at p2;refine⟨?_,?_,?_⟩
 ·rw[←h.k0,abA];refine rQ ?_ (by simp[hm]) (by simp)
  cases m with
  |nil=>exact absurd rfl hm
  |cons x m=>exact h0
 ·rw[abA,fv,fv];refine⟨p1,⟨hp,p2.2,fun x hx b hb=>hU b hb x hx⟩,fun a ha x hx=>?_⟩;rcases abD.1 hx with hx|hx
  ·have:=p3 a ha c aaX;exact⟨iJ this.1 (hle x hx),fun y hy=>iJ (this.2 y hy) (hle x hx)⟩
  ·exact p3 a ha x (abn _ hx)
 ·intro x hx;rcases abD.1 hx with hx|hx
  ·rcases abD.1 hx with hx|hx
   ·exact h.ahead x hx
   ·exact hcell x hx
  ·exact h.behind x hx
theorem D3(n:N)(i:Nat):(n.l.take i).map (ba n.leaf)=(ah n).take i:=by unfold ah;rw[List.map_take]
theorem ER(n:N)(i:Nat):(n.l.drop i).map (ba n.leaf)=(ah n).drop i:=by unfold ah;rw[List.map_drop]
theorem QN{d:Nat}{n:N}(h:Good d n)(h0:122<(ah n).sum)(h1:(ah n).sum≤167){i:Nat}(hi:i=atR (ah n)){r:List C}(hr:r=n.l.drop i):
 i≠0∧Good d (.mk 0 n.leaf (n.l.take i))∧Fits (.mk 0 n.leaf (n.l.take i))∧Good d (.mk 0 n.leaf (if n.leaf then r else bD aN r))∧Fits (.mk 0 n.leaf (if n.leaf then r else bD aN r))∧
 du (.mk 0 n.leaf (n.l.take i))++du (.mk 0 n.leaf (if n.leaf then r else bD aN r))=du n∧(keyOf r).size≤16∧(∀x,x∈du (.mk 0 n.leaf (n.l.take i))→cC x.key (keyOf r)=true)∧
 (∀x,x∈du (.mk 0 n.leaf (if n.leaf then r else bD aN r))→kL (keyOf r) x.key=true)∧(∃y,y∈du n∧kL (keyOf r) y.key=true):=by
 have hs:=gE h;have hm:∀x,x∈ah n→0≤x∧x≤35:=fun x hx=>by have:=hs x hx;split at this <;>omega
 obtain⟨a1,a2,a3,a4⟩:=Jg (m:=if d=0 then 35 else 20) hs h0 (by split <;>omega) (by split <;>omega);have asum:=lG (ah n) (atR (ah n));rw[←hi]at a1 a2 a3 a4 asum;have hlen:(ah n).length=n.l.length:=by unfold ah;rw[abv]
 obtain⟨c,r',hc⟩:∃c r',r=c::r':=by
  cases hx:r with
  |nil=>have:=congrArg List.length (hr.symm.trans hx);rw[acv]at this;simp at this;omega
  |cons c r'=>exact⟨c,r',rfl⟩
 have happ:n.l.take i++(c::r')=n.l:=by rw[←hc,hr,adI]
 have hcm:c∈n.l:=by rw[←happ];simp
 have htk:n.l.take i≠[]:=fun e=>by have:=congrArg List.length e;rw[aaE,acL]at this;omega
 have st:=congrArg List.sum (D3 n i);have sd:=congrArg List.sum (ER n i);rw[←hr]at sd
 cases d with
 |zero=>
  have hlf:=h.1;rw[hlf]at st sd ⊢;simp only[if_true]at*;have hrise:=h.2.1;unfold dF at hrise;rw[←happ,fv]at hrise;obtain⟨q1,q2,q3⟩:=hrise;rw[hc];refine⟨by omega,⟨rfl,q1,fun x hx=>h.2.2 x (ac5 hx)⟩,⟨?_,?_⟩,⟨rfl,q2,fun x hx=>h.2.2 x (by rw[←happ];exact adL _ hx)⟩,⟨?_,?_⟩,?_,(h.2.2 c hcm).2.1,?_,?_,c,by rw[dn hlf];exact hcm,qy _⟩
  ·rw[cU,st];omega
  ·rw[cU,st];omega
  ·rw[cU,←hc,sd];omega
  ·rw[cU,←hc,sd];omega
  ·rw[gA,gA,gI,gI,dn hlf,happ]
  ·intro x hx;rw[gA,gI]at hx;exact q3 x hx c aaX
  ·intro x hx;rw[gA,gI]at hx;rcases ab6.1 hx with rfl|hx
   ·exact qy _
   ·rw[adM]at q2;exact rD (q2.1 x hx)
 |succ d=>
  have hlf:=h.1;have hB:=h.2.2;rw[hlf]at st sd ⊢;simp only[adP,if_false,show¬(d+1=0)by omega]at*;have hpw:=hB.pw;rw[←happ,fv]at hpw;obtain⟨q1,q2,q3⟩:=hpw;rw[adM]at q2;have hcG:=hB.cell c hcm;obtain⟨x0,hx0⟩:=mq hcG
  have hk:∀x,x∈(c::r').flatMap (jU false)→kL c.key x.key=true:=fun x hx=>by
   obtain⟨c',hc',hx2⟩:=ad7.1 hx;rcases ab6.1 hc' with e|hc'
   ·rw[e]at hx2;exact hcG.2.1 x hx2
   ·exact rD (iJ (q2.1 c' hc').1 ((hB.cell c' (by rw[←happ];simp[hc'])).2.1 x hx2))
  rw[hc];have hsz:=hcG.1.1
  have e1:((bD aN (c::r')).map (ba false)).sum=((c::r').map (ba false)).sum-c.key.size:=by
   rw[j2,aa9,adb,aa9,adb,gr,gr,C.mC,bk];omega
  have en:(n.l.take i).flatMap (jU false)++(c::r').flatMap (jU false)=du n:=by rw[cQ,hlf,←adK,happ]
  refine⟨by omega,⟨rfl,htk,⟨?_,q1,fun x hx=>hB.cell x (ac5 hx)⟩⟩,⟨?_,?_⟩,⟨rfl,by simp[bD,N.l],⟨rfl,?_,?_⟩⟩,⟨?_,?_⟩,?_,hsz,?_,?_,?_⟩
  ·rw[←hB.k0];show keyOf (n.l.take i)=keyOf n.l;obtain⟨a,t,ht⟩:∃a t,n.l.take i=a::t:=by cases hx:n.l.take i with|nil=>exact absurd hx htk|cons a t=>exact⟨a,t,rfl⟩
   rw[ht]at happ ⊢;rw[←happ];rfl
  ·rw[cU,st];omega
  ·rw[cU,st];omega
  ·show(bD aN (c::r')).Pairwise RC;rw[j2,adM];refine⟨fun b hb=>⟨mK (nR _) (q2.1 b hb).1,fun x hx=>?_⟩,q2.2⟩;rw[mn]at hx;exact(q2.1 b hb).2 x hx
  ·intro x hx;rcases ab6.1 hx with rfl|hx
   ·obtain⟨⟨w1,w2,w3⟩,w4,w5⟩:=hcG;exact⟨⟨by show aN.size≤16;rw[bk];omega,w2,w3⟩,fun y _=>nR _,w5⟩
   ·exact hB.cell x (by rw[←happ];simp[hx])
  ·rw[cU,e1,←hc,sd];omega
  ·rw[cU,e1,←hc,sd];omega
  ·rw[gA,gA,nQ,en]
  ·intro x hx;rw[gA]at hx;obtain⟨c',hc',hx⟩:=ad7.1 hx;exact(q3 c' hc' c aaX).2 x hx
  ·intro x hx;rw[gA,nQ]at hx;exact hk x hx
  ·exact⟨x0,by rw[←en];exact adL _ (ad7.2 ⟨c,aaX,hx0⟩),hcG.2.1 x0 hx0⟩
theorem rT{d:Nat}{p:Int}{A B:List C}{c:C}{kid:N}(h:Vm d A c B)(hk:c.kid=[kid]){m:N×Bool}(hm:m=aR (.mk p false (A++c::B)) kid A.length c.key):
 (m.2=false∧m.1= .mk p false (A++c::B)∧(ah kid).sum≤122)∨(m.2=true∧m.1.leaf=false∧m.1.l.length=A.length+B.length+2∧Tj (Good d) m.1.l∧du m.1=(A++c::B).flatMap (jU false)∧m.1.aj=0∧(ah m.1).sum≤((A++c::B).map (ba false)).sum+20):=by
 obtain⟨o1,o2,kid',o3,o4,o5⟩:=h.own;rw[hk]at o3;cases o3;rw[bB hk]at o2;have hs:=gE o4;rcases Int.lt_or_le 122 (ah kid).sum with h0|h0
 ·refine .inr ?_;obtain⟨i,hi⟩:∃i,i=atR (ah kid):=⟨_,rfl⟩;obtain⟨r,hr⟩:∃r,r=kid.l.drop i:=⟨_,rfl⟩;obtain⟨q0,q1,q2,q3,q4,q5,q6,q7,q8,y,q9,q10⟩:=QN o4 h0 o5 hi hr;unfold aR at hm;simp only[←hi,if_neg q0,←hr]at hm;rw[hm];generalize hX:(N.mk 0 kid.leaf (List.take i kid.l))=X at*;generalize hY:(N.mk 0 kid.leaf (if kid.leaf=true then r else bD aN r))=Y at*;simp only[N.eX,N.oy,N.GS,gG];have hne:du X≠[]:=yN q1 (oM q2);obtain⟨x0,hx0⟩:=List.exists_mem_of_ne_nil _ hne;have hX':∀x,x∈du X→x∈du kid:=fun x hx=>by rw[←q5];exact adH _ hx
  have hY':∀x,x∈du Y→x∈du kid:=fun x hx=>by rw[←q5];exact adL _ hx
  obtain⟨p1,p2,p3⟩:=fv.1 h.pw;rw[adM]at p2;refine⟨trivial,trivial,by simp;omega,?_,?_,trivial,?_⟩
  ·have hck:cC c.key (keyOf r)=true:=mK (o2 x0 (hX' x0 hx0)) (q7 x0 hx0);refine OL h (by simp) rfl ?_ ?_ ?_ ?_
   ·rw[adM];refine⟨fun b hb=>?_,List.pairwise_singleton _ _⟩;rw[acz]at hb;subst hb;refine⟨hck,fun x hx=>?_⟩;rw[dz]at hx;exact q7 x hx
   ·intro x hx;rcases ab6.1 hx with rfl|hx
    ·exact⟨⟨o1.1,rfl,rfl⟩,fun x hx=>by rw[dz]at hx;exact o2 x (hX' x hx),X,rfl,q1,q2⟩
    ·rw[acz]at hx;subst hx;exact⟨⟨q6,rfl,rfl⟩,fun x hx=>by rw[dz]at hx;exact q8 x hx,Y,rfl,q3,q4⟩
   ·intro x hx;rcases ab6.1 hx with rfl|hx
    ·exact qy _
    ·rw[acz]at hx;subst hx;exact rD hck
   ·intro b hb x hx;have hcb:=p2.1 b hb;rw[RC,bB hk]at hcb;rcases ab6.1 hx with rfl|hx
    ·exact⟨hcb.1,fun x hx=>by rw[dz]at hx;exact hcb.2 x (hX' x hx)⟩
    ·rw[acz]at hx;subst hx;exact⟨mK q10 (hcb.2 y q9),fun x hx=>by rw[dz]at hx;exact hcb.2 x (hY' x hx)⟩
  ·rw[gA,adK,adK,adK,acA,acA,acA,ae0,dz,dz,bB hk,←q5];simp
  ·rw[cU];simp only[aa1,aa9,adT,aeo,adb,aeQ,gr,ak,C.mC];omega
 ·refine .inl ?_;unfold aR at hm;simp only[qN h0,if_true]at hm;rw[hm];exact⟨rfl,rfl,h0⟩
theorem BA{d:Nat}{A B:List C}{c:C}{kid:N}(h:Vm d A c B)(hk:c.kid=[kid])(h0:30≤(ah kid).sum)(h1:(ah kid).sum≤122):Tj (Good d) (A++c::B):=by
 refine⟨h.k0,h.pw,fun x hx=>?_⟩;rcases abD.1 hx with hx|hx
 ·exact h.ahead x hx
 ·rcases ab6.1 hx with rfl|hx
  ·obtain⟨o1,o2,k,o3,o4,o5⟩:=h.own;rw[hk]at o3;cases o3;exact⟨o1,o2,kid,hk,o4,h0,h1⟩
  ·exact h.behind x hx
theorem RN{d:Nat}{kx ky:N}{key:ByteArray}(hx:Good d kx)(hy:Good d ky)(h1:∀e,e∈du kx→cC e.key key=true)(h2:∀e,e∈du ky→kL key e.key=true)(hs:key.size≤16):
 Good d (bQ kx ky key)∧du (bQ kx ky key)=du kx++du ky∧(ah kx).sum+(ah ky).sum≤(ah (bQ kx ky key)).sum∧(ah (bQ kx ky key)).sum≤(ah kx).sum+(ah ky).sum+16:=by
 cases d with
 |zero=>
  have e:bQ kx ky key= .mk 0 true (kx.l++ky.l):=by unfold bQ;rw[hy.1,hx.1,if_pos rfl]
  rw[e,gA,gI,dn hx.1,dn hy.1,cU];rw[dn hx.1]at h1;rw[dn hy.1]at h2;have e1:ah kx=kx.l.map (ba true):=by unfold ah;rw[hx.1]
  have e2:ah ky=ky.l.map (ba true):=by unfold ah;rw[hy.1]
  refine⟨⟨rfl,fv.2 ⟨hx.2.1,hy.2.1,fun a ha b hb=>iJ (h1 a ha) (h2 b hb)⟩,fun c hc=>?_⟩,rfl,?_,?_⟩
  ·rcases abD.1 hc with hc|hc
   ·exact hx.2.2 c hc
   ·exact hy.2.2 c hc
  ·rw[aa1,aeo,e1,e2];omega
  ·rw[aa1,aeo,e1,e2];omega
 |succ d=>
  have e:bQ kx ky key= .mk 0 false (kx.l++bD key ky.l):=by unfold bQ;rw[hy.1,hx.1,if_neg (by simp)]
  rw[e,gA,cQ kx,cQ ky,hx.1,hy.1,cU,adK,nQ];rw[cQ,hx.1]at h1;rw[cQ,hy.1]at h2;have e1:ah kx=kx.l.map (ba false):=by unfold ah;rw[hx.1]
  have e2:ah ky=ky.l.map (ba false):=by unfold ah;rw[hy.1]
  have hX:=hx.2.2;have hY:=hy.2.2;obtain⟨c0,r,hr⟩:∃c0 r,ky.l=c0::r:=by cases hq:ky.l with|nil=>exact absurd hq hy.2.1|cons a t=>exact⟨a,t,rfl⟩
  have hc0:=hY.cell c0 (by rw[hr];exact aaX);have hp:=hY.pw;have hk0:=hY.k0;rw[hr,adM]at hp;rw[hr]at h2 e2 hk0;have hk0:c0.key=aN:=hk0;rw[hr,j2];obtain⟨x0,hx0⟩:=mq hc0;have hl0:=h2 x0 (ad7.2 ⟨c0,aaX,hx0⟩);have hkb:∀b,b∈r→cC key b.key=true:=fun b hb=>mK hl0 ((hp.1 b hb).2 x0 hx0)
  have hle:∀b,b∈C.mk key c0.data c0.an c0.kid::r→kL key b.key=true:=fun b hb=>by
   rcases ab6.1 hb with rfl|hb
   ·exact qy _
   ·exact rD (hkb b hb)
  refine⟨⟨rfl,by simp[N.l],?_,?_,?_⟩,rfl,?_,?_⟩
  ·show keyOf (kx.l++_)=aN;rw[←hX.k0]
   cases hq:kx.l with
   |nil=>exact absurd hq hx.2.1
   |cons a t=>rfl
  ·refine fv.2 ⟨hX.pw,adM.2 ⟨fun b hb=>⟨hkb b hb,fun x hx=>?_⟩,hp.2⟩,fun a ha b hb=>?_⟩
   ·rw[mn]at hx;exact(hp.1 b hb).2 x hx
   ·obtain⟨xa,hxa⟩:=mq (hX.cell a ha);have h3:∀x,x∈jU false a→cC x.key key=true:=fun x hx=>h1 x (ad7.2 ⟨a,ha,hx⟩);exact⟨iJ (mK ((hX.cell a ha).2.1 xa hxa) (h3 xa hxa)) (hle b hb),fun x hx=>iJ (h3 x hx) (hle b hb)⟩
  ·intro c hc;rcases abD.1 hc with hc|hc
   ·exact hX.cell c hc
   ·rcases ab6.1 hc with rfl|hc
    ·obtain⟨⟨w1,w2,w3⟩,w4,w5⟩:=hc0;refine⟨⟨hs,w2,w3⟩,fun y hy=>?_,w5⟩;rw[mn]at hy;exact h2 y (ad7.2 ⟨c0,aaX,hy⟩)
    ·exact hY.cell c (by rw[hr];exact abn _ hc)
  ·rw[aa1,aeo,e1,e2,aa9,adb,aa9,adb,gr,gr,C.mC,hk0,bk];omega
  ·rw[aa1,aeo,e1,e2,aa9,adb,aa9,adb,gr,gr,C.mC,hk0,bk];omega
theorem mA(A:List C)(c:C)(B:List C):cellAt (A++c::B) A.length=c:=eM (by simp)
theorem Nx{d:Nat}{A B:List C}{x y:C}{kx ky:N}(hk0:keyOf (A++x::y::B)=aN)(hpw:(A++x::y::B).Pairwise RC)(hA:∀c,c∈A→iR (Good d) Fits c)(hB:∀c,c∈B→iR (Good d) Fits c)
 (hx:iR (Good d) (fun _=>True) x) (hy:iR (Good d) (fun _=>True) y) (ex:x.kid=[kx]) (ey:y.kid=[ky]) (hsum:(ah kx).sum+(ah ky).sum≤151):
 Vm d A (ak x.key (bQ kx ky y.key)) B∧(A++ak x.key (bQ kx ky y.key)::B).flatMap (jU false)=(A++x::y::B).flatMap (jU false)∧(ah kx).sum+(ah ky).sum≤(ah (bQ kx ky y.key)).sum:=by
 obtain⟨x1,x2,kx',x3,x4,_⟩:=hx;rw[ex]at x3;cases x3;obtain⟨y1,y2,ky',y3,y4,_⟩:=hy;rw[ey]at y3;cases y3;rw[bB ex]at x2;rw[bB ey]at y2;obtain⟨p1,p2,p3⟩:=fv.1 hpw;rw[adM,adM]at p2;obtain⟨p2,p4,p5⟩:=p2;have hxy:=p2 y aaX;rw[RC,bB ex]at hxy;obtain⟨b1,b2,b3,b4⟩:=RN x4 y4 hxy.2 y2 y1.1;refine⟨⟨?_,?_,hA,hB,⟨⟨x1.1,rfl,rfl⟩,fun e he=>?_,_,rfl,b1,by omega⟩⟩,?_,b3⟩
 ·rw[←hk0];exact rQ rfl (by simp) (by simp)
 ·refine fv.2 ⟨p1,adM.2 ⟨fun b hb=>⟨(p2 b (abn _ hb)).1,fun e he=>?_⟩,p5⟩,fun a ha b hb=>?_⟩
  ·rw[dz,b2]at he;rcases abD.1 he with he|he
   ·have:=(p2 b (abn _ hb)).2;rw[bB ex]at this;exact this e he
   ·have:=(p4 b hb).2;rw[bB ey]at this;exact this e he
  ·rcases ab6.1 hb with rfl|hb
   ·exact p3 a ha x aaX
   ·exact p3 a ha b (abn _ (abn _ hb))
 ·rw[dz,b2]at he;rcases abD.1 he with he|he
  ·exact x2 e he
  ·exact rD (iJ hxy.1 (y2 e he))
 ·rw[adK,adK,acA,acA,acA,dz,b2,bB ex,bB ey,abA]
theorem oT{G F:N→Prop}{c:C}(h:iR G F c):iR G (fun _=>True) c:=by
 obtain⟨h1,h2,k,h3,h4,h5⟩:=h;exact⟨h1,h2,k,h3,h4,trivial⟩
structure zA(d:Nat)(L:List C)(m:N):Prop where
 leaf:m.leaf=false
 aj:m.aj=0
 ne:m.l≠[]
 br:Tj (Good d) m.l
 en:du m=L.flatMap (jU false)
 sum:(ah m).sum≤(L.map (ba false)).sum+20
theorem Gy{d:Nat}{A B:List C}{c:C}(h:Vm d A c B)(hAB:A≠[]∨B≠[]):zA d (A++c::B) (cG (.mk 0 false (A++c::B)) A.length):=by
 obtain⟨o1,o2,kid,hkid,o4,o5⟩:=h.own;unfold cG;simp only[N.eX,mA,aO hkid];generalize hP:aR (.mk 0 false (A++c::B)) kid A.length c.key=P;rcases rT h hkid hP.symm with⟨q1,q2,q3⟩|⟨q1,q2,q3,q4,q5,q6,q7⟩
 ·rw[q1,if_neg (by simp)];split
  ·rename_i hlow
   have h30:30≤(ah kid).sum:=by
    rw[ael]at hlow;rcases hlow with hlow|hlow
    ·unfold wK at hlow;simp at hlow;omega
    ·have h2:(A++c::B).length<2:=of_decide_eq_true hlow;rw[c9,abx]at h2;rcases hAB with hA|hB
     ·have:=ad9.2 hA;omega
     ·have:=ad9.2 hB;omega
   exact⟨rfl,rfl,by simp[N.l],BA h hkid h30 q3,gA _ _ _,by rw[cU];omega⟩
  ·rename_i hlow
   have h29:(ah kid).sum≤29:=by
    rw[ael,not_or]at hlow;have:=hlow.1;unfold wK at this;simp at this;omega
   have fin:∀(A' B':List C) (x y:C) (kx ky:N),A++c::B=A'++x::y::B'→x.kid=[kx]→y.kid=[ky]→iR (Good d) (fun _=>True) x→iR (Good d) (fun _=>True) y→(∀e,e∈A'→iR (Good d) Fits e)→(∀e,e∈B'→iR (Good d) Fits e)→
    30≤(ah kx).sum+(ah ky).sum→(ah kx).sum+(ah ky).sum≤151→
    zA d (A++c::B) (aR (.mk 0 false (aA (aA (A++c::B) (A'.length+1) []) A'.length [ak (cellAt (A++c::B) A'.length).key (bQ (aB (cellAt (A++c::B) A'.length)) (aB (cellAt (A++c::B) (A'.length+1))) (cellAt (A++c::B) (A'.length+1)).key)])) (bQ (aB (cellAt (A++c::B) A'.length)) (aB (cellAt (A++c::B) (A'.length+1))) (cellAt (A++c::B) (A'.length+1)).key) A'.length (cellAt (A++c::B) A'.length).key).1:=by
    intro A' B' x y kx ky he ex ey hx hy hA' hB' s30 s151;obtain⟨b1,b2,b3⟩:=Nx (by rw[←he];exact h.k0) (by rw[←he];exact h.pw) hA' hB' hx hy ex ey s151
    have e1:cellAt (A'++x::y::B') (A'.length+1)=y:=by
     have:=mA (A'++[x]) y B';simpa using this
    have e2:aA (A'++x::y::B') (A'.length+1) []=A'++x::B':=by
     have:=gG (A'++[x]) y B' [];simpa using this
    rw[he,mA,e1,e2,aO ex,aO ey,gG,abA,List.singleton_append];generalize hQ:aR (.mk 0 false (A'++ak x.key (bQ kx ky y.key)::B')) (bQ kx ky y.key) A'.length x.key=Q
    have hsz:((A'++ak x.key (bQ kx ky y.key)::B').map (ba false)).sum≤((A'++x::y::B').map (ba false)).sum:=by
     simp only[aa1,aa9,aeo,adb,gr,ak,C.mC];omega
    rcases rT (p:=0) b1 (kid:=bQ kx ky y.key) rfl hQ.symm with⟨r1,r2,r3⟩|⟨r1,r2,r3,r4,r5,r6,r7⟩
    ·rw[r2];exact⟨rfl,rfl,by simp[N.l],BA b1 rfl (by omega) r3,by rw[gA,b2],by rw[cU];omega⟩
    ·exact⟨r2,r6,by intro e;rw[e]at r3;simp at r3,r4,by rw[r5,b2],by omega⟩
   have fs:∀x kx,iR (Good d) Fits x→x.kid=[kx]→30≤(ah kx).sum∧(ah kx).sum≤122:=fun x kx hx ex=>by
    obtain⟨_,_,k,h3,_,h5⟩:=hx;rw[ex]at h3;cases h3;exact h5
   have s0:0≤(ah kid).sum:=GF fun x hx=>(gE o4 x hx).1
   cases B with
   |cons b0 B'=>
    have hb0:=h.behind b0 aaX;obtain⟨_,_,kb,hkb,_⟩:=id hb0;have:=fs b0 kb hb0 hkb;have hlt:A.length+1<(A++c::b0::B').length:=by simp
    simp only[hlt,if_true];exact fin A B' c b0 kid kb rfl hkid hkb (oT h.own) (oT hb0) h.ahead (fun e he=>h.behind e (abn _ he)) (by omega) (by omega)
   |nil=>
    have hA:A≠[]:=hAB.resolve_right (by simp);obtain⟨A',a0,rfl⟩:∃A' a0,A=A'++[a0]:=⟨A.dropLast,A.getLast hA,(List.dropLast_concat_getLast hA).symm⟩;have ha0:=h.ahead a0 (by simp);obtain⟨_,_,ka,hka,_⟩:=id ha0;have:=fs a0 ka ha0 hka;have hnl:¬(A'++[a0]).length+1<(A'++[a0]++[c]).length:=by simp
    simp only[hnl,if_false];have hj:(A'++[a0]).length-1=A'.length:=by simp
    rw[hj];exact fin A' [] a0 c ka kid (by simp) hka hkid (oT ha0) (oT h.own) (fun e he=>h.ahead e (adH _ he)) (fun e he=>by cases he) (by omega) (by omega)
 ·rw[q1,if_pos rfl];exact⟨q2,q6,by intro e;rw[e]at q3;simp at q3,q4,q5,q7⟩
def qD(key val:ByteArray)(l:List C):List C:=l.filter (fun c=>cC c.key key)++ .mk key val [] []::l.filter (fun c=>cC key c.key)
def AA(key:ByteArray)(l:List C):List C:=l.filter fun c=>!eF c.key key
theorem fx{p:C→Bool}{l:List C}(h:∀a,a∈l→p a=true):l.filter p=l:=aeJ.2 h
theorem j5{p:C→Bool}{l:List C}(h:∀a,a∈l→p a=false):l.filter p=[]:=List.filter_eq_nil_iff.2 fun a ha=>by rw[h a ha];simp
theorem rq(key:ByteArray):∀{l:List C},dF l→∃A B,l=A++B∧(∀a,a∈A→cC a.key key=true)∧∀b,b∈B→cC b.key key=false
 |[],_=>⟨[],[],rfl,fun a h=>(by cases h),fun a h=>(by cases h)⟩
 |c::l,h=>by
  unfold dF at h;rw[adM]at h
  cases hc:cC c.key key with
  |true=>
   obtain⟨A,B,rfl,h1,h2⟩:=rq key h.2
   exact⟨c::A,B,rfl,fun a ha=>by
    rcases ab6.1 ha with rfl|ha
    ·exact hc
    ·exact h1 a ha,h2⟩
  |false=>
   refine⟨[],c::l,rfl,fun a h=>(by cases h),fun b hb=>?_⟩;rcases ab6.1 hb with rfl|hb
   ·exact hc
   ·cases hb2:cC b.key key with
    |false=>rfl
    |true=>rw[gO (h.1 b hb) hb2]at hc;cases hc
theorem qU{A B:List C}{key:ByteArray}(h1:∀a,a∈A→cC a.key key=true)(h2:∀b,b∈B→cC b.key key=false):bf (A++B) key=A.length:=by
 unfold bf;rw[List.takeWhile_append_of_pos h1]
 cases B with
 |nil=>simp
 |cons b B=>rw[ae9,h2 b aaX];simp
theorem Fw{l:List C}(h:dF l)(key val:ByteArray):bU l key val=qD key val l∧((bU l key val).map (ba true)).sum≤(l.map (ba true)).sum+ba true (.mk key val [] [])-(if(l.any fun c=>eF c.key key)then((l.filter fun c=>eF c.key key).map (ba true)).sum else 0):=by
 obtain⟨A,B,rfl,h1,h2⟩:=rq key h
 have hA:(A.any fun c=>eF c.key key)=false:=List.any_eq_false.2 fun a ha=>by
  have:=cz (h1 a ha);rw[←bF]at this;rw[this];simp
 have hA2:(A.filter fun c=>eF c.key key)=[]:=j5 fun a ha=>by rw[bF];exact cz (h1 a ha)
 have hi:=qU h1 h2;unfold bU qD;simp only[hi];rw[aep,aep,fx h1,j5 h2,j5 (l:=A) fun a ha=>fP (h1 a ha),ad0,adZ,List.any_append,hA,afO,aep,hA2,adZ]
 cases B with
 |nil=>simp
 |cons b B=>
  have hb:∀b',b'∈B→cC b.key b'.key=true:=by
   unfold dF at h;rw[fv,adM]at h;exact h.2.1.1
  have hge:=h2 b aaX;rw[adN (abI _),aeK,aeX];simp only;by_cases e:b.key=key
  ·rw[if_pos (bZ.2 e),gG];have hB:∀b',b'∈B→cC key b'.key=true:=fun b' hb'=>e▸hb b' hb';have hB2:(B.filter fun c=>eF c.key key)=[]:=j5 fun a ha=>by rw[bF];exact(cz (hB a ha)).symm
   rw[aeA,e,da,if_neg (by simp),fx hB,List.any_cons,bZ.2 e,Bool.true_or,if_pos rfl,aeA,if_pos (bZ.2 e),hB2];refine⟨by simp,?_⟩;simp only[aa1,aeo,aa9,adT,adb,aeQ];omega
  ·rw[if_neg (by rw[bZ];exact e)]
   have hlt:cC key b.key=true:=by
    rcases oJ key b.key with h|h|h
    ·exact h
    ·exact absurd h.symm e
    ·rw[hge]at h;cases h
   have hB:∀b',b'∈b::B→cC key b'.key=true:=fun b' hb'=>by
    rcases ab6.1 hb' with rfl|hb'
    ·exact hlt
    ·exact gO hlt (hb b' hb')
   have hany:((b::B).any fun c=>eF c.key key)=false:=List.any_eq_false.2 fun a ha=>by
    have:=(cz (hB a ha)).symm;rw[←bF]at this;rw[this];simp
   rw[List.take_left',List.drop_left',fx hB,hany]
   ·refine⟨by simp,?_⟩;simp only[aa1,aeo,aa9,adT,adb,aeQ,adP,if_false];omega
   ·rfl
   ·rfl
theorem nt{l:List C}(h:dF l)(p:C→Bool):dF (l.filter p):=List.Pairwise.filter p h
theorem J8{l:List C}(h:dF l)(key val:ByteArray):dF (qD key val l):=by
 unfold qD dF;rw[fv,adM];refine⟨nt h _,⟨fun b hb=>?_,nt h _⟩,fun a ha b hb=>?_⟩
 ·exact(aey.1 hb).2
 ·have h1:cC a.key key=true:=(aey.1 ha).2;rcases ab6.1 hb with rfl|hb
  ·exact h1
  ·exact gO h1 (aey.1 hb).2
theorem F8{key val:ByteArray}{l:List C}{x:C}(h:x∈qD key val l):x∈l∨x= .mk key val [] []:=by
 rcases abD.1 h with h|h
 ·exact .inl (aey.1 h).1
 ·rcases ab6.1 h with h|h
  ·exact .inr h
  ·exact .inl (aey.1 h).1
theorem RL{key val:ByteArray}{A B M:List C}(h1:∀a,a∈A→cC a.key key=true)(h2:∀b,b∈B→cC key b.key=true):qD key val (A++M++B)=A++qD key val M++B:=by
 unfold qD;rw[aep,aep,aep,aep,fx h1,j5 (l:=B) fun b hb=>fP (h2 b hb),j5 (l:=A) fun a ha=>fP (h1 a ha),fx h2];simp
theorem QZ{key:ByteArray}{A B M:List C}(h1:∀a,a∈A→cC a.key key=true)(h2:∀b,b∈B→cC key b.key=true):AA key (A++M++B)=A++AA key M++B:=by
 unfold AA;rw[aep,aep,fx (l:=A) fun a ha=>by rw[bF.2 (cz (h1 a ha))];rfl,fx (l:=B) fun b hb=>by rw[bF.2 (cz (h2 b hb)).symm];rfl]
theorem xM(l:List C)(key:ByteArray):∀i,i<l.length→(lH l key i=0∨∃c,l[lH l key i]? =some c∧kL c.key key=true)∧∀j c,lH l key i<j→j≤i→l[j]? =some c→kL c.key key=false
 |0,_=>⟨.inl rfl,fun j c h1 h2=>by simp only[lH]at h1;omega⟩
 |i+1,hi=>by
  obtain⟨h1,h2⟩:=xM l key i (by omega);have hx:l[i+1]? =some l[i+1]:=aay hi
  cases hle:kL l[i+1].key key with
  |true=>
   have e:lH l key (i+1)=i+1:=by simp only[lH,hx,hle,if_true]
   rw[e];exact⟨.inr ⟨_,hx,hle⟩,fun j c h3 h4=>by omega⟩
  |false=>
   have e:lH l key (i+1)=lH l key i:=by simp only[lH,hx,hle,adP,if_false]
   rw[e];refine⟨h1,fun j c h3 h4 hc=>?_⟩;rcases adR i j with h|h
   ·have:j=i+1:=by omega
    subst this;rw[hx]at hc;cases hc;exact hle
   ·exact h2 j c h3 h hc
theorem jT{G:N→Prop}{l:List C}(h:Tj G l)(hn:l≠[])(key:ByteArray):∃A c B,l=A++c::B∧A.length=fY l key∧(∀a,a∈A→∀x,x∈jU false a→cC x.key key=true)∧kL c.key key=true∧∀b,b∈B→cC key b.key=true:=by
 have hpos:=ad9.2 hn;have hw:=fZ hn key;obtain⟨h1,h2⟩:=xM l key (l.length-1) (by omega);have hwd:fY l key=lH l key (l.length-1):=rfl;rw[←hwd]at h1 h2
 have hsp:l=l.take (fY l key)++l[fY l key]::l.drop (fY l key+1):=by
  rw[←aet hw,adI]
 have hle:kL l[fY l key].key key=true:=by
  rcases h1 with h1|⟨c,hc,h1⟩
  ·have hk:=h.k0
   have:l[fY l key].key=aN:=by
    rw[←hk]
    cases l with
    |nil=>exact absurd rfl hn
    |cons a t=>simp[h1,keyOf]
   rw[this];exact nR _
  ·rw[aay hw]at hc;cases hc;exact h1
 have hpw:=h.pw;rw[hsp,fv]at hpw;refine⟨_,_,_,hsp,by rw[aaE];omega,fun a ha x hx=>iJ ((hpw.2.2 a ha _ aaX).2 x hx) hle,hle,fun b hb=>?_⟩;obtain⟨j,hj⟩:=adX.1 hb;rw[aeg]at hj;exact iy.1 (h2 _ b (by omega) (by have:=(aaq.1 hj).1;omega) hj)
theorem sE{d:Nat}{A B:List C}{c:C}(h:Tj (Good d) (A++c::B)){key:ByteArray}(hB:∀b,b∈B→cC key b.key=true):∀x,x∈B.flatMap (jU false)→cC key x.key=true:=fun x hx=>by
 obtain⟨b,hb,hx⟩:=ad7.1 hx;exact iJ (hB b hb) ((h.cell b (by simp[hb])).2.1 x hx)
theorem qn{d:Nat}{k:N}(h:Good d k)(hf:Fits k):k.leaf=true∨2≤k.l.length:=by
 cases d with
 |zero=>exact .inl h.1
 |succ d=>
  refine .inr ?_;have hs:=gE h;rw[if_neg (by omega)]at hs;have h30:=hf.1;unfold ah at hs h30
  match hl:k.l,hs,h30 with
  |[],_,h30=>simp at h30
  |[c],hs,h30=>
   have:=hs (ba k.leaf c) (by simp);simp at h30;omega
  |_::_::_,_,_=>simp
theorem FZ{d:Nat}{A B:List C}{c:C}{kid:N}(h:Tj (Good d) (A++c::B))(k':N)(hg:Good d k')(hs:(ah k').sum≤167)(hk:c.kid=[kid])(hlo:∀x,x∈du k'→kL c.key x.key=true)(hup:∀x,x∈du k'→∀b,b∈B→cC x.key b.key=true):Vm d A (ak c.key k') B:=by
 obtain⟨p1,p2,p3⟩:=fv.1 h.pw;rw[adM]at p2;refine⟨?_,fv.2 ⟨p1,adM.2 ⟨fun b hb=>⟨(p2.1 b hb).1,fun x hx=>?_⟩,p2.2⟩,fun a ha b hb=>?_⟩,fun x hx=>h.cell x (by simp[hx]),fun x hx=>h.cell x (by simp[hx]),⟨(h.cell c (by simp)).1.1,rfl,rfl⟩,fun x hx=>?_,k',rfl,hg,hs⟩
 ·rw[←h.k0];exact rQ rfl (by simp) (by simp)
 ·rw[dz]at hx;exact hup x hx b hb
 ·rcases ab6.1 hb with rfl|hb
  ·exact p3 a ha c aaX
  ·exact p3 a ha b (abn _ hb)
 ·rw[dz]at hx;exact hlo x hx
theorem zA.YA{d:Nat}{L:List C}{m:N}(h:zA d L m):Good (d+1) m:=⟨h.leaf,h.ne,h.br⟩
theorem pW{n:N}(h:n.leaf=true):ah n=n.l.map (ba true):=by unfold ah;rw[h]
theorem mL{n:N}(h:n.leaf=false):ah n=n.l.map (ba false):=by unfold ah;rw[h]
theorem Cs{A B:List C}{c:C}(h:2≤(A++c::B).length):A≠[]∨B≠[]:=by
 rcases A with _|⟨a,A⟩
 ·right;rintro rfl;simp at h
 ·exact .inl (by simp)
theorem A8{key val:ByteArray}(hk0:key≠aN)(hk:key.size≤16)(hv:val.size≤400):∀{d:Nat} {n:N},Good d n→(ah n).sum≤122→n.leaf=true∨2≤n.l.length→Good d (cb key val n)∧(ah (cb key val n)).sum≤157∧du (cb key val n)=qD key val (du n)
 |0,n,h,hs,h2=>by
  rw[fS _ _ _ h.1,dn h.1,gA,gI,cU];rw[pW h.1]at hs;obtain⟨e1,e2⟩:=Fw h.2.1 key val;have h35:=(size_leaf (c:= .mk key val [] []) ⟨hk,hv⟩).2;refine⟨⟨rfl,?_,fun c hc=>?_⟩,?_,e1⟩
  ·show dF (bU n.l key val);rw[e1];exact J8 h.2.1 key val
  ·rcases lh hc with hc|rfl
   ·exact h.2.2 c hc
   ·exact⟨hk0,hk,hv,fun e=>absurd rfl e,by simp[C.an],rfl⟩
  ·have hpos:0≤((n.l.filter fun c=>eF c.key key).map (ba true)).sum:=GF fun x hx=>by
    obtain⟨c,hc,rfl⟩:=adS.1 hx;obtain⟨_,w2,w3,_⟩:=h.2.2 c (aey.1 hc).1;exact(size_leaf ⟨w2,w3⟩).1
   split at e2 <;>omega
 |d+1,n,h,hs,h2=>by
  have hB:=h.2.2;have h2:=h2.resolve_left (by rw[h.1];simp);obtain⟨A,c,B,hl,hw,hA,hc,hBk⟩:=jT hB h.2.1 key
  have hcl:n.l[fY n.l key]? =some c:=by rw[←hw];conv=>lhs;rw[hl]
                                        simp
  have hcm:c∈n.l:=aap hcl;obtain⟨o1,o2,kid,hkid,o4,o5⟩:=hB.cell c hcm;obtain⟨g1,g2,g3⟩:=A8 hk0 hk hv o4 o5.2 (qn o4 o5);rw[jz _ _ _ h.1 hcl hkid,←hw];rw[mL h.1]at hs;have hen:du n=A.flatMap (jU false)++du kid++B.flatMap (jU false):=by rw[cQ,h.1,hl,adK,acA,bB hkid,abA]
  rw[hl]at hB hs h2 ⊢;rw[gG,abA,List.singleton_append];rw[bB hkid]at o2;obtain⟨p1,p2,p3⟩:=fv.1 hB.pw;rw[adM]at p2
  have hP:=FZ hB (cb key val kid) g1 (by omega) hkid (fun x hx=>by
   rw[g3]at hx;rcases F8 hx with hx|rfl
   ·exact o2 x hx
   ·exact hc) fun x hx b hb=>by
   rw[g3]at hx;rcases F8 hx with hx|rfl
   ·exact(p2.1 b hb).2 x (by rw[bB hkid];exact hx)
   ·exact hBk b hb
  have hm:=Gy hP (Cs h2);refine⟨hm.YA,?_,?_⟩
  ·have:=hm.sum;simp only[aa1,aa9,aeo,adb,gr,ak,C.mC]at this hs;simp only[ak];omega
  ·rw[hm.en,hen,RL,adK,acA,dz,g3,abA]
   ·intro a ha;obtain⟨a',ha',hx⟩:=ad7.1 ha;exact hA a' ha' a hx
   ·exact sE hB hBk
theorem qR{key:ByteArray}:∀{d:Nat} {n:N},Good d n→(ah n).sum≤122→n.leaf=true∨2≤n.l.length→Good d (aI key n)∧(ah (aI key n)).sum≤142∧du (aI key n)=AA key (du n)
 |0,n,h,hs,h2=>by
  rw[cN _ _ h.1,dn h.1,gA,gI,cU];rw[pW h.1]at hs;refine⟨⟨rfl,nt h.2.1 _,fun c hc=>h.2.2 c (aey.1 hc).1⟩,?_,rfl⟩
  have:∀l:List C,(∀c,c∈l→ShL c)→((l.filter fun c=>!eF c.key key).map (ba true)).sum≤(l.map (ba true)).sum:=by
   intro l
   induction l with
   |nil=>intro _;exact afE _
   |cons c l ih=>
    intro hl;have h1:=ih fun c hc=>hl c (abn _ hc);obtain⟨_,w2,w3,_⟩:=hl c aaX;have:=(size_leaf ⟨w2,w3⟩).1;rw[aeA,aa9,adb];split
    ·rw[aa9,adb];omega
    ·omega
  have:=this n.l h.2.2;omega
 |d+1,n,h,hs,h2=>by
  have hB:=h.2.2;have h2:=h2.resolve_left (by rw[h.1];simp);obtain⟨A,c,B,hl,hw,hA,hc,hBk⟩:=jT hB h.2.1 key
  have hcl:n.l[fY n.l key]? =some c:=by rw[←hw];conv=>lhs;rw[hl]
                                        simp
  have hcm:c∈n.l:=aap hcl;obtain⟨o1,o2,kid,hkid,o4,o5⟩:=hB.cell c hcm;obtain⟨g1,g2,g3⟩:=qR (key:=key) o4 o5.2 (qn o4 o5);rw[fM _ _ h.1 hcl hkid,←hw];rw[mL h.1]at hs;have hen:du n=A.flatMap (jU false)++du kid++B.flatMap (jU false):=by rw[cQ,h.1,hl,adK,acA,bB hkid,abA]
  rw[hl]at hB hs h2 ⊢
  have dO:(A++c::B).set A.length (.mk c.key c.data c.an [aI key kid])=A++ak c.key (aI key kid)::B:=by
   rw[afe _ _ (abI _),aeK,afR,o1.2.1,o1.2.2];rfl
  rw[dO];rw[bB hkid]at o2;obtain⟨p1,p2,p3⟩:=fv.1 hB.pw;rw[adM]at p2
  have hP:=FZ hB (aI key kid) g1 (by omega) hkid (fun x hx=>by
   rw[g3]at hx;exact o2 x (aey.1 hx).1) fun x hx b hb=>by
   rw[g3]at hx;exact(p2.1 b hb).2 x (by rw[bB hkid];exact(aey.1 hx).1)
  have hm:=Gy hP (Cs h2);refine⟨hm.YA,?_,?_⟩
  ·have:=hm.sum;simp only[aa1,aa9,aeo,adb,gr,ak,C.mC]at this hs;simp only[ak];omega
  ·rw[hm.en,hen,QZ,adK,acA,dz,g3,abA]
   ·intro a ha;obtain⟨a',ha',hx⟩:=ad7.1 ha;exact hA a' ha' a hx
   ·exact sE hB hBk
def iT(n:N):Prop:=∃d,Good d n∧(ah n).sum≤122∧(n.leaf=true∨2≤n.l.length)
theorem BH:∀{d:Nat} {n:N},Good d n→(ah n).sum≤167→iT (jD n)∧du (jD n)=du n:=by
 have one:∀{d:Nat} {n:N},Good d n→(ah n).sum≤167→n.leaf=true∨n.l.length≠1→iT (jD n)∧du (jD n)=du n:=by
  intro d n h hs h1;rw[cZ _ h1];have hP:Vm d [] (ak aN n) []:=⟨rfl,List.pairwise_singleton _ _,fun x hx=>(by cases hx),fun x hx=>(by cases hx),⟨by show aN.size≤16;rw[bk];omega,rfl,rfl⟩,fun x hx=>nR _,n,rfl,h,hs⟩;rcases rT (p:=0) hP (kid:=n) rfl (m:=aR (.mk 0 false [ak aN n]) n 0 aN) rfl with⟨q1,q2,q3⟩|⟨q1,q2,q3,q4,q5,q6,q7⟩
  ·rw[if_pos (qN q3)];refine⟨⟨d,h,q3,?_⟩,rfl⟩;rcases h1 with h1|h1
   ·exact .inl h1
   ·cases hl:n.leaf with
    |true=>exact .inl rfl
    |false=>
     refine .inr ?_
     cases d with
     |zero=>have:=h.1;rw[hl]at this;cases this
     |succ d=>have:=ad9.2 h.2.1;omega
  ·have hne:atR (ah n)≠0:=by
    intro e;unfold aR at q1;simp only[e,if_true]at q1;cases q1
   rw[if_neg hne]
   have hmd:cG (.mk 0 false [ak aN n]) 0=(aR (.mk 0 false [ak aN n]) n 0 aN).1:=by
    have e1:cellAt [ak aN n] 0=ak aN n:=rfl;have e2:aB (ak aN n)=n:=rfl;have e3:(ak aN n).key=aN:=rfl;unfold cG;simp only[N.eX,e1,e2,e3];rw[if_pos q1]
   rw[hmd]
   have he:du (aR (.mk 0 false [ak aN n]) n 0 aN).1=du n:=by
    have:=q5;simp only[adZ,acA,ae0,ad0,dz]at this;exact this
   have hlen:(aR (.mk 0 false [ak aN n]) n 0 aN).1.l.length=2:=by simpa using q3
   refine⟨⟨d+1,⟨q2,by intro e;rw[e]at hlen;simp at hlen,q4⟩,?_,.inr (by omega)⟩,he⟩;have:(ah (aR (.mk 0 false [ak aN n]) n 0 aN).1).sum≤(([]++ak aN n::[]).map (ba false)).sum+20:=q7
   have e4:(([]++ak aN n::[]).map (ba false)).sum=4:=by
    simp only[adZ,aa9,adT,adb,aeQ,gr,ak,C.mC,bk];omega
   omega
 intro d
 induction d with
 |zero=>intro n h hs;exact one h hs (.inl h.1)
 |succ d ih=>
  intro n h hs;by_cases h1:n.l.length=1
  ·obtain⟨c,hc⟩:=afb.1 h1;obtain⟨_,_,k,hk,hg,hf⟩:=h.2.2.cell c (by rw[hc];exact aeC c);rw[j7 n h.1 hc hk];obtain⟨i1,i2⟩:=ih hg (by have:=hf.2;omega);refine⟨i1,?_⟩;rw[i2,cQ n,h.1,hc,acA,ae0,bB hk,ad0]
  ·exact one h hs (.inr h1)
theorem lS{key val:ByteArray}(hk0:key≠aN)(hk:key.size≤16)(hv:val.size≤400){n:N}(h:iT n):iT (kN key val n)∧du (kN key val n)=qD key val (du n):=by
 obtain⟨d,h1,h2,h3⟩:=h;obtain⟨g1,g2,g3⟩:=A8 hk0 hk hv h1 h2 h3;obtain⟨t1,t2⟩:=BH g1 (by omega);exact⟨t1,t2.trans g3⟩
theorem oU(key:ByteArray):∀{d:Nat} {n:N},Good d n→cD key n=((du n).find? fun c=>eF c.key key).map C.data
 |0,n,h=>by rw[mF _ _ h.1,dn h.1]
 |d+1,n,h=>by
  have hB:=h.2.2;obtain⟨A,c,B,hl,hw,hA,hc,hBk⟩:=jT hB h.2.1 key
  have hcl:n.l[fY n.l key]? =some c:=by rw[←hw];conv=>lhs;rw[hl]
                                        simp
  obtain⟨o1,o2,kid,hkid,o4,o5⟩:=hB.cell c (aap hcl);have hen:du n=A.flatMap (jU false)++(du kid++B.flatMap (jU false)):=by rw[cQ,h.1,hl,adK,acA,bB hkid]
  rw[qK _ _ h.1 hcl hkid,oU key o4,hen,afi,afi];rw[hl]at hB
  have f1:(A.flatMap (jU false)).find? (fun c=>eF c.key key)=none:=aeT.2 fun x hx=>by
   obtain⟨a,ha,hx⟩:=ad7.1 hx;rw[bF.2 (cz (hA a ha x hx))];simp
  have f2:(B.flatMap (jU false)).find? (fun c=>eF c.key key)=none:=aeT.2 fun x hx=>by
   rw[bF.2 (cz (sE hB hBk x hx)).symm];simp
  rw[f1,f2];cases(du kid).find? fun c=>eF c.key key <;>rfl
theorem uG{key:ByteArray}{l:List C}(h:(l.find? fun c=>eF c.key key)=none):AA key l=l:=fx fun a ha=>by
 have:=aeT.1 h a ha;simpa using this
theorem qS(key:ByteArray){n:N}(h:iT n):iT (nf key n)∧du (nf key n)=AA key (du n):=by
 obtain⟨d,h1,h2,h3⟩:=h;unfold nf;have hf:=oU key h1;split
 ·obtain⟨g1,g2,g3⟩:=qR (key:=key) h1 h2 h3;obtain⟨t1,t2⟩:=BH g1 (by omega);exact⟨t1,t2.trans g3⟩
 ·rename_i hn;refine⟨⟨d,h1,h2,h3⟩,(uG ?_).symm⟩;rw[hf]at hn
  cases hx:(du n).find? fun c=>eF c.key key with
  |none=>rfl
  |some c=>rw[hx]at hn;simp at hn
def mW(z:Nat):Nat:=if 16<z then(z+118)/119 else 0
def aV(n:N):List N:=if n.leaf then []else n.l.flatMap fun c=>c.kid.take 1
@[go_sem] def gx (c:C):DV:= .agg [dS c.data,.sl 1 false (c.an.map dI)]
mutual
def dT:N→DV
 | .mk p b l=> .agg [dI p,dB b,.sl 1 false (l.map fun c=>dS c.key),.sl 2 false ((if b then l else []).map gx),.sl 5 false (if b then []else Ki l)]
def dTC:C→List DV
 | .mk _ _ _ kid=>R9 kid
def Ki:List C→List DV
 |[]=>[]
 |c::l=>dTC c++Ki l
def R9:List N→List DV
 |[]=>[]
 |n::_=>[dT n]
end
theorem O3:∀l,R9 l=(l.take 1).map dT
 |[]=>by simp[R9]
 |n::l=>by simp[R9]
theorem FR:∀l,Ki l=(l.flatMap fun c=>c.kid.take 1).map dT
 |[]=>by simp[Ki]
 |c::l=>by
  cases c;simp only[Ki,dTC,O3,FR l,acA,aa1,C.uq]
@[go_sem] def eT (n:N):DV:= .agg [dI n.aj,dB n.leaf,.sl 1 false (n.l.map fun c=>dS c.key),.sl 2 false ((if n.leaf then n.l else []).map gx),.sl 5 false ((aV n).map dT)]
@[go_sem] theorem kT (n:N):dT n=eT n:=by
 cases n with|mk p b l=>
 simp only[dT,eT,N.GS,N.oy,N.eX,aV];cases b <;>simp[FR]
def cT(n:N):List DV:=[dI n.aj,dB n.leaf,.sl 1 false (n.l.map fun c=>dS c.key),.sl 2 false ((if n.leaf then n.l else []).map gx),.sl 5 false ((aV n).map dT)]
theorem gM{n:N}(h:n.leaf=true):aV n=[]:=by unfold aV;rw[h];rfl
theorem H6{n:N}(h:n.leaf=false):aV n=n.l.flatMap fun c=>c.kid.take 1:=by unfold aV;rw[h];rfl
theorem As{l:List C}(h:∀c,c∈l→∃k,c.kid=[k]):(l.flatMap fun c=>c.kid.take 1)=l.map aB:=by
 induction l with
 |nil=>rfl
 |cons c l ih=>
  obtain⟨k,hk⟩:=h c aaX;rw[acA,ih fun c hc=>h c (abn _ hc),hk,aa9,aO hk];rfl
theorem oR{d:Nat}{n:N}(h:Nd (d+1) n):aV n=n.l.map aB:=by
 rw[H6 h.1];exact As fun c hc=>by obtain⟨_,k,hk,_⟩:=h.2.2 c hc;exact⟨k,hk⟩
theorem Bf(w0:W0)(z:Int)(S:St):ab Tryz.prog w0 218 [dI z] S (fun d S'=>d=dI (need z)∧S'=S):=by
 refine aJ [] mx Tryz.func218 rfl rfl (by kernel_rfl) ?_;refine @aa _ (ai @Tryz.ntmps218 ?_);unfold need;refine⟨fun h=>by rw[if_neg (by omega)];rfl,fun h1=>⟨fun h=>by rw[if_neg (by omega)];rfl,fun h2=>?_⟩⟩;rw[if_pos (by omega),aG (n:=z+119) (by omega) (by omega),aG (n:=z+119-1) (by omega) (by omega),Int.tdiv_eq_ediv_of_nonneg (by omega),aG (by omega) (by omega)];omega
mutual
def dH(ends:N→Bool):N→List N
 | .mk p b l=> .mk p b l::(if ends (.mk p b l)then []else if b then []else Cd ends l)
def Zb(ends:N→Bool):C→List N
 | .mk _ _ _ kid=>Fz ends kid
def Cd(ends:N→Bool):List C→List N
 |[]=>[]
 |c::l=>Cd ends l++Zb ends c
def Fz(ends:N→Bool):List N→List N
 |[]=>[]
 |n::_=>dH ends n
end
theorem Nl(ends:N→Bool):∀l,Fz ends l=(l.take 1).flatMap (dH ends)
 |[]=>by simp[Fz]
 |n::l=>by simp[Fz]
theorem Bw(ends:N→Bool):∀l,Cd ends l=(l.flatMap fun c=>c.kid.take 1).reverse.flatMap (dH ends)
 |[]=>by simp[Cd]
 |c::l=>by
  cases c with|mk k d ps kid=>
  have hr:(kid.take 1).reverse=kid.take 1:=by cases kid <;>rfl
  simp only[Cd,Zb,Nl,Bw ends l,acA,List.reverse_append,adK,C.uq,hr]
theorem mE(ends:N→Bool)(n:N):dH ends n=n::(if ends n then []else(aV n).reverse.flatMap (dH ends)):=by
 cases n with|mk p b l=>
 simp only[dH,aV,N.oy,N.eX,Bw];cases b <;>simp
def wB(ends:N→Bool)(s:List N):List N:=s.reverse.flatMap (dH ends)
theorem Jv(ends:N→Bool)(s:List N)(x:N):wB ends (s++[x])=x::wB ends (s++if ends x then []else aV x):=by
 unfold wB;rw[List.reverse_append,List.reverse_cons,List.reverse_nil,adZ,adK,acA,ae0,ad0,mE,aes];congr 1;cases ends x <;>simp[List.reverse_append,adK]
theorem K0(w0:W0)(n:N)(fe:FuncId)(S:St):ab Tryz.prog w0 150 [eT n,.v (.func (.func fe) #[] #[])] S (fun d S'=>∃(b:FN S.box) (c:FN ((b.n,cT n)::S.box)),d= .v (.func (.func 207) #[] #[.pointer (some ⟨b.n,0,none⟩),.pointer (some ⟨c.n,0,none⟩)])∧S'=⟨(c.n,[.v (.func (.func fe) #[] #[])])::(b.n,cT n)::S.box,S.acc⟩):=by
 refine mU [] mx Tryz.func150 rfl rfl (by kernel_rfl) ?_;refine @aa _ (ai @Tryz.ntmps150 ?_);exact fun b c=>⟨b,c,rfl,rfl⟩
theorem Rz{α:Type}(f:α→DV)(l:List α){d:DV}(ho:fk d=true)(F:DV→Prop):Gf (l.map f++[d]) l.length F=F d:=by
 unfold Gf;have h:(l.map f++[d])[l.length]? =some d:=by rw[adN (by simp)];simp
 simp[h];exact fun _=>ho
theorem wH{α:Type}(f:α→DV)(l:List α)(d:DV):(l.map f++[d]).take l.length=l.map f:=by
 rw[aeb (by rw[abv];exact abI _)];exact aaA (by rw[abv];exact abI _)
theorem Eo{L:List (Nat×Ob)}{w m:Nat}{o o':Ob}(h:lk L w=some o')(hm:jF L m):lk (tm L w (m,o)) m=some o:=by
 induction L with
 |nil=>cases h
 |cons p t ih=>
  obtain⟨k,x⟩:=p;simp only[lk]at h;simp only[tm];split
  ·simp[lk]
  ·rename_i hne;rw[if_neg hne]at h;have hk:¬k=m:=fun e=>by have:=n0 hm;rw[←e]at this;simp[lk]at this
   have hm':jF t m:=hm.2.2;simp only[lk,if_neg hk];exact ih h hm'
theorem Dv{L:List (Nat×Ob)}{w m c:Nat}{o:Ob}(h1:c≠w)(h2:c≠m):lk (tm L w (m,o)) c=lk L c:=by
 induction L with
 |nil=>rfl
 |cons p t ih=>
  obtain⟨k,x⟩:=p;simp only[tm];split
  ·rename_i e;subst e;simp only[lk];rw[if_neg (fun e=>h2 e.symm),if_neg (fun e=>h1 e.symm)]
  ·simp only[lk,ih]
theorem Kr{α:Type}:∀{L L':List (Nat×α)} {n:Nat},L.map (·.1)=L'.map (·.1)→lk L n=none→lk L' n=none
 |[],[],_,_,_=>rfl
 |[],_::_,_,h,_=>by simp at h
 |_::_,[],_,h,_=>by simp at h
 |(k,x)::t,(k',x')::t',n,h,hn=>by
  simp only[aa9,ae7]at h;obtain⟨e,h⟩:=h;subst e;simp only[lk]at hn ⊢;split at hn
  ·cases hn
  ·rename_i hne;rw[if_neg hne];exact Kr h hn
theorem Lg(ends:N→Bool)(s:List N):s.length≤(wB ends s).length:=by
 unfold wB;rw[←List.length_reverse]
 induction s.reverse with
 |nil=>exact abI 0
 |cons x t ih=>rw[acA,mE];simp only[c9,abx];omega
theorem Sw(L:List (Nat×List DV))(b c:Nat)(v:List DV):lk (up L b v) c=if b=c then(lk L c).map (fun _=>v)else lk L c:=by
 split
 ·rename_i e;subst e;exact av _ _ _
 ·rename_i e;exact aW e _ _
theorem yd{X T:St}{b:Nat}(h:Has X T)(v:List DV):Has ⟨up X.box b v,X.acc⟩ ⟨up T.box b v,T.acc⟩:=⟨fun c x hc=>by
 simp only[Sw]at hc ⊢;split at hc
 ·rename_i e;obtain⟨y,hy,rfl⟩:=acT.1 hc;rw[h.box _ _ hy,if_pos e];rfl
 ·rename_i e;rw[if_neg e];exact h.box _ _ hc,h.acc⟩
theorem GI{α:Type}{L:List (Nat×α)}{b:Nat}{v:α}(h:lk L b=some v):up L b v=L:=by
 induction L with
 |nil=>rfl
 |cons p t ih=>
  obtain⟨k,x⟩:=p;simp only[lk]at h;simp only[up];split
  ·rename_i e;rw[if_pos e]at h;cases h;rfl
  ·rename_i e;rw[if_neg e]at h;rw[ih h]
theorem TG(L:List (Nat×Ob))(b c:Nat)(v:Ob):lk (up L b v) c=if b=c then(lk L c).map (fun _=>v)else lk L c:=by
 split
 ·rename_i e;subst e;exact av _ _ _
 ·rename_i e;exact aW e _ _
theorem AV{X T:St}{b l:Nat}(h:Has X T)(v:List DV)(o:Ob):Has ⟨up X.box b v,up X.acc l o⟩ ⟨up T.box b v,up T.acc l o⟩:=⟨(yd h v).box,fun c x hc=>by
 simp only[TG]at hc ⊢;split at hc
 ·rename_i e;obtain⟨y,hy,rfl⟩:=acT.1 hc;rw[h.acc _ _ hy,if_pos e];rfl
 ·rename_i e;rw[if_neg e];exact h.acc _ _ hc⟩
theorem LI{X T:St}{b l:Nat}{v:List DV}{o:Ob}(hb:¬lk X.box b=none)(hl:¬lk X.acc l=none):Kp X T ⟨up T.box b v,up T.acc l o⟩:=⟨fun c x hc hx=>by
 show lk (up T.box b v) c=some x;rw[aW (fun e=>hb (by rw[e];exact hc))];exact hx,fun c x hc hx=>by
 show lk (up T.acc l o) c=some x;rw[aW (fun e=>hl (by rw[e];exact hc))];exact hx⟩
structure Wk1 where
 T:St
 w:Nat
 pre:List N
 s:List N
theorem S8(w0:W0)(l b2 b3:Nat)(n:N)(ends:N→Bool)(fe:FuncId)(X:List N→St)(B:Nat)(hB:(dH ends n).length≤B)(hB2:B≤1048576)
 (h2:∀pre,lk (X pre).box b2=some (cT n)) (h3:∀pre,lk (X pre).box b3=some [.v (.func (.func fe) #[] #[])]) (hfe:okF Tryz.prog fe=true)
 (hend:∀x T,ab Tryz.prog w0 fe [eT x] T (fun d T'=>d=dB (ends x)∧T'=T))
 (hdb:∀pre,(X pre).box.map (·.1)=(X []).box.map (·.1)) (hda:∀pre,(X pre).acc.map (·.1)=(X []).acc.map (·.1))
 (hy:YK Tryz.prog w0 l X (fun x=>[eT x]) (dH ends n)):∀T,Has (X []) T→ab Tryz.prog w0 207 [.v (.func (.yield l) #[] #[]),.v (.pointer (some ⟨b2,0,none⟩)),.v (.pointer (some ⟨b3,0,none⟩))] T (fun _ T'=>Has (X (dH ends n)) T'):=by
 intro T hT;have t2:lk T.box b2=some (cT n):=hT.box _ _ (h2 []);have t3:lk T.box b3=some [.v (.func (.func fe) #[] #[])]:=hT.box _ _ (h3 []);refine mU [0] mx Tryz.func207 rfl rfl (by kernel_rfl) ?_;simp only[Tryz.ntmps207,abx,acL,Nat.reduceAdd,Nat.reduceSub,List.reduceReplicate,aes,adZ];refine @aa _ (eE @Tryz.ntmps207 @t2 @t3 ?_);refine ZX (by kernel_rfl) ?_;simp(maxDischargeDepth:=12) (maxSteps:=1000000) -implicitDefEqProofs only[go_sem,Nat.reduceAdd,Nat.reduceSub,Nat.reduceMul,Nat.reduceLeDiff,Nat.reduceEqDiff,Nat.reduceGT,Nat.reduceBEq,reduceCtorEq,↓reduceIte,Int.reduceToNat,Int.reduceLE,Int.reduceLT,Int.reduceNe,Int.reduceEq,t2,t3,cT];intro lb;refine jf [] [0,2,4] (fun s:Wk1=>[(4,.acc s.w s.s.length)]) (fun s=>s.T) (fun s=>Has (X s.pre) s.T∧lk s.T.acc s.w=some (.arr 5 (s.s.map dT))∧lk (X s.pre).acc s.w=none∧s.pre++wB ends s.s=dH ends n) (fun s=>(dH ends n).length-s.pre.length) ⟨⟨T.box,(lb.n,.arr 5 [dT n])::T.acc⟩,lb.n,[],[n]⟩ mx (by kernel_rfl) ?_ ?_
 ·have hnone:lk T.acc lb.n=none:=kI lb;refine⟨⟨⟨hT.box,fun l' o ho=>?_⟩,by simp[lk],?_,?_⟩,?_,?_⟩
  ·have:=hT.acc _ _ ho;show lk ((lb.n,_)::T.acc) l'=_;simp only[lk];rw[if_neg (fun e=>by rw[e,this]at hnone;cases hnone)];exact this
  ·show lk (X []).acc lb.n=none
   cases hx:lk (X []).acc lb.n with
   |none=>rfl
   |some o=>rw[hT.acc _ _ hx]at hnone;cases hnone
  ·show []++wB ends [n]=dH ends n;simp[wB]
  ·exact @aa _ aF
  ·exact @aa _ aF
 ·rintro⟨T,w,pre,st⟩ ⟨hT',hw,hwX,hV⟩;simp only at hT' hw hwX hV;have t2:lk T.box b2=some (cT n):=hT'.box _ _ (h2 pre);have t3:lk T.box b3=some [.v (.func (.func fe) #[] #[])]:=hT'.box _ _ (h3 pre);rcases List.eq_nil_or_concat st with rfl|⟨st,x,rfl⟩
  ·have hV':pre=dH ends n:=by simpa[wB]using hV
   refine @aa _ (aM @t3 @hw ?_);rw[←hV'];exact⟨fun h=>absurd h (by omega),fun _=>hT'⟩
  ·rw[List.concat_eq_append]at hw hV ⊢;rw[Jv]at hV;have hlen:(st++[x]).length=st.length+1:=by simp
   have hw2:lk T.acc w=some (.arr 5 (st.map dT++[eT x])):=by rw[hw,aa1,aa9,adT,kT]
   have hsl:=Lg ends (st++if ends x then []else aV x);have hVl:pre.length+(1+(wB ends (st++if ends x then []else aV x)).length)≤B:=by rw[←hV]at hB;simp only[c9,abx]at hB;omega
   rw[c9]at hsl;have ewrap:IntKind.i64.wrap (((st.length+1:Nat):Int)-1)=(st.length:Int):=by rw[aG] <;>omega
   refine @aa _ (ov @t3 @hw2 @hlen @ewrap @Rz @wH ?_);refine⟨fun _ b5=> .inl ⟨.inr (by omega),⟨_,_,_,rfl⟩,fun m=>?_⟩,fun h=>absurd (by omega) h⟩;have hbn:lk T.box b5.n=none:=kI b5;have hmn:lk T.acc m.n=none:=kI m
   have hXb:lk (X pre).box b5.n=none:=by
    cases hx:lk (X pre).box b5.n with
    |none=>rfl
    |some o=>rw[hT'.box _ _ hx]at hbn;cases hbn
   have hXm:lk (X pre).acc m.n=none:=by
    cases hx:lk (X pre).acc m.n with
    |none=>rfl
    |some o=>rw[hT'.acc _ _ hx]at hmn;cases hmn
   have hmw:m.n≠w:=by rintro e;rw[e,hw]at hmn;cases hmn
   have hT1:Has (X pre) ⟨(b5.n,cT x)::T.box,tm T.acc w (m.n,.arr 5 (st.map dT))⟩:=⟨fun c y hc=>by
    simp only[lk];rw[if_neg (fun e=>by rw[←e,hXb]at hc;cases hc)];exact hT'.box c y hc,fun c o hc=>by
    rw[Dv (fun e=>by rw[e,hwX]at hc;cases hc) (fun e=>by rw[e,hXm]at hc;cases hc)];exact hT'.acc c o hc⟩
   have hpre:(pre++[x]) <+: dH ends n:=⟨_,by rw[abA];exact hV⟩;refine NG (hy pre x _ hpre hT1) ?_;rintro d T2 ⟨rfl,hT2,hK⟩;have u5:lk T2.box b5.n=some (cT x):=hK.box _ _ hXb (by simp only[lk,if_true];rfl);have um:lk T2.acc m.n=some (.arr 5 (st.map dT)):=hK.acc _ _ hXm (Eo hw m.h);have u3:lk T2.box b3=some [.v (.func (.func fe) #[] #[])]:=hT2.box _ _ (h3 _);have hX2m:lk (X (pre++[x])).acc m.n=none:=Kr ((hda _).trans (hda _).symm) hXm
   have hmeas:(dH ends n).length-(pre++[x]).length<(dH ends n).length-pre.length:=by
    have:=hpre.length_le;rw[c9]at this ⊢;simp only[abx,acL]at*;omega
   simp(maxDischargeDepth:=12) (maxSteps:=1000000) -implicitDefEqProofs only[go_sem,Nat.reduceAdd,Nat.reduceSub,Nat.reduceMul,Nat.reduceLeDiff,Nat.reduceEqDiff,Nat.reduceGT,Nat.reduceBEq,reduceCtorEq,↓reduceIte,Int.reduceToNat,Int.reduceLE,Int.reduceLT,Int.reduceNe,Int.reduceEq,u5,um,u3,cT,hfe];refine ae (hend x _) ?_;simp(maxDischargeDepth:=12) (maxSteps:=1000000) -implicitDefEqProofs only[go_sem,Nat.reduceAdd,Nat.reduceSub,Nat.reduceMul,Nat.reduceLeDiff,Nat.reduceEqDiff,Nat.reduceGT,Nat.reduceBEq,reduceCtorEq,↓reduceIte,Int.reduceToNat,Int.reduceLE,Int.reduceLT,Int.reduceNe,Int.reduceEq,u5,um,u3,cT]
   have hlV:(st.length+(aV x).length)*88≤140737488355328∧st.length+(aV x).length≤maxLen∨ends x=true:=by
    cases he:ends x
    ·rw[he]at hsl hVl;simp only[adP,if_false]at hsl hVl;refine .inl ⟨by omega,?_⟩;have:maxLen=9223372036854775807:=rfl;omega
    ·exact .inr rfl
   refine⟨fun he=>?_,fun he=>?_⟩
   ·rw[he,if_pos rfl,ad0]at hV;refine⟨⟨T2,m.n,pre++[x],st⟩,⟨hT2,um,hX2m,by rw[abA];exact hV⟩,hmeas,.refl _,.refl _⟩
   ·rw[he,if_neg (by simp)]at hV;obtain⟨q1,q2⟩:=hlV.resolve_right (by rw[he];simp);refine⟨q1,q2,⟨⟨T2.box,up T2.acc m.n (.arr 5 ((st++aV x).map dT))⟩,m.n,pre++[x],st++aV x⟩,⟨⟨hT2.box,fun l o hl=>?_⟩,?_,hX2m,by rw[abA];exact hV⟩,hmeas,Wk.eq (by rw[c9]),.refl _⟩
    ·show lk (up T2.acc m.n _) l=some o;rw[aW (fun e=>by rw[←e,hX2m]at hl;cases hl)];exact hT2.acc l o hl
    ·show lk (up T2.acc m.n _) m.n=_;rw[av,um];rfl
end Go.Proofs.YtpjenciplibdnaaGreatDoor
namespace Go.Proofs
open Go.Shelf
def Tryz.Cb:Go.Shelf.Ren:=⟨fun|189=>51|125=>101|257=>100|128=>161|129=>162|294=>152|295=>153|296=>154|297=>155|298=>156|299=>157|216=>158|300=>159|301=>160|328=>208|329=>209|330=>210|331=>211|332=>212|215=>213|343=>241|n=>n,fun|28=>37|3=>3|46=>194|0=>0|51=>197|53=>26|4=>4|183=>249|182=>248|131=>151|5=>5|9=>9|218=>295|222=>299|228=>325|229=>326|n=>n,fun|n=>n⟩
theorem Tryz.F4:Go.Proofs.Lays.n189 Tryz.prog Tryz.Cb:={
 mixed:=by kernel_rfl
 f125:=Tryz.func101.trans (congrArg some (by kernel_rfl))
 f128:=Tryz.func161.trans (congrArg some (by kernel_rfl))
 f129:=Tryz.func162.trans (congrArg some (by kernel_rfl))
 f189:=Tryz.func51.trans (congrArg some (by kernel_rfl))
 f215:=Tryz.func213.trans (congrArg some (by kernel_rfl))
 f216:=Tryz.func158.trans (congrArg some (by kernel_rfl))
 f257:=Tryz.func100.trans (congrArg some (by kernel_rfl))
 f294:=Tryz.func152.trans (congrArg some (by kernel_rfl))
 f295:=Tryz.func153.trans (congrArg some (by kernel_rfl))
 f296:=Tryz.func154.trans (congrArg some (by kernel_rfl))
 f297:=Tryz.func155.trans (congrArg some (by kernel_rfl))
 f298:=Tryz.func156.trans (congrArg some (by kernel_rfl))
 f299:=Tryz.func157.trans (congrArg some (by kernel_rfl))
 f300:=Tryz.func159.trans (congrArg some (by kernel_rfl))
 f301:=Tryz.func160.trans (congrArg some (by kernel_rfl))
 f328:=Tryz.func208.trans (congrArg some (by kernel_rfl))
 f329:=Tryz.func209.trans (congrArg some (by kernel_rfl))
 f330:=Tryz.func210.trans (congrArg some (by kernel_rfl))
 f331:=Tryz.func211.trans (congrArg some (by kernel_rfl))
 f332:=Tryz.func212.trans (congrArg some (by kernel_rfl))
 f343:=Tryz.func241.trans (congrArg some (by kernel_rfl))
 t0:=Tryz.underlying0
 a0:=Tryz.isAgg0
 z0:=Tryz.sizeOf0
 v0:=Tryz.zeroValue0
 t3:=Tryz.underlying3
 a3:=Tryz.isAgg3
 z3:=Tryz.sizeOf3
 v3:=Tryz.zeroValue3
 t4:=Tryz.underlying4
 a4:=Tryz.isAgg4
 z4:=Tryz.sizeOf4
 v4:=Tryz.zeroValue4
 t5:=Tryz.underlying5
 a5:=Tryz.isAgg5
 z5:=Tryz.sizeOf5
 v5:=Tryz.zeroValue5
 t9:=Tryz.underlying9
 a9:=Tryz.isAgg9
 z9:=Tryz.sizeOf9
 v9:=Tryz.zeroValue9
 t28:=Tryz.underlying37
 a28:=Tryz.isAgg37
 z28:=Tryz.sizeOf37
 v28:=Tryz.zeroValue37
 t46:=Tryz.underlying194
 a46:=Tryz.isAgg194
 z46:=Tryz.sizeOf194
 v46:=Tryz.zeroValue194
 t51:=Tryz.underlying197
 a51:=Tryz.isAgg197
 z51:=Tryz.sizeOf197
 v51:=Tryz.zeroValue197
 t53:=Tryz.underlying26
 a53:=Tryz.isAgg26
 z53:=Tryz.sizeOf26
 v53:=Tryz.zeroValue26
 t131:=Tryz.underlying151
 a131:=Tryz.isAgg151
 z131:=Tryz.sizeOf151
 v131:=Tryz.zeroValue151
 t182:=Tryz.underlying248
 a182:=Tryz.isAgg248
 z182:=Tryz.sizeOf248
 v182:=Tryz.zeroValue248
 t183:=Tryz.underlying249
 a183:=Tryz.isAgg249
 z183:=Tryz.sizeOf249
 v183:=Tryz.zeroValue249
 t218:=Tryz.underlying295
 a218:=Tryz.isAgg295
 z218:=Tryz.sizeOf295
 v218:=Tryz.zeroValue295
 t222:=Tryz.underlying299
 a222:=Tryz.isAgg299
 z222:=Tryz.sizeOf299
 v222:=Tryz.zeroValue299
 t228:=Tryz.underlying325
 a228:=Tryz.isAgg325
 z228:=Tryz.sizeOf325
 v228:=Tryz.zeroValue325
 t229:=Tryz.underlying326
 a229:=Tryz.isAgg326
 z229:=Tryz.sizeOf326
 v229:=Tryz.zeroValue326}
open Go.Sort Go.RowKit in
theorem Tryz.slices_Sort_int(blk off cap:Nat)(zs:List Int)(w:World)(hH:Holds (Value.int .i64) w blk off zs.toArray)(hblk:blk<w.heap.size)(hsz:zs.length<4611686018427387904):
 Calls Tryz.prog 51 #[.slice (some ⟨blk,off,none⟩) zs.length cap] w fun e w'=>
  e= .returned (.tuple #[])∧∃n os,w'=grow (putRow (Value.int .i64) (Sort.ahead w n) blk off (zs.mergeSort fun x y=>decide (x≤y)).toArray) os:=Any.slices_Sort_int Tryz.F4 blk off cap zs w hH hblk hsz
open Go.RowKit Go.Sort in
theorem Tryz.slices_Sort_int_none(p:Option Addr)(cap:Nat)(w:World):
 Calls Tryz.prog 51 #[.slice p 0 cap] w fun e w'=>e= .returned (.tuple #[])∧w'=w:=Any.slices_Sort_int_none Tryz.F4 p cap w
end Go.Proofs
namespace Go.Proofs.YtpjenciplibdnaaGreatDoor
open Aml Go
def bE(l:List Int):List Int:=l.mergeSort fun x y=>decide (x≤y)
theorem aE(l:List Int):(bE l).length=l.length:=List.length_mergeSort l
theorem BD{l:List Int}{j:Nat}{a:Int}(h:l[j]? =some a):l.toArray[j]! =a:=by
 obtain⟨hlt,rfl⟩:=aaq.1 h;rw[getElem!_pos l.toArray j (by simpa using hlt)];simp
theorem Ca{w:World}{n b e:Nat}{cs:Array Value}{zs:List Int}{os:Array Obj}(hb:w.heap[b]? =some (.cells cs e (0,0)))(hn:zs.length≤cs.size):
 ∃cs',(Go.Sort.grow (Go.Sort.putRow (Value.int .i64) (Go.Sort.ahead w n) b 0 zs.toArray) os).heap[b]? =some (.cells cs' e (0,0))∧cs'.size=cs.size∧(∀(i:Nat) (a:Int),zs[i]? =some a→cs'[i]? =some (.int .i64 a))∧∀x,x∈cs'.toList→x∈cs.toList∨∃a,x= .int .i64 a:=by
 refine⟨Go.Sort.putCells (Value.int .i64) 0 zs.toArray cs,?_,by simp[Go.Sort.putCells],fun i a hi=>?_,fun x hx=>?_⟩
 ·rw[Go.Sort.heap_grow_old _ _ (by have:=(abF.1 hb).1;simpa using this)];simp only[Go.Sort.putRow,Go.Sort.mapBlock,Go.Sort.heap_ahead,Array.getElem?_modify,if_true,hb,aeN,Go.Sort.onCells]
 ·have hlt:i<zs.length:=(aaq.1 hi).1;have hc:cs[i]? =some cs[i]:=aeL (by omega);simp only[Go.Sort.putCells,Array.getElem?_mapIdx,hc,aeN];rw[if_pos (by simp;omega)];simp only[afW];rw[BD hi]
 ·obtain⟨i,hi⟩:=adX.1 hx;rw[aez]at hi;simp only[Go.Sort.putCells,Array.getElem?_mapIdx,acT]at hi;obtain⟨y,hy,rfl⟩:=hi;split
  ·exact .inr ⟨_,rfl⟩
  ·exact .inl (Array.mem_toList_iff.2 (Array.mem_of_getElem? hy))
theorem nw(w0:W0){l:Nat}{zs:List Int}{S:St}(hl:lk S.acc l=some (.arr 1 (zs.map dI)))(hsz:zs.length<4611686018427387904):
 ab Tryz.prog w0 51 [.acc l zs.length] S (fun d S'=>d= .bM []∧S'=⟨S.box,up S.acc l (.arr 1 ((bE zs).map dI))⟩):=by
 intro g vs w h1 h2;obtain⟨u,us,hvs,hr,h3⟩:=h2.cF;have hus:us=[]:=aa4 (by have:=h3.len;simpa using this.symm);subst hus;have hvs':vs= #[u]:=by rw[←Array.toArray_toList (xs:=vs),hvs]
 subst hvs';obtain⟨o,c,hv,ha⟩:=iM hr;subst hv;by_cases hz:zs=[]
 ·subst hz;refine(Tryz.slices_Sort_int_none o c w).mono ?_;rintro e w' ⟨rfl,rfl⟩;refine⟨_,g,.bM [],_,rfl,.refl g,?_,.bM [] [] rfl (by intro i d u h;simp at h),rfl,rfl⟩;have:bE []=[]:=by simp[bE]
  rw[this,GB hl];exact h1
 ·have hpos:0<zs.length:=ad9.2 hz;obtain⟨ow,hO⟩:=h1.open_;obtain⟨hs,⟨he,o2,_⟩|⟨b,c2,cs,e,q1,q2,q3,q4,q5,q6,q7,q8,q8x,us,q9,q10,q11,q12⟩⟩:=hO.acc l _ (cP hl)
  ·exact absurd (by simpa using he) hz
  ·rw[abv]at q1 q7;have q1':=q1;rw[ha]at q1;simp only[adO,Value.slice.injEq,true_and]at q1;obtain⟨rfl,rfl⟩:=q1;rw[afS]at q6;have hul:us.length=zs.length:=by have:=q9.len;simpa using this.symm
   have hus:∀(i:Nat) (a:Int),zs[i]? =some a→us[i]? =some (.int .i64 a):=by
    intro i a hi;have hlt:i<us.length:=by rw[hul];exact(aaq.1 hi).1
    have hu:us[i]? =some us[i]:=aay hlt;have:=q9.at_ i (dI a) _ (by simp[hi]) hu;have:=aD this;rw[hu,this]
   have hcs:∀(i:Nat) (a:Int),zs[i]? =some a→cs[i]? =some (.int .i64 a):=by
    intro i a hi;have:=q12 i _ 0 _ (hus i a hi) (show(Value.int IntKind.i64 a).cells[0]? =some (.int .i64 a)by rfl);simpa using this
   have hH:Go.Sort.Holds (Value.int .i64) w b 0 zs.toArray:=by
    intro j hj;have hj':j<zs.length:=by simpa using hj
    have hi:zs[j]? =some zs[j]:=aay hj';constructor
    ·rw[de q5,aeD,hcs j _ hi,BD hi]
    ·simp[World.frozen?,q5]
   refine(Tryz.slices_Sort_int b 0 c zs w hH (dA q5) hsz).mono ?_;rintro ex w' ⟨rfl,n,os,rfl⟩;obtain⟨cs',h5,h6,h7,h8⟩:=Ca (n:=n) (os:=os) (zs:=bE zs) q5 (by rw[aE];omega);refine⟨_,g,.bM [],_,rfl,.refl g,?_,.bM [] [] rfl (by intro i d u h;simp at h),rfl,rfl⟩;refine h1.Ny (us:=(bE zs).map fun a=>Value.int .i64 a) (b:=b) (c:=c) (e:=e) (cs:=cs') hl (by rw[abv];exact ha) (by simp[aE]) (by omega) h5 (by omega) ?_ (by simp) ?_ ?_ ?_ ?_ ?_ fun x hx=>(h8 x hx).elim (q8x x) fun⟨a,e⟩=>by rw[e];rfl
   ·refine h1.below.step ⟨rfl,rfl,rfl,by simp,fun k hk=>?_,Nat.le_add_right _ _⟩ b (nz q5) fun k hk hne=>?_
    ·rw[Go.Sort.heap_grow_old _ _ (by simp;exact afd hk h1.below.size)];have:b≠k:=by omega
     simp[Go.Sort.putRow,Go.Sort.mapBlock,Array.getElem?_modify,this]
    ·rw[Go.Sort.heap_grow_old _ _ (by simp;exact hk)];have:b≠k:=fun e=>hne e.symm;simp[Go.Sort.putRow,Go.Sort.mapBlock,Array.getElem?_modify,this]
   ·intro k hk hne;rw[Go.Sort.heap_grow_old _ _ (by simp;exact hk)];have:b≠k:=fun e=>hne e.symm;simp[Go.Sort.putRow,Go.Sort.mapBlock,Array.getElem?_modify,this]
   ·exact⟨by simp,fun i d u a1 a2=>by
     simp only[acP,acT]at a1 a2;obtain⟨x,hx,rfl⟩:=a1;obtain⟨y,hy,rfl⟩:=a2;rw[hx]at hy;cases hy;exact .v _ rfl⟩
   ·intro i u hi;simp only[acP,acT]at hi;obtain⟨x,_,rfl⟩:=hi;rfl
   ·intro u hu x hx;obtain⟨a,_,rfl⟩:=adS.1 hu;simp[Value.cells]at hx;subst hx;rfl
   ·intro i u j x hi hj;simp only[acP,acT]at hi;obtain⟨a,ha',rfl⟩:=hi;have hj0:j=0:=by have:=(abF.1 hj).1;simp[Value.cells]at this;exact this
    subst hj0;simp[Value.cells]at hj;subst hj;simpa using h7 i a ha'
theorem SO(w0:W0)(x:N)(S:St):ab Tryz.prog w0 225 [eT x] S (fun d S'=>d=dB (decide (x.aj≠0))∧S'=S):=by
 refine aJ [] mx Tryz.func225 rfl rfl (by kernel_rfl) ?_;exact @aa _ (jd @Tryz.ntmps225)
theorem VP(w0:W0)(x:N)(S:St):ab Tryz.prog w0 151 [eT x] S (fun d S'=>d=dB false∧S'=S):=by
 refine aJ [] mx Tryz.func151 rfl rfl (by kernel_rfl) ?_;exact @aa _ (jd @Tryz.ntmps151)
def Sr(c:C):Nat:=if c.an=[]then need (c.data.size:Int)else 0
def xe(l:List C):Nat:=(l.map Sr).sum
def D2(x:N):Nat:=if x.aj≠0 then 0 else if x.leaf=true∧x.l=[]then 0 else 1+xe (if x.leaf then x.l else [])
theorem AI{l:List C}{k:Nat}{c:C}(h:l[k]? =some c):xe (l.take (k+1))=xe (l.take k)+Sr c:=by
 unfold xe;rw[abZ,h];simp
theorem B5(l:List C)(k:Nat):xe (l.take k)≤xe l:=by
 have:=congrArg xe (adI k l);simp only[xe,aa1,aeo]at this ⊢;omega
def yp(l:List N):Nat:=(l.map D2).sum
theorem J6(l:List N)(x:N):yp (l++[x])=yp l+D2 x:=by simp[yp]
theorem QD{l m:List N}(h:l <+: m):yp l≤yp m:=by
 obtain⟨t,rfl⟩:=h;simp[yp]
def laidB(x:N):Bool:=decide (x.aj≠0)
theorem T5(w0:W0)(n:N)(S:St)(hV:(dH laidB n).length≤1048576)(hF:yp (dH laidB n)≤1099511627776)(hl:∀x,x∈dH laidB n→x.l.length≤1048576):
 ab Tryz.prog w0 180 [eT n] S (fun d S'=>d=dI (yp (dH laidB n))∧S'=S):=by
 refine aJ [] mx Tryz.func180 rfl rfl (by kernel_rfl) ?_;refine @aa _ (ai @Tryz.ntmps180 ?_);intro b b1 b2;refine bC (K0 w0 n 225 _) ?_;rintro d S' ⟨b3,b4,rfl,rfl⟩;refine @aa _ (af ?_);refine sa [11] (fun pre=>⟨(b4.n,[.v (.func (.func 225) #[] #[])])::(b3.n,cT n)::(b2.n,[dI (yp pre)])::(b1.n,[.v (.func (.func 225) #[] #[])])::(b.n,cT n)::S.box,S.acc⟩) (fun x=>[eT x]) (dH laidB n) mx (by kernel_rfl) rfl rfl rfl (fun _=>rfl) (fun _=>rfl) (fun _=>rfl) ?_ ?_ ?_
 ·intro l w1 hy T hT;exact S8 w1 l b3.n b4.n n laidB 225 _ _ hV (abI _) (fun _=>by exact @aa _ aF) (fun _=>by exact @aa _ aF) (by simp only[go_sem]) (fun x T=>SO w1 x T) (fun _=>rfl) (fun _=>rfl) hy T hT
 ·intro pre x T hp hT;have t2:lk T.box b2.n=some [dI (yp pre)]:=hT.box _ _ (by exact @aa _ aF);have t1:lk T.box b1.n=some [.v (.func (.func 225) #[] #[])]:=hT.box _ _ (by exact @aa _ aF);simp only[jZ];refine @aa _ (aM @t1 @t2 ?_);intro b5;refine ae (SO w0 x _) ?_;have hfr:=J6 pre x;have hfp:=aeq (QD hp) hF;have hxl:=hl x (by obtain⟨t,ht⟩:=hp;rw[←ht];simp);have hb5:¬b5.n=b2.n:=fun e=>by have:=kI b5;rw[e,t2]at this;cases this
  have h1:D2 x=if x.aj≠0 then 0 else if x.leaf=true∧x.l=[]then 0 else 1+xe (if x.leaf then x.l else []):=rfl
  have hH:∀v,v=(yp (pre++[x]):Int)→Has _ ⟨up T.box b2.n [dI v],T.acc⟩:=fun v hv=>by rw[hv];exact yd hT _
  have hu:∀v:Int,up ((b4.n,[.v (.func (.func 225) #[] #[])])::(b3.n,cT n)::(b2.n,[dI (yp pre)])::(b1.n,[.v (.func (.func 225) #[] #[])])::(b.n,cT n)::S.box) b2.n [dI v]=(b4.n,[.v (.func (.func 225) #[] #[])])::(b3.n,cT n)::(b2.n,[dI v])::(b1.n,[.v (.func (.func 225) #[] #[])])::(b.n,cT n)::S.box:=fun v=>by exact @aa _ aF
  have hK:∀v,Kp ⟨(b4.n,[.v (.func (.func 225) #[] #[])])::(b3.n,cT n)::(b2.n,[dI (yp pre)])::(b1.n,[.v (.func (.func 225) #[] #[])])::(b.n,cT n)::S.box,S.acc⟩ T ⟨up T.box b2.n v,T.acc⟩:=fun v=>Kp.up (by exact @aa _ aF);simp only[hu]at hH;refine @aa _ (aM @t1 @t2 ?_);refine⟨fun hp0=>?_,fun hp0=>⟨fun hlf=>⟨fun hl0=>?_,fun hl0=>?_⟩,fun hlf=>?_⟩⟩
  ·rw[if_pos hp0]at h1;rw[h1]at hfr;rw[hfr];exact⟨hT.aX b5 _ rfl,(Kp.refl _ _).aX b5 _ rfl⟩
  ·have hl1:x.l=[]:=aa4 (by omega);rw[if_neg hp0,if_pos ⟨hlf,hl1⟩]at h1;rw[h1]at hfr;rw[hfr];exact⟨hT.aX b5 _ rfl,(Kp.refl _ _).aX b5 _ rfl⟩
  all_goals
   have hlL:(if x.leaf=true then x.l else []).length≤1048576:=by split <;>first|exact hxl|exact aeh _
   generalize hL:(if x.leaf=true then x.l else [])=L at*
   have h1:D2 x=1+xe L:=by
    rw[h1,if_neg hp0,if_neg (fun e=>by simp_all)]
   refine aw [11] L.length [3,4,11,28,29,30] (fun k=>[(30,dI k)]) (fun k=>⟨up T.box b2.n [dI ((yp pre+1+xe (L.take k):Nat):Int)],T.acc⟩) (fun _=>True) mx (by kernel_rfl) ?_ ?_
   ·refine @aa _ (af ?_);refine .aX ?_;rw[show IntKind.i64.wrap ((yp pre:Int)+1)=((yp pre+1+xe []:Nat):Int)from by rw[aG (by omega) (by omega)];simp[xe]];exact .refl _
   ·intro k hk _;have e2:∀z:List DV,lk (up T.box b2.n z) b2.n=some z:=fun z=>by rw[av,t2];rfl
    have hle:=B5 L k;refine @aa _ (aM @t1 @t2 ?_);refine⟨fun hlt=>⟨hlt,fun c hc b6=>⟨fun hp0=>?_,fun hp0=>⟨hlt,by rw[aG (by omega) (by omega)];omega,.aX ?_⟩⟩⟩,fun hge=>?_⟩
    ·have hne:¬b6.n=b2.n:=fun e=>by have:=kI b6;rw[e,e2]at this;cases this
     have hpl:c.an=[]:=aa4 (by omega);refine pT mx (by kernel_rfl) ?_;refine @aa _ (aM @e2 @hne ?_);refine kM (fun B hB=>Bf w0 _ _) ?_;have hc1:Sr c=need (c.data.size:Int):=if_pos hpl;have hs:=AI hc;have hle':=B5 L (k+1);refine @aa _ (eE @e2 @hne @sZ ?_);refine⟨hlt,by rw[aG (by omega) (by omega)];omega,.aX ?_⟩;rw[show IntKind.i64.wrap (((yp pre+1+xe (L.take k):Nat):Int)+(need (c.data.size:Int):Int))=((yp pre+1+xe (L.take (k+1)):Nat):Int)from by rw[aG (by omega) (by omega)];omega];exact .refl _
    ·rw[AI hc,show Sr c=0 from if_neg fun e=>by rw[e]at hp0;exact hp0 rfl];exact .refl _
    ·have hkL:k=L.length:=by omega
     rw[hkL,aed];exact⟨hH _ (by omega),hK _⟩
 ·exact @aa _ aF
def Og(x:N):List Int:=(if x.aj≠0 then [x.aj]else [])++(if x.leaf then x.l else []).flatMap C.an
def nk(l:List N):List Int:=l.flatMap Og
theorem zU(l:List N)(x:N):nk (l++[x])=nk l++Og x:=by simp[nk]
theorem Qn{l m:List N}(h:l <+: m):(nk l).length≤(nk m).length:=by
 obtain⟨t,rfl⟩:=h;simp[nk]
def rW(x:N):Bool:=false
theorem Vz(w0:W0)(n:N)(S:St)(hV:(dH rW n).length≤1048576)(hF:(nk (dH rW n)).length≤1073741824)(hl:∀x,x∈dH rW n→x.l.length≤1048576):
 ab Tryz.prog w0 98 [eT n] S (fun d S'=>∃m:FN S.acc,d= .acc m.n (nk (dH rW n)).length∧S'=⟨S.box,(m.n,.arr 1 ((bE (nk (dH rW n))).map dI))::S.acc⟩):=by
 refine rz [] mx Tryz.func98 rfl rfl (by kernel_rfl) ?_;refine @aa _ (ai @Tryz.ntmps98 ?_);intro b b1;refine bC (K0 w0 n 151 _) ?_;rintro d S' ⟨b3,b4,rfl,rfl⟩;refine @aa _ (af ?_);refine bW b1.n 0 1 (by omega) (ds:=[.sl 0 true []]) (by exact @aa _ aF) rfl fun lb=>?_;refine @aa _ (af ?_);refine sa [] (fun pre=>⟨(b4.n,[.v (.func (.func 151) #[] #[])])::(b3.n,cT n)::(b1.n,[.acc lb.n (nk pre).length])::(b.n,cT n)::S.box,(lb.n,.arr 1 ((nk pre).map dI))::S.acc⟩) (fun x=>[eT x]) (dH rW n) mx (by kernel_rfl) rfl rfl rfl (fun _=>rfl) (fun _=>rfl) (fun _=>rfl) ?_ ?_ ?_
 ·intro l w1 hy T hT;exact S8 w1 l b3.n b4.n n rW 151 _ _ hV (abI _) (fun _=>by exact @aa _ aF) (fun _=>by exact @aa _ aF) (by simp only[go_sem]) (fun x T=>VP w1 x T) (fun _=>rfl) (fun _=>rfl) hy T hT
 ·intro pre x T hp hT;have t1:lk T.box b1.n=some [.acc lb.n (nk pre).length]:=hT.box _ _ (by exact @aa _ aF);have u1:lk T.acc lb.n=some (.arr 1 ((nk pre).map dI)):=hT.acc _ _ (by exact @aa _ aF);have hxl:=hl x (by obtain⟨t,ht⟩:=hp;rw[←ht];simp);have hpl:=aeq (Qn hp) hF;rw[zU]at hpl;have h1:Og x=(if x.aj≠0 then [x.aj]else [])++(if x.leaf then x.l else []).flatMap C.an:=rfl;rw[c9]at hpl;have hH:∀l:List Int,l=nk (pre++[x])→Has _ ⟨up T.box b1.n [.acc lb.n l.length],up T.acc lb.n (.arr 1 (l.map dI))⟩:=fun v hv=>by rw[hv];exact AV hT _ _
  have hu:∀(l:List Int),(⟨up ((b4.n,[.v (.func (.func 151) #[] #[])])::(b3.n,cT n)::(b1.n,[.acc lb.n (nk pre).length])::(b.n,cT n)::S.box) b1.n [.acc lb.n l.length],up ((lb.n,.arr 1 ((nk pre).map dI))::S.acc) lb.n (.arr 1 (l.map dI))⟩:St)=⟨(b4.n,[.v (.func (.func 151) #[] #[])])::(b3.n,cT n)::(b1.n,[.acc lb.n l.length])::(b.n,cT n)::S.box,(lb.n,.arr 1 (l.map dI))::S.acc⟩:=fun v=>by exact @aa _ aF
  have hK:∀v o,Kp ⟨(b4.n,[.v (.func (.func 151) #[] #[])])::(b3.n,cT n)::(b1.n,[.acc lb.n (nk pre).length])::(b.n,cT n)::S.box,(lb.n,.arr 1 ((nk pre).map dI))::S.acc⟩ T ⟨up T.box b1.n v,up T.acc lb.n o⟩:=fun v o=>LI (by exact @aa _ aF) (by exact @aa _ aF);simp only[hu]at hH;simp only[jZ];refine @aa _ (aM @t1 @u1 ?_);intro b5;have hb5:¬b5.n=b1.n:=fun e=>by have:=kI b5;rw[e,t1]at this;cases this
  have hm8:maxLen=9223372036854775807:=rfl;refine⟨fun hp0=>⟨by omega,by omega,?_⟩,fun hp0=>?_⟩
  all_goals
   have hlL:(if x.leaf=true then x.l else []).length≤1048576:=by split <;>first|exact hxl|exact aeh _
   generalize hL:(if x.leaf=true then x.l else [])=L at*;obtain⟨P0,hP0⟩:∃P0,P0=nk pre++(if x.aj≠0 then [x.aj]else []):=⟨_,rfl⟩;have hx:nk (pre++[x])=P0++L.flatMap C.an:=by rw[zU,h1,hP0,abA]
   have hxlen:P0.length+(L.flatMap C.an).length≤1073741824:=by
    rw[h1]at hpl;rw[hP0];simp only[c9]at hpl ⊢;omega
   have htk:∀k,((L.take k).flatMap C.an).length≤(L.flatMap C.an).length:=fun k=>by
    have:=congrArg (List.flatMap C.an) (adI k L);have:=congrArg List.length this;simp only[adK,c9]at this;omega
   refine aw [] L.length [3,9,19,20,21] (fun k=>[(21,dI k)]) (fun k=>⟨up T.box b1.n [.acc lb.n (P0++(L.take k).flatMap C.an).length],up T.acc lb.n (.arr 1 ((P0++(L.take k).flatMap C.an).map dI))⟩) (fun _=>True) mx (by kernel_rfl) ?_ ?_
   ·refine @aa _ (af ?_);refine .aX ?_
    first
     |(rw[if_pos (show x.aj≠0 from hp0)]at hP0
       subst hP0;simp only[ae0,c9,abx,acL,aeS,aeD,ad0,aa1,aa9,adT];exact .refl _)
     |(rw[if_neg (show¬x.aj≠0 from hp0),ad0]at hP0
       subst hP0;simp only[ae0,acL,aeS,ad0];rw[GI t1,GI u1];exact .refl _)
   ·intro k hk _;have e2:∀z:List DV,lk (up T.box b1.n z) b1.n=some z:=fun z=>by rw[av,t1];rfl
    have e3:∀z:Ob,lk (up T.acc lb.n z) lb.n=some z:=fun z=>by rw[av,u1];rfl
    have htk0:=htk k;have htk1:=htk (k+1);have hsu:∀{c:C},L[k]? =some c→(L.take (k+1)).flatMap C.an=(L.take k).flatMap C.an++c.an:=fun{c} hc=>by rw[abZ,hc];simp
    refine @aa _ (eE @e2 @e3 @sZ ?_);refine⟨fun hlt=>⟨hlt,fun c hc b6=>?_⟩,fun hge=>?_⟩
    ·have hs:=hsu hc;have hs2:=congrArg List.length hs;rw[c9]at hs2;refine⟨by omega,by omega,hlt,by rw[aG (by omega) (by omega)];omega,.aX ?_⟩;rw[hs];simp only[c9,aex,abA];exact .refl _
    ·have hkL:k=L.length:=by omega
     rw[hkL,aed];rw[hkL,aed]at htk0;have hxl2:=congrArg List.length hx;rw[c9]at hxl2;refine⟨?_,hK _ _⟩;have:=hH (P0++L.flatMap C.an) hx.symm;rw[c9]at this;exact this
 ·refine @aa _ (af ?_);refine .inl ?_;refine bC (nw w0 (S:=⟨_,(lb.n,.arr 1 ((nk (dH rW n)).map dI))::S.acc⟩) (l:=lb.n) (zs:=nk (dH rW n)) (by exact @aa _ aF) (by omega)) ?_;rintro d S' ⟨rfl,rfl⟩;refine @aa _ (af ?_);exact⟨_,_,.refl _,.aX (.aX (.aX (.aX (.refl _)))),lb,rfl,rfl⟩
theorem ZY(w0:W0)(a:Int)(S:St):ab Tryz.prog w0 213 [dI a] S (fun d S'=>d=dB false∧S'=S):=by
 refine aJ [] mx Tryz.func213 rfl rfl (by kernel_rfl) ?_;exact @aa _ (jd @Tryz.ntmps213)
theorem aat(w0:W0)(a:Int)(S:St):ab Tryz.prog w0 230 [dI a] S (fun d S'=>d=dB false∧S'=S):=by
 refine aJ [] mx Tryz.func230 rfl rfl (by kernel_rfl) ?_;exact @aa _ (jd @Tryz.ntmps230)
theorem Zh(w0:W0)(a b:Int)(S:St):ab Tryz.prog w0 158 [dI a,dI b] S (fun d S'=>d=dB (decide (a<b))∧S'=S):=by
 refine aJ [] mx Tryz.func158 rfl rfl (by kernel_rfl) ?_;refine @aa _ (ai @Tryz.ntmps158 ?_);refine ae (ZY w0 a S) ?_;exact @aa _ aF
def Up(l:List Int):Prop:=∀(i j:Nat) (a b:Int),i≤j→l[i]? =some a→l[j]? =some b→a≤b
theorem RG(w0:W0)(l:List Int)(p:Int)(S:St)(hl:Up l)(hb:l.length≤1073741824):ab Tryz.prog w0 184 [dL l,dI p] S (fun d S'=>d= .bM [.any,dB (decide (p∈l))]∧S'=S):=by
 refine aJ [] mx Tryz.func184 rfl rfl (by kernel_rfl) ?_;refine @aa _ (ai @Tryz.ntmps184 ?_);refine jf [] [0,1,6,7,8] (fun s:Nat×Nat=>[(7,dI s.1),(8,dI s.2)]) (fun _=>S) (fun s=>s.1≤s.2∧s.2≤l.length∧(∀(i:Nat) a,i<s.1→l[i]? =some a→a<p)∧∀(i:Nat) a,s.2≤i→l[i]? =some a→p≤a) (fun s=>s.2-s.1) (0,l.length) mx (by kernel_rfl) ?_ ?_
 ·refine @aa _ (af ?_);exact⟨aeh _,fun i a h=>absurd h (by omega),fun i a h e=>absurd (aaq.1 e).1 (by omega)⟩
 ·rintro⟨i,j⟩ ⟨h1,h2,h3,h4⟩;simp only at h1 h2 h3 h4
  have eh:IntKind.i64.wrap ((IntKind.u64.wrap (IntKind.i64.wrap ((i:Int)+j))).fdiv (2^min 1 64))=(((i+j)/2:Nat):Int):=by
   rw[aG (n:=(i:Int)+j) (by omega) (by omega),gl (by omega) (by omega),aeY _ (by decide)];simp only[show min 1 64=1 from rfl,Int.pow_one];rw[aG (by omega) (by omega)];omega
  refine @aa _ (ai @eh ?_);refine⟨fun hlt=>⟨by omega,fun a ha=>ae (Zh w0 a p S) ?_⟩,fun hge=>⟨fun hlt=>⟨hlt,fun a ha=>⟨fun hap=>Wk.bM (.cons (.any _) (.cons (.eq ?_) .nil)),fun hap=>⟨hlt,fun c hc=>ae (aat w0 c S) ?_⟩⟩⟩,fun hn=>?_⟩⟩
  ·refine @aa _ (ai @eh ?_);refine⟨fun hap=>⟨((i+j)/2+1,j),⟨by simp only;omega,h2,fun x c hx hc=>?_,h4⟩,by simp only;omega,by rw[aG (by omega) (by omega)];rfl,rfl⟩,fun hap=>⟨(i,(i+j)/2),⟨by simp only;omega,by simp only;omega,h3,fun x c hx hc=>?_⟩,by simp only;omega,rfl,rfl⟩⟩
   ·simp only at hx;have:=hl x ((i+j)/2) c a (by omega) hc ha;omega
   ·simp only at hx;have:=hl ((i+j)/2) x a c hx ha hc;omega
  ·have hin:p∈l:=hap▸aap ha;rw[decide_eq_true hin]
  ·refine @aa _ (af ?_)
   have hni:¬p∈l:=fun hin=>by
    obtain⟨x,hx⟩:=adX.1 hin;rcases adR x i with h|h
    ·have:=h3 x p h hx;omega
    ·have hle:=hl i x a p h ha hx;have:=h4 i a (by omega) ha;omega
   rw[decide_eq_false hni];exact Wk.bM (.cons (.any _) (.cons (.refl _) .nil))
  ·have hni:¬p∈l:=fun hin=>by
    obtain⟨x,hx⟩:=adX.1 hin;have hxl:=(aaq.1 hx).1;have:=h3 x p (by omega) hx;omega
   rw[decide_eq_false hni];exact Wk.bM (.cons (.any _) (.cons (.refl _) .nil))
def jJ(l:List Int)(p:Int):Bool:=decide (p∈l)
def dg(l zs:List Int):List Int:=zs.filter fun p=>!jJ l p
def DT(l zs:List Int):Int:=if zs.findIdx (jJ l)<zs.length then(zs.findIdx (jJ l):Int)else -1
theorem Vv(l:List Int):Up (bE l):=by
 have hp:(bE l).Pairwise (fun x y=>decide (x≤y)=true):=List.pairwise_mergeSort (by intro a b c;simp;omega) (by intro a b;simp;omega) l;intro i j a b hij ha hb;obtain⟨hi,rfl⟩:=aaq.1 ha;obtain⟨hj,rfl⟩:=aaq.1 hb;rcases adR i j with h|h
 ·have:=adQ.1 hp i j hi hj h;simpa using this
 ·have:i=j:=by omega
  subst this;exact afE _
def eQ(n:N):List Int:=bE (nk (dH rW n))
structure Wt where
 bG:Int
 an:List Int
 deriving DecidableEq
structure Pl where
 high:Int
 free:List Int
 wait:List Wt
 deriving DecidableEq
@[go_sem] def dW (w:Wt):DV:= .agg [dU w.bG,.sl 1 false (w.an.map dI)]
@[go_sem] def dP (p:Pl):DV:= .agg [dI p.high,.sl 1 false (p.free.map dI),.sl 2 false (p.wait.map dW)]
def nW(l:List Wt):Nat:=(l.map fun w=>w.an.length).sum
theorem zI{l:List Wt}{k:Nat}{a:Wt}(h:l[k]? =some a):nW (l.take (k+1))=nW (l.take k)+a.an.length:=by
 unfold nW;rw[abZ,h];simp
theorem GY(l:List Wt)(k:Nat):nW (l.take k)≤nW l:=by
 have:nW l=nW (l.take k)+nW (l.drop k):=by
  unfold nW;rw[←aeo,←aa1,adI]
 omega
theorem waiting(w0:W0)(p:Pl)(S:St)(hl:p.wait.length≤4611686018427387904)(hn:nW p.wait≤4611686018427387904):ab Tryz.prog w0 134 [dP p] S (fun d S'=>d=dI (nW p.wait)∧S'=S):=by
 refine aJ [] mx Tryz.func134 rfl rfl (by kernel_rfl) ?_;refine @aa _ (ai @Tryz.ntmps134 ?_);intro b;refine aw [] p.wait.length [3,7,8,9] (fun k=>[(3,dI (nW (p.wait.take k))),(9,dI k)]) (fun _=>S) (fun k=>True) mx (by kernel_rfl) ?_ ?_
 ·refine @aa _ (af ?_);simp[nW]
 ·intro k hk hinv;refine @aa _ (af ?_);refine⟨fun hlt=>⟨hlt,fun a ha b'=>?_⟩,fun hge=>?_⟩
  ·have h1:=zI ha;have h2:=GY p.wait (k+1);rw[aG (by omega) (by omega),aG (by omega) (by omega)];omega
  ·rw[aaA (by omega)]
def AT(l:List Int)(high:Int)(k:Nat):Prop:=∀(i:Nat) (a:Int),i<k→l[i]? =some a→2≤a∧a<high∧∀b,0<i→l[i-1]? =some b→b<a
def Row(l:List Int)(high:Int):Prop:=AT l high l.length
theorem mS{l:List Int}{high:Int}{k:Nat}{a:Int}(h:AT l high k)(ha:l[k]? =some a)(h1:2≤a)(h2:a<high)(h3:∀b,0<k→l[k-1]? =some b→b<a):AT l high (k+1):=by
 intro i c hi hc;by_cases e:i=k
 ·subst e;cases aC ha hc;exact⟨h1,h2,h3⟩
 ·exact h i c (by omega) hc
theorem kc{l:List Int}{high:Int}{k:Nat}{a:Int}(h:Row l high)(ha:l[k]? =some a):2≤a∧a<high∧∀b,0<k→l[k-1]? =some b→b<a:=
 h k a (aaq.1 ha).1 ha
theorem row(w0:W0)(l:List Int)(high:Int)(S:St)(h0:l.length≤4611686018427387904):ab Tryz.prog w0 103 [dL l,dI high] S (fun d S'=>d=dB (pB (Row l high))∧S'=S):=by
 refine aJ [] mx Tryz.func103 rfl rfl (by kernel_rfl) ?_;simp(maxDischargeDepth:=12) (maxSteps:=1000000) -implicitDefEqProofs only[Tryz.ntmps103,go_sem,Nat.reduceAdd,Nat.reduceSub,Nat.reduceMul,Nat.reduceLeDiff,Nat.reduceEqDiff,Nat.reduceGT,Nat.reduceBEq,reduceCtorEq,↓reduceIte,Int.reduceToNat,Int.reduceLE,Int.reduceLT,Int.reduceNe,Int.reduceEq];refine aw [] l.length [0,1,7,8,9] (fun k=>[(9,dI k)]) (fun _=>S) (fun k=>AT l high k) mx (by kernel_rfl) ?_ ?_
 ·refine @aa _ (af ?_);intro i a hi;omega
 ·intro k hk hup;refine @aa _ (af ?_);simp +contextual (disch:=first|omega|assumption) only[aG,gl,wu8,adO,forall_eq,forall_eq',forall_eq_apply_imp_iff,true_and,and_true,forall_const,true_implies,implies_true,not_true_eq_false,not_false_eq_true,false_implies,and_self,adV];refine⟨fun hlt a ha=>⟨fun h hr=>?_,fun h=>⟨fun h' hr=>?_,fun h'=>⟨fun hp=>⟨by omega,by omega,fun b hb=>?_⟩,fun hp=>?_⟩⟩⟩,fun hge=>?_⟩
  ·have:=kc hr ha;omega
  ·have:=kc hr ha;omega
  ·have e:((k:Int)-1).toNat=k-1:=by omega
   rw[e]at hb;refine⟨fun hle hr=>?_,fun hle=>⟨mS hup ha (by omega) (by omega) fun c hc hcb=>?_,by omega⟩⟩
   ·have:=(kc hr ha).2.2 b (by omega) hb;omega
   ·cases aC hb hcb;omega
  ·exact⟨mS hup ha (by omega) (by omega) fun c hc hcb=>by omega,by omega⟩
  ·have e:k=l.length:=by omega
   subst e;exact hup
theorem V2(w0:W0)(l:List Int)(high:Int)(S:St)(h0:l.length≤4611686018427387904):ab Tryz.prog w0 105 [dL l,dI high] S (fun d S'=>d=dB (pB (Row l high))∧S'=S):=by
 refine aJ [] mx Tryz.func105 rfl rfl (by kernel_rfl) ?_;simp(maxDischargeDepth:=12) (maxSteps:=1000000) -implicitDefEqProofs only[Tryz.ntmps105,go_sem,Nat.reduceAdd,Nat.reduceSub,Nat.reduceMul,Nat.reduceLeDiff,Nat.reduceEqDiff,Nat.reduceGT,Nat.reduceBEq,reduceCtorEq,↓reduceIte,Int.reduceToNat,Int.reduceLE,Int.reduceLT,Int.reduceNe,Int.reduceEq];refine aw [] l.length [0,1,5] (fun k=>[(5,dI k)]) (fun _=>S) (fun k=>AT l high k) mx (by kernel_rfl) ?_ ?_
 ·refine @aa _ (af ?_);intro i a hi;omega
 ·intro k hk hup;refine @aa _ (af ?_);simp +contextual (disch:=first|omega|assumption) only[aG,gl,wu8,adO,forall_eq,forall_eq',forall_eq_apply_imp_iff,true_and,and_true,forall_const,true_implies,implies_true,not_true_eq_false,not_false_eq_true,false_implies,and_self,adV];refine⟨fun hlt a ha=>⟨fun h hr=>?_,fun h=>⟨fun h' hr=>?_,fun h'=>⟨fun hp=>⟨by omega,by omega,fun b hb=>?_⟩,fun hp=>?_⟩⟩⟩,fun hge=>?_⟩
  ·have:=kc hr ha;omega
  ·have:=kc hr ha;omega
  ·have e:((k:Int)-1).toNat=k-1:=by omega
   rw[e]at hb;refine⟨fun hle hr=>?_,fun hle=>⟨mS hup ha (by omega) (by omega) fun c hc hcb=>?_,by omega⟩⟩
   ·have:=(kc hr ha).2.2 b (by omega) hb;omega
   ·cases aC hb hcb;omega
  ·exact⟨mS hup ha (by omega) (by omega) fun c hc hcb=>by omega,by omega⟩
  ·have e:k=l.length:=by omega
   subst e;exact hup
theorem u7{α:Type}{a b:List α}{k:Nat}(h:a.take k=b.take k)(hl:¬¬a.length=b.length)(hk:¬k<a.length):a=b:=by
 rw[aaA (by omega),aaA (by omega)]at h;exact h
theorem qJ{α:Type}{a b:List α}{k:Nat}{x y:α}(h:a.take k=b.take k)(hx:a[k]? =some x)(hy:b[k]? =some y)(e:x=y):a.take (k+1)=b.take (k+1):=by
 rw[abZ,abZ,h,hx,hy,e]
theorem Td(w0:W0)(a b:List Int)(S:St)(h0:a.length≤4611686018427387904):ab Tryz.prog w0 95 [dL a,dL b] S (fun d S'=>d=dB (decide (a=b))∧S'=S):=by
 refine aJ [] mx Tryz.func95 rfl rfl (by kernel_rfl) ?_;simp(maxDischargeDepth:=12) (maxSteps:=1000000) -implicitDefEqProofs only[Tryz.ntmps95,go_sem,Nat.reduceAdd,Nat.reduceSub,Nat.reduceMul,Nat.reduceLeDiff,Nat.reduceEqDiff,Nat.reduceGT,Nat.reduceBEq,reduceCtorEq,↓reduceIte,Int.reduceToNat,Int.reduceLE,Int.reduceLT,Int.reduceNe,Int.reduceEq];refine⟨fun hne e=>hne (by rw[e]),fun he=>?_⟩;refine aw [] a.length [0,1,5] (fun k=>[(5,dI k)]) (fun _=>S) (fun k=>a.take k=b.take k) mx (by kernel_rfl) ?_ ?_
 ·exact @aa _ aF
 ·intro k hk hup;refine @aa _ (af ?_);simp +contextual (disch:=first|omega|assumption) only[aG,gl,wu8,adO,forall_eq,forall_eq',forall_eq_apply_imp_iff,true_and,and_true,forall_const,true_implies,implies_true,not_true_eq_false,not_false_eq_true,false_implies,and_self,adV];exact⟨fun hlt x hx=>⟨by omega,fun y hy=>⟨fun hxy e=>hxy (aC (e▸hx) hy),fun hxy=>⟨qJ hup hx hy (by omega),by omega⟩⟩⟩,fun hge=>u7 hup he hge⟩
def cR(p:Pl)(q:Int):Int:=p.free.length+if p.high<q then q-p.high else 0
theorem room(w0:W0)(p:Pl)(q:Int)(S:St)(h0:p.free.length≤1048576)(h1: -1099511627776≤p.high)(h2:p.high≤1099511627776)(h3: -1099511627776≤q)(h4:q≤1099511627776):ab Tryz.prog w0 178 [dP p,dI q] S (fun d S'=>d=dI (cR p q)∧S'=S):=by
 refine aJ [] mx Tryz.func178 rfl rfl (by kernel_rfl) ?_;refine @aa _ (ai @Tryz.ntmps178 ?_);intro b;unfold cR;rw[aG (n:=q-p.high) (by omega) (by omega),aG (by omega) (by omega)];constructor
 ·intro h;rw[if_pos (by omega)]
 ·intro h;rw[if_neg (by omega)];omega
theorem Ts(w0:W0)(p:Pl)(q:Int)(S:St)(h0:p.free.length≤1048576)(h1: -1099511627776≤p.high)(h2:p.high≤1099511627776)(h3: -1099511627776≤q)(h4:q≤1099511627776):ab Tryz.prog w0 84 [dP p,dI q] S (fun d S'=>d=dI (cR p q)∧S'=S):=by
 refine aJ [] mx Tryz.func84 rfl rfl (by kernel_rfl) ?_;simp(maxDischargeDepth:=12) (maxSteps:=1000000) -implicitDefEqProofs only[Tryz.ntmps84,go_sem,Nat.reduceAdd,Nat.reduceSub,Nat.reduceMul,Nat.reduceLeDiff,Nat.reduceEqDiff,Nat.reduceGT,Nat.reduceBEq,reduceCtorEq,↓reduceIte,Int.reduceToNat,Int.reduceLE,Int.reduceLT,Int.reduceNe,Int.reduceEq];intro b;unfold cR;rw[aG (n:=q-p.high) (by omega) (by omega),aG (by omega) (by omega)];constructor
 ·intro h;rw[if_pos (by omega)]
 ·intro h;rw[if_neg (by omega)];omega
theorem Av(w0:W0)(p:Pl)(S:St)(hl:p.wait.length≤4611686018427387904)(hn:nW p.wait≤4611686018427387904):ab Tryz.prog w0 42 [dP p] S (fun d S'=>d=dI (nW p.wait)∧S'=S):=by
 refine aJ [] mx Tryz.func42 rfl rfl (by kernel_rfl) ?_;simp(maxDischargeDepth:=12) (maxSteps:=1000000) -implicitDefEqProofs only[Tryz.ntmps42,go_sem,Nat.reduceAdd,Nat.reduceSub,Nat.reduceMul,Nat.reduceLeDiff,Nat.reduceEqDiff,Nat.reduceGT,Nat.reduceBEq,reduceCtorEq,↓reduceIte,Int.reduceToNat,Int.reduceLE,Int.reduceLT,Int.reduceNe,Int.reduceEq];intro b;refine aw [] p.wait.length [1,3,4] (fun k=>[(3,dI (nW (p.wait.take k))),(4,dI k)]) (fun _=>⟨(b.n,[dI p.high,dL p.free,.sl 2 false (p.wait.map dW)])::S.box,S.acc⟩) (fun k=>True) mx (by kernel_rfl) ?_ ?_
 ·refine @aa _ (af ?_);simp[nW]
 ·intro k hk hinv;refine @aa _ (af ?_);refine⟨fun hlt=>⟨hlt,fun a ha=>?_⟩,fun hge=>?_⟩
  ·have h1:=zI ha;have h2:=GY p.wait (k+1);rw[aG (by omega) (by omega),aG (by omega) (by omega)];omega
  ·rw[aaA (by omega)]
theorem Yy(w0:W0)(n:Int)(S:St)(h0:0≤n)(h1:n≤1099511627776):ab Tryz.prog w0 96 [.sl 0 true [],dI n] S (fun d S'=>∃l:FN S.acc,d= .acc l.n 0∧S'=⟨S.box,(l.n,.arr 1 [])::S.acc⟩):=by
 refine iB (K':=fun d S'=>(d= .sl 0 true []∧S'=S)∨∃l:FN S.acc,d= .acc l.n 0∧S'=⟨S.box,(l.n,.arr 1 [])::S.acc⟩) ?_ 1 (by omega) ?_
 ·refine mU [] mx Tryz.func96 rfl rfl (by kernel_rfl) ?_;refine @aa _ (ai @Tryz.ntmps96 ?_);have e1:IntKind.i64.wrap (0-0)=0:=aG (by omega) (by omega);rw[e1,Int.sub_zero,aG (by omega) (by omega)];refine⟨fun h=>by omega,fun h h2=>⟨by omega,by omega,by omega,fun l=> .inl ⟨⟨_,_,_,rfl⟩,by simp,fun l'=>⟨⟨l'.n,l'.h.2.2⟩,rfl,rfl⟩⟩⟩⟩
 ·rintro d S' (⟨rfl,rfl⟩|h)
  ·exact .inr ⟨⟨0,rfl⟩,fun l hl=>⟨⟨l,hl⟩,rfl,rfl⟩⟩
  ·exact .inl h
def flat(rows:List (List Int)):List Int:=rows.flatten
theorem wO{rows:List (List Int)}{k:Nat}{a:List Int}(h:rows[k]? =some a):flat (rows.take (k+1))=flat (rows.take k)++a:=by
 unfold flat;rw[abZ,h];simp
theorem Ga(rows:List (List Int))(k:Nat):(flat (rows.take k)).length≤(flat rows).length:=by
 have:flat rows=flat (rows.take k)++flat (rows.drop k):=by
  unfold flat;rw[←List.flatten_append,adI]
 rw[this];simp
theorem concat(w0:W0)(rows:List (List Int))(S:St)(h0:rows.length≤1099511627776)(h1:(flat rows).length≤1099511627776):
 ab Tryz.prog w0 48 [.sl 1 false (rows.map dL)] S (fun d S'=>∃l:FN S.acc,d= .acc l.n (flat rows).length∧S'=⟨S.box,(l.n,.arr 1 ((flat rows).map dI))::S.acc⟩):=by
 refine mU [] mx Tryz.func48 rfl rfl (by kernel_rfl) ?_;refine @aa _ (ai @Tryz.ntmps48 ?_);refine aw [] rows.length [0,3,9,10,11] (fun k=>[(3,dI (flat (rows.take k)).length),(11,dI k)]) (fun _=>S) (fun k=>True) mx (by kernel_rfl) ?_ ?_
 ·refine @aa _ (af ?_);simp[flat]
 ·intro k hk _;refine @aa _ (af ?_);refine⟨fun hlt=>⟨hlt,fun a ha=>?_⟩,fun hge=>?_⟩
  ·have h2:=wO ha;have h3:=Ga rows (k+1);rw[h2,c9]at h3;rw[aG (by omega) (by omega)];refine⟨fun h=>by omega,fun h=>⟨hlt,?_,aG (by omega) (by omega)⟩⟩;rw[h2,c9];omega
  ·rw[aaA (by omega)];refine bC (Yy w0 (flat rows).length S (by omega) (by omega)) ?_;rintro d S' ⟨l,rfl,rfl⟩;refine @aa _ (af ?_);refine aw [] rows.length [6,25,26,27] (fun k=>[(6,.acc l.n (flat (rows.take k)).length),(27,dI k)]) (fun k=>⟨S.box,(l.n,.arr 1 ((flat (rows.take k)).map dI))::S.acc⟩) (fun k=>True) mx (by kernel_rfl) ?_ ?_
   ·refine @aa _ (af ?_);simp[flat,Wk.refl,Sub.refl]
   ·intro k hk _;refine @aa _ (af ?_);refine⟨fun hlt=>⟨hlt,fun a ha=>?_⟩,fun hge=>⟨l,?_⟩⟩
    ·have h2:=wO ha;have h3:=Ga rows (k+1);rw[h2,c9]at h3;refine⟨by omega,by unfold maxLen;omega,hlt,⟨?_,aG (by omega) (by omega)⟩,?_⟩
     ·rw[h2,c9];exact .refl _
     ·rw[h2];exact .refl _
    ·rw[aaA (by omega)];exact⟨rfl,rfl⟩
theorem l7(w0:W0)(rows:List (List Int))(S:St)(h0:rows.length≤1099511627776)(h1:(flat rows).length≤1099511627776):
 ab Tryz.prog w0 73 [.sl 1 false (rows.map dL)] S (fun d S'=>d=dL (bE (flat rows))∧S'=S):=by
 refine aJ [] mx Tryz.func73 rfl rfl (by kernel_rfl) ?_;simp(maxDischargeDepth:=12) (maxSteps:=1000000) -implicitDefEqProofs only[Tryz.ntmps73,go_sem,Nat.reduceAdd,Nat.reduceSub,Nat.reduceMul,Nat.reduceLeDiff,Nat.reduceEqDiff,Nat.reduceGT,Nat.reduceBEq,reduceCtorEq,↓reduceIte,Int.reduceToNat,Int.reduceLE,Int.reduceLT,Int.reduceNe,Int.reduceEq];refine bC (concat w0 rows S h0 h1) ?_;rintro d S' ⟨l,rfl,rfl⟩;refine @aa _ (af ?_);refine .inl (bC (nw w0 (l:=l.n) (zs:=flat rows) (S:=⟨S.box,(l.n,.arr 1 ((flat rows).map dI))::S.acc⟩) (by simp[lk]) (by omega)) ?_);rintro d S' ⟨rfl,rfl⟩;refine @aa _ (af ?_);exact aE _
def kO(l:List Wt):List (List Int):=l.map (·.an)
def listed(p:Pl):List Int:=bE (flat (p.free::kO p.wait))
theorem A5{l:List Wt}{k:Nat}{a:Wt}(h:l[k]? =some a):kO (l.take (k+1))=kO (l.take k)++[a.an]:=by
 unfold kO;rw[abZ,h];simp
theorem Rn(l:List Wt)(k:Nat)(h:k≤l.length):(kO (l.take k)).length=k:=by unfold kO;rw[abv,aaE];omega
theorem iY(f:List Int)(l:List Wt):(flat (f::kO l)).length=f.length+nW l:=by
 unfold flat kO nW;simp[List.length_flatten];rfl
theorem yc(w0:W0)(p:Pl)(S:St)(h0:p.wait.length≤1048576)(h1:p.free.length+nW p.wait≤1048576):
 ab Tryz.prog w0 50 [dP p] S (fun d S'=>d=dL (listed p)∧S'=S):=by
 refine aJ [] mx Tryz.func50 rfl rfl (by kernel_rfl) ?_;simp(maxDischargeDepth:=12) (maxSteps:=1000000) -implicitDefEqProofs only[Tryz.ntmps50,go_sem,Nat.reduceAdd,Nat.reduceSub,Nat.reduceMul,Nat.reduceLeDiff,Nat.reduceEqDiff,Nat.reduceGT,Nat.reduceBEq,reduceCtorEq,↓reduceIte,Int.reduceToNat,Int.reduceLE,Int.reduceLT,Int.reduceNe,Int.reduceEq];intro b;refine zS 3 (by omega) rfl fun l hl=>?_;obtain⟨l,rfl⟩:∃b:FN S.acc,b.n=l:=⟨⟨l,hl⟩,rfl⟩;clear hl;refine @aa _ (af ?_);refine aw [] p.wait.length [3,10,11,12] (fun k=>[(3,.acc l.n (k+1)),(12,dI k)]) (fun k=>⟨S.box,(l.n,.tl 1 ((p.free::kO (p.wait.take k)).map dL))::S.acc⟩) (fun k=>True) mx (by kernel_rfl) ?_ ?_
 ·refine @aa _ (af ?_);exact .aX (.refl _)
 ·intro k hk _;have hpl:=Rn p.wait k hk;refine @aa _ (af ?_);refine⟨fun hlt=>⟨hlt,fun a ha b'=>?_⟩,fun hge=>?_⟩
  ·have h2:=A5 ha;have e:List.map dL (kO (List.take k p.wait))++[DV.sl 1 false (List.map dI a.an)]=List.map dL (kO (List.take (k+1) p.wait)):=by rw[h2,aa1];rfl
   refine⟨hpl,by omega,by unfold maxLen;omega,hlt,⟨?_,aG (by omega) (by omega)⟩,?_⟩
   ·rw[hpl];exact .refl _
   ·rw[e];exact .aX (.refl _)
  ·rw[aaA (by omega)];refine .inr ?_;refine⟨by unfold kO;rw[abv];omega,?_⟩;refine ae (l7 w0 (p.free::kO p.wait) _ (by unfold kO;simp;omega) (by rw[iY];omega)) ?_;refine @aa _ (af ?_);simp[listed,qu]
theorem bO(l:List Int):(bE l).Perm l:=List.mergeSort_perm l _
theorem n9(l:List Int):(bE l).Pairwise (·≤·):=by
 have:=List.pairwise_mergeSort (le:=fun x y:Int=>decide (x≤y)) (fun a b c h k=>by simp at *;omega) (fun a b=>by simp;omega) l;exact this.imp fun h=>by simpa using h
theorem y6{a b:List Int}(h1:a.Pairwise (·≤·))(h2:a.Perm b):a=bE b:=
 List.Perm.eq_of_pairwise (le:=(·≤·)) (fun x y _ _ h k=>Int.le_antisymm h k) h1 (n9 b) (h2.trans (bO b).symm)
theorem lW{a b:List Int}(h:a.Perm b):bE a=bE b:=y6 (n9 a) ((bO a).trans h)
theorem BY{a:List Int}(h:a.Pairwise (·≤·)):bE a=a:=(y6 h (.refl a)).symm
theorem uU{p:List Int}{x:Int}{j:Nat}(h1:∀(i:Nat) a,i<j→(bE p)[i]? =some a→a≤x)(h2:∀a,(bE p)[j]? =some a→x<a):(bE p).take j++x::(bE p).drop j=bE (p++[x]):=by
 have hp:=n9 p;refine y6 ?_ ?_
 ·rw[aeB];have hs:(bE p).take j++(bE p).drop j=bE p:=adI _ _;rw[←hs,aeB]at hp
  have hd:∀y∈(bE p).drop j,x≤y:=by
   intro y hy
   cases he:(bE p).drop j with
   |nil=>rw[he]at hy;cases hy
   |cons z t=>
    have hz:(bE p)[j]? =some z:=by
     have:=congrArg (fun l=>l[0]?) he;simpa using this
    have hxz:=h2 z hz;have hpd:=hp.2.1;rw[he]at hpd hy;rcases ab6.1 hy with rfl|hy
    ·omega
    ·have:=(adM.1 hpd).1 y hy;omega
  refine⟨hp.1,adM.2 ⟨fun y hy=>hd y hy,hp.2.1⟩,fun y hy z hz=>?_⟩
  have hyx:y≤x:=by
   obtain⟨i,hi⟩:=afg hy;rw[adU]at hi;split at hi
   ·rename_i hlt;exact h1 i y hlt hi
   ·cases hi
  rcases ab6.1 hz with rfl|hz
  ·exact hyx
  ·have:=hd z hz;omega
 ·have hs:(bE p).take j++(bE p).drop j=bE p:=adI _ _
  have:((bE p).take j++x::(bE p).drop j).Perm (x::bE p):=by
   have:=List.perm_middle (a:=x) (l₁:=(bE p).take j) (l₂:=(bE p).drop j);rw[hs]at this;exact this
  exact this.trans (((bO p).cons x).trans (List.perm_append_singleton x p).symm)
theorem iz{α:Type}{l:List α}{k:Nat}{a:α}(h:l[k]? =some a):l.take (k+1)=l.take k++[a]:=by rw[abZ,h];rfl
theorem k7(w0:W0)(l:List Int)(S:St)(h0:l.length≤1048576):
 ab Tryz.prog w0 53 [dL l] S (fun d S'=>d=dL (bE l)∧S'=S):=by
 refine aJ [] mx Tryz.func53 rfl rfl (by kernel_rfl) ?_;refine @aa _ (ai @Tryz.ntmps53 ?_);refine Ty [] [3] l.length [0,3,4] (fun k=>[(3,dL (bE (l.take k))),(4,dI k)]) (fun _=>S) (fun k=>True) mx (by kernel_rfl) ?_ ?_
 ·refine @aa _ (af ?_);rw[show bE []=[]by simp[bE]];exact @aa _ aF
 ·intro k hk _;refine @aa _ (af ?_);refine⟨fun hlt=>?_,fun hge=>?_⟩
  ·obtain⟨x,hx⟩:∃x,l[k]? =some x:=⟨_,aay hlt⟩;have hsl:(bE (l.take k)).length=k:=by rw[aE,aaE];omega
   refine jf [] [0,3,4,5] (fun j:Nat=>[(5,dI j)]) (fun _=>S) (fun j=>j≤k∧∀(i:Nat) a,i<j→(bE (l.take k))[i]? =some a→a≤x) (fun j=>k-j) 0 mx (by kernel_rfl) ?_ ?_
   ·refine @aa _ (af ?_);exact⟨by omega,fun i a hi=>by omega⟩
   ·intro j hjj;have hj:=hjj.1;have hup:=hjj.2;clear hjj;refine @aa _ (af ?_)
    have fin:(∀a,(bE (l.take k))[j]? =some a→x<a)→List.map dI ((bE (l.take k)).take j)++[DV.v (.int .i64 x)]++List.map dI ((bE (l.take k)).drop j)=List.map dI (bE (l.take (k+1))):=by
     intro h;rw[iz hx,←uU (x:=x) (j:=j) hup h];simp[dI]
    rw[hsl];refine⟨fun h1=>⟨h1,fun a ha=>⟨hlt,fun y hy=>?_⟩⟩,fun h1=>?_⟩
    ·cases aC hx hy;refine⟨fun h2=>⟨j+1,⟨by omega,fun i b hi hb=>?_⟩,by omega,aG (by omega) (by omega)⟩,fun h2=>?_⟩
     ·by_cases e:i=j
      ·subst e;cases aC ha hb;exact h2
      ·exact hup i b (by omega) hb
     ·refine⟨by omega,by omega,by unfold maxLen;omega,fun b=>⟨hlt,fun y hy=>?_⟩⟩;cases aC hx hy;have f2:=fin (fun b hb=>by cases aC ha hb;omega);simp only[abA]at f2 ⊢;rw[f2];exact⟨by omega,by unfold maxLen;omega,by omega,by omega,by unfold maxLen;omega,hlt,.refl _,aG (by omega) (by omega)⟩
    ·refine⟨by omega,by omega,by unfold maxLen;omega,fun b=>⟨hlt,fun y hy=>?_⟩⟩;cases aC hx hy;have f2:=fin (fun b hb=>by have:=(aaq.1 hb).1;omega);simp only[abA]at f2 ⊢;rw[f2];exact⟨by omega,by unfold maxLen;omega,by omega,by omega,by unfold maxLen;omega,hlt,.refl _,aG (by omega) (by omega)⟩
  ·rw[aaA (by omega)];exact .refl _
theorem LM{α:Type}(f:α→Nat)(g:N→List α)(l:List N):((l.reverse.flatMap g).map f).sum=(l.map fun n=>((g n).map f).sum).sum:=by
 induction l with
 |nil=>rfl
 |cons a l ih=>rw[List.reverse_cons,adK,aa1,aeo,ih,aa9,adb];simp;omega
def wT(ends:N→Bool)(f:N→Nat)(n:N):Nat:=((dH ends n).map f).sum
theorem LF(ends:N→Bool)(f:N→Nat)(n:N):wT ends f n=f n+if ends n then 0 else((aV n).map (wT ends f)).sum:=by
 unfold wT;rw[mE,aa9,adb];split
 ·rfl
 ·rw[LM]
theorem GC(ends:N→Bool)(f:N→Nat)(hf:∀d x,Nd d x→f x≤1+if x.leaf then 4*x.l.length else 0):∀(d:Nat) (n:N),Nd d n→wT ends f n≤1+5*bA n
 |0,n,h=>by
  have h1:=hf 0 n h;have h2:=aT n;rw[LF,gM h.1];rw[h.1,if_pos rfl]at h1;split <;>simp <;>omega
 |d+1,n,h=>by
  have h1:=hf _ n h;rw[h.1,if_neg (by simp)]at h1;rw[LF,oR h,bu]
  have:∀l:List C,(∀c,c∈l→c∈n.l)→((l.map aB).map (wT ends f)).sum≤5*lE l:=by
   intro l
   induction l with
   |nil=>intro _;exact aeh _
   |cons c l ih=>
    intro hl;obtain⟨_,k,hk,hnd⟩:=h.2.2 c (hl c aaX);have h1:=ih fun c hc=>hl c (abn _ hc);have h2:=GC ends f hf d k hnd;rw[aa9,aa9,adb,aO hk,bI,dw hk];omega
  have:=this n.l fun _ h=>h;split <;>omega
theorem GN(ends:N→Bool){d:Nat}{n:N}(h:Nd d n):(dH ends n).length≤1+5*bA n:=by
 have:=GC ends (fun _=>1) (fun _ _ _=>by omega) d n h;unfold wT at this
 have e:∀l:List N,(l.map fun _=>1).sum=l.length:=fun l=>by
  induction l with
  |nil=>rfl
  |cons a l ih=>rw[aa9,adb,ih,abx];omega
 rwa [e]at this
theorem GJ(ends:N→Bool):∀(d:Nat) (n:N),Nd d n→∀x,x∈dH ends n→∃d',Nd d' x∧bA x≤bA n
 |0,n,h,x,hx=>by
  rw[mE,gM h.1]at hx
  have:x=n:=by
   rcases ab6.1 hx with e|hx
   ·exact e
   ·split at hx <;>cases hx
  subst this;exact⟨0,h,abI _⟩
 |d+1,n,h,x,hx=>by
  rw[mE,oR h]at hx;rcases ab6.1 hx with rfl|hx
  ·exact⟨_,h,abI _⟩
  ·split at hx
   ·cases hx
   ·obtain⟨k,hk,hx⟩:=ad7.1 hx;obtain⟨c,hc,rfl⟩:=adS.1 (List.mem_reverse.1 hk);obtain⟨_,k,hkid,hnd⟩:=h.2.2 c hc;rw[aO hkid]at hx;obtain⟨d',h1,h2⟩:=GJ ends d k hnd x hx;have:=cL hc hkid;exact⟨d',h1,by omega⟩
theorem SP(ends:N→Bool){d:Nat}{n:N}(h:Nd d n)(x:N)(hx:x∈dH ends n):x.l.length≤bA n:=by
 obtain⟨d',h1,h2⟩:=GJ ends d n h x hx;have:=aT x;omega
theorem TD(l:List C):xe l≤4*l.length:=by
 unfold xe
 induction l with
 |nil=>exact abI _
 |cons c l ih=>
  have:Sr c≤4:=by unfold Sr;split;exact qj _;omega
  rw[aa9,adb,abx];omega
theorem UD(x:N):D2 x≤1+if x.leaf then 4*x.l.length else 0:=by
 unfold D2;split
 ·omega
 ·split
  ·omega
  ·split
   ·have:=TD x.l;omega
   ·simp[xe]
theorem Mv{l:List C}(h:∀c,c∈l→Sh c):(l.flatMap C.an).length≤4*l.length:=by
 induction l with
 |nil=>exact abI _
 |cons c l ih=>
  have h1:=ih fun c hc=>h c (abn _ hc);have h2:=(h c aaX).2.2;rw[acA,c9,abx];omega
theorem Tt{d:Nat}{x:N}(h:Nd d x):(Og x).length≤1+if x.leaf then 4*x.l.length else 0:=by
 unfold Og;rw[c9];have h1:(if x.aj≠0 then [x.aj]else []).length≤1:=by split <;>simp
 have h2:((if x.leaf then x.l else []).flatMap C.an).length≤if x.leaf then 4*x.l.length else 0:=by
  split
  ·exact Mv (SI h)
  ·simp
 omega
theorem Fb(ends:N→Bool){d:Nat}{n:N}(h:Nd d n):(nk (dH ends n)).length≤1+5*bA n:=by
 have:=GC ends (fun x=>(Og x).length) (fun d x hx=>Tt hx) d n h;unfold wT at this;unfold nk;rw[List.length_flatMap];exact this
def di(n:N):Nat:=yp (dH laidB n)
theorem uN{d:Nat}{n:N}(h:Nd d n):di n≤1+5*bA n:=GC laidB D2 (fun _ x _=>UD x) d n h
def j9(b:Bool)(c:C):Nat:=if b then Sr c else di (aB c)
def gH(b:Bool)(l:List C):Nat:=(l.map (j9 b)).sum
theorem kj{b:Bool}{l:List C}{k:Nat}{c:C}(h:l[k]? =some c):gH b (l.take (k+1))=gH b (l.take k)+j9 b c:=by
 unfold gH;rw[abZ,h];simp
theorem fm(b:Bool)(l:List C)(k:Nat):gH b (l.take k)≤gH b l:=by
 have:=congrArg (gH b) (adI k l);simp only[gH,aa1,aeo]at this ⊢;omega
theorem eP{d:Nat}{n:N}(h:Nd d n):di n=if n.aj≠0 then 0 else if n.leaf=true∧n.l=[]then 0 else 1+gH n.leaf n.l:=by
 have h1:di n=wT laidB D2 n:=rfl;have e:D2 n=if n.aj≠0 then 0 else if n.leaf=true∧n.l=[]then 0 else 1+xe (if n.leaf then n.l else []):=rfl
 rw[h1,LF,e];by_cases hp:n.aj≠0
 ·have hb:laidB n=true:=decide_eq_true hp;rw[if_pos hp,if_pos hp,hb];rfl
 ·have hb:laidB n=false:=decide_eq_false hp;rw[if_neg hp,if_neg hp,hb];have e2:∀x:Nat,(if false=true then 0 else x)=x:=fun x=>if_neg (by simp);rw[e2];by_cases hz:n.leaf=true∧n.l=[]
  ·rw[if_pos hz,if_pos hz,gM hz.1];rfl
  ·rw[if_neg hz,if_neg hz]
   cases d with
   |zero=>rw[gM h.1,h.1];rfl
   |succ d=>
    rw[oR h,h.1,aeZ,show(if false=true then n.l else [])=[]from rfl,show xe []=0 from rfl];rfl
theorem OA(w0:W0):∀(d:Nat) (n:N) (S:St),Nd d n→bA n≤131072→ab Tryz.prog w0 56 [eN n] S (fun e S'=>e=dI (di n)∧S'=S):=by
 intro d
 induction d with
 |zero=>
  intro n S hn ht;have hlf:=hn.1;have hl:=aT n;have hq:=eP hn;have hle:=uN hn;rw[hlf]at hq;refine aJ [] mx Tryz.func56 rfl rfl (by kernel_rfl) ?_;refine @aa _ (aM @Tryz.ntmps56 @hlf ?_);intro b;refine⟨fun hp=>by rw[hq,if_pos hp];rfl,fun hp=>⟨fun hl0=>by rw[hq,if_neg hp,if_pos ⟨rfl,aa4 (by omega)⟩];rfl,fun hl0=>?_⟩⟩;rw[if_neg hp,if_neg (fun e=>by rw[e.2]at hl0;exact hl0 rfl)]at hq;refine aw [] n.l.length [1,3,4] (fun k=>[(3,dI ((1+gH true (n.l.take k):Nat):Int)),(4,dI k)]) (fun k=>⟨(b.n,[dI n.aj,dB true,.sl 4 false (n.l.map dC)])::S.box,S.acc⟩) (fun _=>True) mx (by kernel_rfl) ?_ ?_
  ·refine @aa _ (af ?_);rfl
  ·intro k hk _;have hrt:=fm true n.l k;have hrt1:=fm true n.l (k+1);refine @aa _ (af ?_);refine⟨fun hlt=>⟨hlt,fun c hc b2=>⟨fun hp0=>ae (sP w0 _ _) ?_,fun hp0=>⟨hlt,?_,by rw[aG (by omega) (by omega)];omega⟩⟩⟩,fun hge=>by rw[aaA (by omega),hq]⟩
   ·have h1:=kj (b:=true) hc
    have h2:j9 true c=need (c.data.size:Int):=by
     show Sr c=_;exact if_pos (aa4 (by omega))
    refine @aa _ (af ?_);refine⟨hlt,by rw[aG (by omega) (by omega)];omega,by rw[aG (by omega) (by omega)];omega⟩
   ·have h1:=kj (b:=true) hc
    have h2:j9 true c=0:=by
     show Sr c=0;exact if_neg (fun e=>by rw[e]at hp0;exact hp0 rfl)
    omega
 |succ d ih=>
  intro n S hn ht;have hlf:=hn.1;have hl:=aT n;have hq:=eP hn;have hle:=uN hn;rw[hlf]at hq;refine aJ [] mx Tryz.func56 rfl rfl (by kernel_rfl) ?_;refine @aa _ (aM @Tryz.ntmps56 @hlf ?_);intro b;refine⟨fun hp=>by rw[hq,if_pos hp];rfl,fun hp=>?_⟩;rw[if_neg hp,if_neg (by simp)]at hq;refine aw [] n.l.length [1,3,4] (fun k=>[(3,dI ((1+gH false (n.l.take k):Nat):Int)),(4,dI k)]) (fun k=>⟨(b.n,[dI n.aj,dB false,.sl 4 false (n.l.map dC)])::S.box,S.acc⟩) (fun _=>True) mx (by kernel_rfl) ?_ ?_
  ·refine @aa _ (af ?_);rfl
  ·intro k hk _;have hrt:=fm false n.l k;have hrt1:=fm false n.l (k+1);refine @aa _ (af ?_);refine⟨fun hlt=>⟨hlt,fun c hc b2=>?_⟩,fun hge=>by rw[aaA (by omega),hq]⟩;obtain⟨_,kid,hkid,hnd⟩:=hn.2.2 c (aap hc);have h1:=kj (b:=false) hc;have h2:j9 false c=di kid:=by rw[←aO hkid];rfl
   have h3:=cL (aap hc) hkid;rw[hkid];refine⟨by simp,fun kid' hk'=>?_⟩;cases hk';refine ae (ih kid _ hnd (by omega)) ?_;refine @aa _ (af ?_);refine⟨hlt,by rw[aG (by omega) (by omega)];omega,by rw[aG (by omega) (by omega)];omega⟩
mutual
def ca:N→List Int
 | .mk p b l=>(if p≠0 then [p]else [])++Sm b l
def mB(b:Bool):C→List Int
 | .mk _ _ ps kid=>ps++if b then []else YZ kid
def Sm(b:Bool):List C→List Int
 |[]=>[]
 |c::l=>mB b c++Sm b l
def YZ:List N→List Int
 |[]=>[]
 |n::_=>ca n
end
theorem Ix(b:Bool)(l:List C):Sm b l=l.flatMap (mB b):=by
 induction l with
 |nil=>rfl
 |cons c l ih=>rw[Sm,ih,acA]
theorem fw(n:N):ca n=(if n.aj≠0 then [n.aj]else [])++n.l.flatMap (mB n.leaf):=by
 cases n;rw[ca,Ix];rfl
theorem iP(c:C):mB true c=c.an:=by cases c;simp[mB,C.an]
theorem fK{c:C}{k:N}(h:c.kid=[k]):mB false c=c.an++ca k:=by
 cases c with|mk a b d e=>
 simp only[C.uq]at h;subst h;simp[mB,YZ,C.an]
theorem HX{α β:Type}{f g:α→List β}{l:List α}(h:∀a,a∈l→(f a).Perm (g a)):(l.flatMap f).Perm (l.flatMap g):=by
 induction l with
 |nil=>exact .refl _
 |cons a l ih=>
  rw[acA,acA];exact(h a aaX).append (ih fun x hx=>h x (abn _ hx))
theorem oS:∀(d:Nat) (n:N),Nd d n→(ca n).Perm (nk (dH rW n))
 |0,n,h=>by
  rw[fw,mE,gM h.1];have:nk (n::if rW n=true then []else List.flatMap (dH rW) [].reverse)=Og n:=by simp[nk,rW]
  rw[this];unfold Og;rw[h.1,if_pos rfl];rw[show mB true=C.an from funext iP]
 |d+1,n,h=>by
  rw[fw,mE,oR h,h.1];have e1:nk (n::if rW n=true then []else(n.l.map aB).reverse.flatMap (dH rW))=Og n++nk ((n.l.map aB).reverse.flatMap (dH rW)):=by simp[nk,rW]
  have e2:Og n=if n.aj≠0 then [n.aj]else []:=by unfold Og;rw[h.1];simp
  rw[e1,e2];refine .append_left _ ?_;have e3:∀l:List N,nk (l.flatMap (dH rW))=l.flatMap fun k=>nk (dH rW k):=fun l=>by unfold nk;rw[List.flatMap_assoc]
  rw[e3];refine .trans ?_ (.symm ((List.reverse_perm _).flatMap_right _));rw[List.flatMap_map];refine HX fun c hc=>?_;obtain⟨hs,k,hk,hnd⟩:=h.2.2 c hc;rw[fK hk,aO hk,aa4 (Nat.le_zero.1 hs.2.2),adZ];exact oS d k hnd
end Go.Proofs.YtpjenciplibdnaaGreatDoor
namespace Go.Proofs.YtpjenciplibdnaaGreatDoor
open Aml Go
structure mX(Q:N→Prop)(q:Bool→C→Prop):Prop where
 of:∀b l,(∀c,c∈l→q b c)→Q (.mk 0 b l)
 to:∀n,Q n→∀c,c∈n.l→q n.leaf c
 kid:∀c k,c.kid=[k]→q false c→Q k
 cell:∀c k,c.kid=[k]→c.an=[]→Q k→q false c
section
variable {Q:N→Prop} {q:Bool→C→Prop}
theorem qG(H:mX Q q){d:Nat}{n:N}(hn:Nd d n)(hlf:n.leaf=false)(key:ByteArray){l:List C}(hl:∀c,c∈l→c∈n.l)(h:∀c,c∈l→q false c):∀c,c∈bD key l→q false c:=by
 cases l with
 |nil=>exact h
 |cons a l=>
  intro c hc;rcases ab6.1 hc with rfl|hc
  ·cases d with
   |zero=>have:=hn.1;rw[hlf]at this;cases this
   |succ d=>
    obtain⟨hs,k,hk,_⟩:=hn.2.2 a (hl a aaX);exact H.cell _ k hk (aa4 (Nat.le_zero.1 hs.2.2)) (H.kid a k hk (h a aaX))
  ·exact h c (abn _ hc)
theorem qE(H:mX Q q){d:Nat}{n kid:N}{k:Nat}{key:ByteArray}(hk:Nd d kid)(hQ:Q kid)(h:∀c,c∈n.l→q false c)(hp:n.aj=0)(hl:n.leaf=false):
 (aR n kid k key).1.aj=0∧(aR n kid k key).1.leaf=false∧∀x,x∈(aR n kid k key).1.l→q false x:=by
 unfold aR;simp only;split
 ·exact⟨hp,hl,h⟩
 ·refine⟨rfl,rfl,fun x hx=>?_⟩;rcases gP hx with hx|hx
  ·exact h x hx
  ·rcases ab6.1 hx with rfl|hx
   ·exact H.cell _ _ rfl rfl (H.of _ _ fun c hc=>H.to kid hQ c (ac5 hc))
   ·rw[acz]at hx;subst hx;refine H.cell _ _ rfl rfl (H.of _ _ fun c hc=>?_)
    cases hb:kid.leaf with
    |true=>
     rw[hb,if_pos rfl]at hc;have:=H.to kid hQ c (adk hc)
     rwa [hb]at this
    |false=>
     rw[hb,if_neg (by simp)]at hc
     exact qG H hk hb aN (fun c hc=>adk hc) (fun c hc=>by
      have:=H.to kid hQ c (adk hc)
      rwa [hb]at this) c hc
theorem Di(H:mX Q q){d:Nat}{a b:N}{key:ByteArray}(ha:Nd d a)(hb:Nd d b)(qa:Q a)(qb:Q b):Q (bQ a b key):=by
 unfold bQ;refine H.of _ _ fun c hc=>?_;rcases abD.1 hc with hc|hc
 ·exact H.to a qa c hc
 ·have e:=mr ha hb
  cases hl:b.leaf with
  |true=>
   rw[hl,if_pos rfl]at hc;have:=H.to b qb c hc
   rwa [←e]at this
  |false=>
   rw[hl,if_neg (by simp)]at hc;rw[e,hl]
   exact qG H hb hl key (fun c hc=>hc) (fun c hc=>by
    have:=H.to b qb c hc
    rwa [hl]at this) c hc
theorem ko(H:mX Q q){d:Nat}{n:N}{k:Nat}(hn:Nd (d+1) n)(hlt:k<n.l.length)(h:∀c,c∈n.l→q false c)(hp:n.aj=0):(cG n k).aj=0∧(cG n k).leaf=false∧∀x,x∈(cG n k).l→q false x:=by
 obtain⟨c,kid,hc,e1,e2,hkid,hkey,hnd⟩:=cw hn hlt;have hQ:=H.kid c kid hkid (h c (aap hc));unfold cG;simp only[e1,e2];split
 ·exact qE H hnd hQ h hp hn.1
 ·split
  ·exact⟨hp,hn.1,h⟩
  ·rename_i h1 h2;simp only[ael,decide_eq_true_eq,not_or]at h2;have hj:(if k+1<n.l.length then k else k-1)+1<n.l.length:=by split <;>omega
   generalize (if k+1<n.l.length then k else k-1)=j at*;obtain⟨c0,k0,hc0,f1,f2,hk0,hkey0,hnd0⟩:=cw hn (k:=j) (by omega);obtain⟨c1,k1,hc1,g1,g2,hk1,hkey1,hnd1⟩:=cw hn hj;rw[f1,f2,g1,g2];have hQb:Q (bQ k0 k1 c1.key):=Di H hnd0 hnd1 (H.kid c0 k0 hk0 (h c0 (aap hc0))) (H.kid c1 k1 hk1 (h c1 (aap hc1)));refine qE H (yn hnd0 hnd1 hkey1) hQb (fun x hx=>?_) rfl rfl;rcases gP hx with hx|hx
   ·rcases gP hx with hx|hx
    ·exact h x hx
    ·cases hx
   ·rw[acz]at hx;subst hx;exact H.cell _ _ rfl rfl hQb
theorem nP(H:mX Q q){n:N}(h:n.aj=0∧n.leaf=false∧∀x,x∈n.l→q false x):Q n:=by
 obtain⟨h1,h2,h3⟩:=h;rw[N.eta n,h1,h2];exact H.of _ _ h3
theorem w9(H:mX Q q){key val:ByteArray}(hk:key.size≤16)(hv:val.size≤400)(hq:q true (.mk key val [] [])):∀{d:Nat} {n:N},Nd d n→Q n→Q (cb key val n)
 |0,n,h,hQ=>by
  rw[fS _ _ _ h.1];refine H.of _ _ fun c hc=>?_;rcases lh hc with hc|rfl
  ·have:=H.to n hQ c hc
   rwa [h.1]at this
  ·exact hq
 |d+1,n,h,hQ=>by
  have hw:=fZ h.2.1 key;obtain⟨c,kid,hc,_,_,hkid,hkey,hnd⟩:=cw h hw;rw[jz _ _ _ h.1 hc hkid];have hcs:∀x,x∈n.l→q false x:=fun x hx=>by have:=H.to n hQ x hx;rwa [h.1]at this
  have i1:=w9 H hk hv hq hnd (H.kid c kid hkid (hcs c (aap hc)))
  have h1:=ia h hw 0 (m:=[ak c.key (cb key val kid)]) (.inr (by simp)) fun c' hc'=>by
   rw[acz]at hc';subst hc';exact dQ hkey (fW hk hv hnd)
  have h2:=cI (m:=[ak c.key (cb key val kid)]) hw;refine nP H (ko H h1 (by simp only[N.eX,abx,acL]at *;omega) (fun x hx=>?_) rfl);rcases gP hx with hx|hx
  ·exact hcs x hx
  ·rw[acz]at hx;subst hx;exact H.cell _ _ rfl rfl i1
theorem pf(H:mX Q q){key:ByteArray}:∀{d:Nat} {n:N},Nd d n→Q n→Q (aI key n)
 |0,n,h,hQ=>by
  rw[cN _ _ h.1];refine H.of _ _ fun c hc=>?_;have:=H.to n hQ c (aey.1 hc).1
  rwa [h.1]at this
 |d+1,n,h,hQ=>by
  have hw:=fZ h.2.1 key;obtain⟨c,kid,hc,_,_,hkid,hkey,hnd⟩:=cw h hw;obtain⟨hs,_⟩:=h.2.2 c (aap hc);rw[fM _ _ h.1 hc hkid];have hcs:∀x,x∈n.l→q false x:=fun x hx=>by have:=H.to n hQ x hx;rwa [h.1]at this
  have i1:=pf H (key:=key) hnd (H.kid c kid hkid (hcs c (aap hc)));have h1:=sG h hw (c':= .mk c.key c.data c.an [aI key kid]) ⟨⟨hs.1,hs.2.1,hs.2.2⟩,_,rfl,db hnd⟩;refine nP H (ko H h1 (by simp only[N.eX,afw];exact hw) (fun x hx=>?_) rfl);rcases mem_set hx with hx|rfl
  ·exact hcs x hx
  ·exact H.cell _ _ rfl (aa4 (Nat.le_zero.1 hs.2.2)) i1
theorem oN(H:mX Q q):∀{d:Nat} {n:N},Nd d n→Q n→Q (jD n):=by
 have one:∀{d:Nat} {n:N},Nd d n→Q n→Q (if atR (ah n)=0 then n else cG (.mk 0 false [ak aN n]) 0):=fun{d n} h hQ=>by
  split
  ·exact hQ
  ·refine nP H (ko H (d:=d) (n:= .mk 0 false [ak aN n]) (k:=0) ⟨rfl,by simp[N.l],fun c hc=>by
    simp only[N.eX,acz]at hc;subst hc;exact dQ (by rw[bk];omega) h⟩ (by simp[N.l]) (fun x hx=>?_) rfl)
   simp only[N.eX,acz]at hx;subst hx;exact H.cell _ _ rfl rfl hQ
 intro d
 induction d with
 |zero=>intro n h hQ;rw[cZ _ (.inl h.1)];exact one h hQ
 |succ d ih=>
  intro n h hQ;by_cases h1:n.l.length=1
  ·obtain⟨c,hc⟩:=afb.1 h1;have hcm:c∈n.l:=by rw[hc];exact aeC c
   obtain⟨_,k,hk,hn⟩:=h.2.2 c hcm;rw[j7 n h.1 hc hk];have:=H.to n hQ c hcm;rw[h.1]at this;exact ih hn (H.kid c k hk this)
  ·rw[cZ _ (.inr h1)];exact one h hQ
theorem IG(H:mX Q q){key val:ByteArray}(hk:key.size≤16)(hv:val.size≤400)(hq:q true (.mk key val [] [])){d:Nat}{n:N}(h:Nd d n)(hQ:Q n):Q (kN key val n):=
 oN H (fW hk hv h) (w9 H hk hv hq h hQ)
theorem H3(H:mX Q q){key:ByteArray}{d:Nat}{n:N}(h:Nd d n)(hQ:Q n):Q (nf key n):=by
 unfold nf;split
 ·exact oN H (db h) (pf H h hQ)
 ·exact hQ
end
def s8(p:Int)(b:Bool)(l:List C):Nat:=(l.flatMap (mB b)).count p
theorem oD(p:Int)(b:Bool)(l m:List C):s8 p b (l++m)=s8 p b l+s8 p b m:=by unfold s8;rw[adK,aer]
theorem ed(p:Int)(b:Bool)(c:C)(l:List C):s8 p b (c::l)=(mB b c).count p+s8 p b l:=by unfold s8;rw[acA,aer]
theorem jC(p:Int)(b:Bool):s8 p b []=0:=rfl
theorem sI(p:Int)(b:Bool)(l:List C)(i:Nat):s8 p b (l.take i)+s8 p b (l.drop i)=s8 p b l:=by rw[←oD,adI]
theorem jP{p:Int}{b:Bool}{l m:List C}{i:Nat}{c:C}(h:l[i]? =some c):s8 p b (aA l i m)+(mB b c).count p=s8 p b l+s8 p b m:=by
 have h1:=sI p b l i
 have h2:l.drop i=c::l.drop (i+1):=by
  obtain⟨hlt,rfl⟩:=aaq.1 h;exact aet hlt
 rw[h2,ed]at h1;unfold aA;rw[oD,oD];omega
theorem Qd(key:ByteArray)(c:C):mB false (.mk key c.data c.an c.kid)=mB false c:=by cases c;simp[mB,C.an,C.kid]
theorem uy(p:Int)(key:ByteArray)(l:List C):s8 p false (bD key l)=s8 p false l:=by
 cases l with
 |nil=>rfl
 |cons a l=>rw[j2,ed,ed,Qd]
theorem iL(p:Int)(b:Bool)(l:List C):(ca (.mk 0 b l)).count p=s8 p b l:=by rw[fw];rfl
theorem pa(p:Int)(n:N):s8 p n.leaf n.l≤(ca n).count p:=by rw[fw,aer];exact Nat.le_add_left _ _
theorem lR(key:ByteArray)(k:N):mB false (ak key k)=ca k:=by rw[fK rfl];rfl
theorem xt{n kid:N}{k:Nat}{c:C}{key:ByteArray}(p:Int)(hc:n.l[k]? =some c)(hk:c.kid=[kid])(hlf:n.leaf=false):(ca (aR n kid k key).1).count p≤(ca n).count p:=by
 unfold aR;simp only;split
 ·exact abI _
 ·have h1:=sI p kid.leaf kid.l (atR (ah kid));have h2:=jP (p:=p) (b:=false) (m:=[ak key (.mk 0 kid.leaf (kid.l.take (atR (ah kid)))),ak (keyOf (kid.l.drop (atR (ah kid)))) (.mk 0 kid.leaf (if kid.leaf then(kid.l.drop (atR (ah kid)))else bD aN (kid.l.drop (atR (ah kid)))))]) hc
  have h3:s8 p kid.leaf (if kid.leaf then(kid.l.drop (atR (ah kid)))else bD aN (kid.l.drop (atR (ah kid))))=s8 p kid.leaf (kid.l.drop (atR (ah kid))):=by
   cases hb:kid.leaf with
   |true=>rw[if_pos rfl]
   |false=>rw[if_neg (by simp),uy]
  rw[ed,ed,jC,lR,lR,iL,iL,h3,fK hk,aer]at h2;have h4:=pa p n;have h5:=pa p kid;rw[hlf]at h4;rw[iL];omega
theorem RY(p:Int){a b:N}{key:ByteArray}(h:a.leaf=b.leaf):(ca (bQ a b key)).count p≤(ca a).count p+(ca b).count p:=by
 have h1:=pa p a;have h2:=pa p b;unfold bQ;rw[iL,oD];rw[←h]at h2 ⊢
 cases hb:a.leaf with
 |true=>rw[hb]at h1 h2;rw[if_pos rfl];omega
 |false=>rw[hb]at h1 h2;rw[if_neg (by simp),uy];omega
theorem y8{d:Nat}{n:N}{k:Nat}(p:Int)(hn:Nd (d+1) n)(hlt:k<n.l.length):(ca (cG n k)).count p≤(ca n).count p:=by
 obtain⟨c,kid,hc,e1,e2,hkid,hkey,hnd⟩:=cw hn hlt;unfold cG;simp only[e1,e2];split
 ·exact xt p hc hkid hn.1
 ·split
  ·exact abI _
  ·rename_i h1 h2;simp only[ael,decide_eq_true_eq,not_or]at h2;have hj:(if k+1<n.l.length then k else k-1)+1<n.l.length:=by split <;>omega
   generalize (if k+1<n.l.length then k else k-1)=j at*;obtain⟨c0,k0,hc0,f1,f2,hk0,hkey0,hnd0⟩:=cw hn (k:=j) (by omega);obtain⟨c1,k1,hc1,g1,g2,hk1,hkey1,hnd1⟩:=cw hn hj;rw[f1,f2,g1,g2];have hwl:=cI (m:=[]) hj;simp only[acL]at hwl;have hj2:j<(aA n.l (j+1) []).length:=by omega
   refine aeq (xt p (c:=ak c0.key (bQ k0 k1 c1.key)) (vN hj2) rfl rfl) ?_;have t1:=jP (p:=p) (b:=false) (m:=[]) hc1
   have hat:(aA n.l (j+1) [])[j]? =some c0:=by
    unfold aA;rw[abA,ad4 (by rw[aaE];omega),adU,if_pos (by omega)];exact hc0
   have t2:=jP (p:=p) (b:=false) (m:=[ak c0.key (bQ k0 k1 c1.key)]) hat;have t3:=RY p (key:=c1.key) (mr hnd0 hnd1);have t4:=pa p n;rw[hn.1]at t4;rw[ed,jC,lR,fK hk0,aer]at t2;rw[jC,fK hk1,aer]at t1;rw[iL];omega
theorem C9(p:Int)(l:List C)(key val:ByteArray):s8 p true (bU l key val)≤s8 p true l:=by
 have hnew:(mB true (.mk key val [] [])).count p=0:=rfl
 have h2:s8 p true (l.take (bf l key)++[.mk key val [] []]++l.drop (bf l key))≤s8 p true l:=by
  have:=sI p true l (bf l key);rw[oD,oD,ed,jC,hnew];omega
 unfold bU;simp only;split
 ·rename_i c hc;split
  ·have:=jP (p:=p) (b:=true) (m:=[C.mk key val [] []]) hc;rw[ed,jC,hnew]at this;omega
  ·exact h2
 ·exact h2
theorem Ma{key val:ByteArray}(hk:key.size≤16)(hv:val.size≤400)(p:Int):∀{d:Nat} {n:N},Nd d n→(ca (cb key val n)).count p≤(ca n).count p
 |0,n,h=>by
  rw[fS _ _ _ h.1,iL];have:=C9 p n.l key val;have h4:=pa p n;rw[h.1]at h4;omega
 |d+1,n,h=>by
  have hw:=fZ h.2.1 key;obtain⟨c,kid,hc,_,_,hkid,hkey,hnd⟩:=cw h hw;rw[jz _ _ _ h.1 hc hkid]
  have h1:=ia h hw 0 (m:=[ak c.key (cb key val kid)]) (.inr (by simp)) fun c' hc'=>by
   rw[acz]at hc';subst hc';exact dQ hkey (fW hk hv hnd)
  have h2:=cI (m:=[ak c.key (cb key val kid)]) hw;refine aeq (y8 p h1 (by simp only[N.eX,abx,acL]at *;omega)) ?_;have t:=jP (p:=p) (b:=false) (m:=[ak c.key (cb key val kid)]) hc;have i1:=Ma hk hv p hnd;have h4:=pa p n;rw[h.1]at h4;rw[ed,jC,lR,fK hkid,aer]at t;rw[iL];omega
theorem vA{key:ByteArray}(p:Int):∀{d:Nat} {n:N},Nd d n→(ca (aI key n)).count p≤(ca n).count p
 |0,n,h=>by
  rw[cN _ _ h.1,iL];have h4:=pa p n;rw[h.1]at h4
  have:∀l:List C,s8 p true (l.filter fun c=>!eF c.key key)≤s8 p true l:=by
   intro l
   induction l with
   |nil=>exact abI _
   |cons c l ih=>
    rw[aeA,ed];split
    ·rw[ed];omega
    ·omega
  have:=this n.l;omega
 |d+1,n,h=>by
  have hw:=fZ h.2.1 key;obtain⟨c,kid,hc,_,_,hkid,hkey,hnd⟩:=cw h hw;obtain⟨hs,_⟩:=h.2.2 c (aap hc);rw[fM _ _ h.1 hc hkid];have h1:=sG h hw (c':= .mk c.key c.data c.an [aI key kid]) ⟨⟨hs.1,hs.2.1,hs.2.2⟩,_,rfl,db hnd⟩;refine aeq (y8 p h1 (by simp only[N.eX,afw];exact hw)) ?_
  have e:n.l.set (fY n.l key) (.mk c.key c.data c.an [aI key kid])=aA n.l (fY n.l key) [.mk c.key c.data c.an [aI key kid]]:=by
   unfold aA;rw[List.set_eq_take_append_cons_drop,if_pos hw];simp
  have t:=jP (p:=p) (b:=false) (m:=[.mk c.key c.data c.an [aI key kid]]) hc;have i1:=vA (key:=key) p hnd;have h4:=pa p n;rw[h.1]at h4;rw[ed,jC,fK (c:= .mk c.key c.data c.an [aI key kid]) rfl,fK hkid,aer,aer]at t;rw[iL,e];simp only[C.JY]at t;omega
theorem Oy(p:Int){d:Nat}:∀{n:N},Nd d n→(ca (jD n)).count p≤(ca n).count p:=by
 have one:∀{d:Nat} {n:N},Nd d n→(ca (if atR (ah n)=0 then n else cG (.mk 0 false [ak aN n]) 0)).count p≤(ca n).count p:=fun{d n} h=>by
  split
  ·exact abI _
  ·refine aeq (y8 p (d:=d) (n:= .mk 0 false [ak aN n]) (k:=0) ⟨rfl,by simp[N.l],fun c hc=>by
    simp only[N.eX,acz]at hc;subst hc;exact dQ (by rw[bk];omega) h⟩ (by simp[N.l])) ?_
   rw[iL,ed,jC,lR];exact abI _
 induction d with
 |zero=>intro n h;rw[cZ _ (.inl h.1)];exact one h
 |succ d ih=>
  intro n h;by_cases h1:n.l.length=1
  ·obtain⟨c,hc⟩:=afb.1 h1;obtain⟨_,k,hk,hn⟩:=h.2.2 c (by rw[hc];exact aeC c);rw[j7 n h.1 hc hk];have:=ih hn;have h4:=pa p n;rw[h.1,hc,ed,jC,fK hk,aer]at h4;omega
  ·rw[cZ _ (.inr h1)];exact one h
theorem TM{key val:ByteArray}(hk:key.size≤16)(hv:val.size≤400)(p:Int){d:Nat}{n:N}(h:Nd d n):(ca (kN key val n)).count p≤(ca n).count p:=
 aeq (Oy p (fW hk hv h)) (Ma hk hv p h)
theorem Ws{key:ByteArray}(p:Int){d:Nat}{n:N}(h:Nd d n):(ca (nf key n)).count p≤(ca n).count p:=by
 unfold nf;split
 ·exact aeq (Oy p (db h)) (vA p h)
 ·exact abI _
end Go.Proofs.YtpjenciplibdnaaGreatDoor
namespace Go.Proofs.YtpjenciplibdnaaGreatDoor
open Aml Go
theorem rR{d:Nat}{n:N}(h:Nd d n):(ca n).length≤1+5*bA n:=by
 rw[(oS d n h).length_eq];exact Fb rW h
theorem yq(b:Bool)(l:List C)(k:Nat):((l.take k).flatMap (mB b)).length≤(l.flatMap (mB b)).length:=by
 have:=congrArg (List.flatMap (mB b)) (adI k l);have:=congrArg List.length this;simp only[adK,c9]at this;omega
theorem AK{b:Bool}{l:List C}{k:Nat}{c:C}(h:l[k]? =some c):(l.take (k+1)).flatMap (mB b)=(l.take k).flatMap (mB b)++mB b c:=by
 rw[abZ,h];simp
theorem XU(w0:W0):∀(d:Nat) (n:N) (S:St),Nd d n→bA n≤131072→ab Tryz.prog w0 106 [eN n] S (fun e S'=>e=dL (ca n)∧S'=S):=by
 intro d
 induction d with
 |zero=>
  intro n S hn ht;have hlf:=hn.1;have hl:=aT n;have hq:=fw n;have hle:=rR hn;rw[hlf]at hq;have hm8:maxLen=9223372036854775807:=rfl;refine aJ [2] mx Tryz.func106 rfl rfl (by kernel_rfl) ?_;refine @aa _ (aM @Tryz.ntmps106 @hlf ?_);intro b;refine fH 3 1 rfl (by omega) fun lp=>?_;refine eI [] [] mx (by kernel_rfl) ?_;refine @aa _ (af ?_);refine⟨fun hp=>⟨by omega,?_⟩,fun hp=>?_⟩
  all_goals
   obtain⟨P0,hP0⟩:∃P0,P0=(if n.aj≠0 then [n.aj]else []):=⟨_,rfl⟩;rw[←hP0]at hq;have hP1:P0.length≤1:=by rw[hP0];split <;>simp
   rw[hq,c9]at hle;refine aw [] n.l.length [1,3,4] (fun k=>[(3,.acc lp.n (P0++(n.l.take k).flatMap (mB true)).length),(4,dI k)]) (fun k=>⟨(b.n,[dI n.aj,dB true,.sl 4 false (n.l.map dC)])::S.box,(lp.n,.arr 1 ((P0++(n.l.take k).flatMap (mB true)).map dI))::S.acc⟩) (fun _=>True) mx (by kernel_rfl) ?_ ?_
   ·refine @aa _ (af ?_)
    first
     |(rw[if_pos (show n.aj≠0 from hp)]at hP0
       subst hP0;exact⟨.refl _,.refl _⟩)
     |(rw[if_neg (show¬n.aj≠0 from hp)]at hP0
       subst hP0;exact⟨.refl _,.refl _⟩)
   ·intro k hk _;have h1:=yq true n.l k;have h2:=yq true n.l (k+1);refine @aa _ (af ?_);refine⟨fun hlt=>⟨hlt,fun c hc=>?_⟩,fun hge=>?_⟩
    ·have h3:=AK (b:=true) hc;have h4:=congrArg List.length h3;rw[c9,iP]at h4;refine⟨by omega,by omega,hlt,⟨.eq (by rw[h4,aex]),by rw[aG (by omega) (by omega)];omega⟩,?_⟩;rw[h3,iP,abA];exact .refl _
    ·rw[aaA (by omega),hq];exact .refl _
 |succ d ih=>
  intro n S hn ht;have hlf:=hn.1;have hl:=aT n;have hq:=fw n;have hle:=rR hn;rw[hlf]at hq;have hm8:maxLen=9223372036854775807:=rfl;refine aJ [2] mx Tryz.func106 rfl rfl (by kernel_rfl) ?_;refine @aa _ (aM @Tryz.ntmps106 @hlf ?_);intro b;refine fH 3 1 rfl (by omega) fun lp=>?_;refine eI [] [] mx (by kernel_rfl) ?_;refine @aa _ (af ?_);refine⟨fun hp=>⟨by omega,?_⟩,fun hp=>?_⟩
  all_goals
   obtain⟨P0,hP0⟩:∃P0,P0=(if n.aj≠0 then [n.aj]else []):=⟨_,rfl⟩;rw[←hP0]at hq;have hP1:P0.length≤1:=by rw[hP0];split <;>simp
   rw[hq,c9]at hle;refine aw [] n.l.length [1,3,4] (fun k=>[(3,.acc lp.n (P0++(n.l.take k).flatMap (mB false)).length),(4,dI k)]) (fun k=>⟨(b.n,[dI n.aj,dB false,.sl 4 false (n.l.map dC)])::S.box,(lp.n,.arr 1 ((P0++(n.l.take k).flatMap (mB false)).map dI))::S.acc⟩) (fun _=>True) mx (by kernel_rfl) ?_ ?_
   ·refine @aa _ (af ?_)
    first
     |(rw[if_pos (show n.aj≠0 from hp)]at hP0
       subst hP0;exact⟨.refl _,.refl _⟩)
     |(rw[if_neg (show¬n.aj≠0 from hp)]at hP0
       subst hP0;exact⟨.refl _,.refl _⟩)
   ·intro k hk _;have h1:=yq false n.l k;have h2:=yq false n.l (k+1);refine @aa _ (af ?_);refine⟨fun hlt=>⟨hlt,fun c hc=>?_⟩,fun hge=>?_⟩
    ·obtain⟨hs,kid,hkid,hnd⟩:=hn.2.2 c (aap hc);have hpn:c.an=[]:=aa4 (Nat.le_zero.1 hs.2.2);have htk:=cL (aap hc) hkid;have hkl:((n.l.take (k+1)).flatMap (mB false))=(n.l.take k).flatMap (mB false)++ca kid:=by rw[AK hc,fK hkid,hpn,adZ]
     have hkn:=congrArg List.length hkl;rw[c9]at hkn;rw[hpn,ad0,acL,aeS];refine⟨by omega,by omega,hlt,fun c2 hc2=>?_⟩;rw[hc]at hc2;cases hc2;rw[hkid];refine⟨by simp,fun kid2 hkid2=>?_⟩;cases hkid2;refine ae (ih kid _ hnd (by omega)) ?_;refine @aa _ (af ?_);refine⟨by omega,by omega,hlt,⟨.eq (by rw[hkn,aex]),by rw[aG (by omega) (by omega)];omega⟩,?_⟩;rw[hkl,abA];exact .refl _
    ·rw[aaA (by omega),hq];exact .refl _
theorem xA(w0:W0)(d:Nat)(n:N)(S:St)(hn:Nd d n)(ht:bA n≤131072):ab Tryz.prog w0 55 [eN n] S (fun e S'=>e=dL (eQ n)∧S'=S):=by
 have hle:=rR hn;refine aJ [] mx Tryz.func55 rfl rfl (by kernel_rfl) ?_;refine @aa _ (ai @Tryz.ntmps55 ?_);intro b;refine ae (XU w0 d n _ hn ht) ?_;refine @aa _ (af ?_);refine ae (k7 w0 (ca n) _ (by omega)) ?_;refine @aa _ (af ?_);rw[lW (oS d n hn)];exact .refl _
def Um:N:= .mk 0 true []
end Go.Proofs.YtpjenciplibdnaaGreatDoor
namespace Aml
open Go Go.RowKit
theorem Gb{P:Program}{w0:W0}{f:FuncId}{args:List DV}{S:St}{r:DV}(h1:ab P w0 f args S (fun d S'=>pD S' d fun d S''=>Wk d r∧Sub S S'')):ab P w0 f args S (fun d S'=>d=r∧S'=S):=by
 intro g vs w k1 k2;refine(h1 g vs w k1 k2).mono ?_;rintro e w' ⟨v,g',d,S',q1,q2,q3,q4,q5⟩;obtain⟨g2,d',S2,p1,p2,p3,p4,p5⟩:=uh q3 q4 q5;exact⟨v,g2,r,S,q1,q2.trans p1,p2.forget p5.box p5.acc,p4 _ _ p3,rfl,rfl⟩
end Aml
namespace Go.Proofs.YtpjenciplibdnaaGreatDoor
open Aml Go
def Sf(n:N):Prop:=∃d,Nd d n∧bA n≤131072
theorem M9(w0:W0)(n:N)(S:St)(h:Sf n):ab Tryz.prog w0 98 [eT n] S (fun d S'=>d=dL (eQ n)∧S'=S):=by
 obtain⟨d,hn,ht⟩:=h;have h1:=GN rW hn;have h2:=Fb rW hn;refine Gb ((Vz w0 n S (by omega) (by omega) (fun x hx=>aeq (SP rW hn x hx) (by omega))).mono ?_);rintro d S' ⟨m,rfl,rfl⟩;simp(maxDischargeDepth:=12) (maxSteps:=1000000) -implicitDefEqProofs only[go_sem,Nat.reduceAdd,Nat.reduceSub,Nat.reduceMul,Nat.reduceLeDiff,Nat.reduceEqDiff,Nat.reduceGT,Nat.reduceBEq,reduceCtorEq,↓reduceIte,Int.reduceToNat,Int.reduceLE,Int.reduceLT,Int.reduceNe,Int.reduceEq,eQ,aE]
theorem MT(w0:W0)(n:N)(S:St)(h:Sf n):ab Tryz.prog w0 180 [eT n] S (fun d S'=>d=dI (di n)∧S'=S):=by
 obtain⟨d,hn,ht⟩:=h;have h1:=GN laidB hn;have h2:=uN hn;exact T5 w0 n S (by omega) (by unfold di at h2;omega) (fun x hx=>aeq (SP laidB hn x hx) (by omega))
theorem Ea{d:Nat}{n:N}(h:Nd d n):eQ n=bE (ca n):=(lW (oS d n h)).symm
end Go.Proofs.YtpjenciplibdnaaGreatDoor
namespace Go.Proofs.YtpjenciplibdnaaGreatDoor
open Aml Go
inductive o8:N→Prop
 |leaf (p:Int) (l:List C) (h:p≠0↔l≠[]) (hc:∀c,c∈l→c.an.length=mW c.data.size):o8 (.mk p true l)
 |br (p:Int) (l:List C) (h:p≠0) (hk:∀c,c∈l→∀k,c.kid=[k]→o8 k):o8 (.mk p false l)
inductive mf:N→Prop
 |mk (n:N) (h1:n.aj≠0→o8 n) (h2:n.leaf=true→∀c,c∈n.l→c.an=[]∨c.an.length=mW c.data.size) (h3:n.leaf=false→∀c,c∈n.l→∀k,c.kid=[k]→mf k):mf n
def Gx(b:Bool)(c:C):Prop:=if b then c.an=[]∨c.an.length=mW c.data.size else∀k,c.kid=[k]→mf k
theorem uK:mX mf Gx where
 of:=fun b l h=> .mk _ (fun e=>absurd rfl e) (fun hb c hc=>by have:=h c hc;simp only[N.oy]at hb;subst hb;exact this) (fun hb c hc=>by have:=h c hc;simp only[N.oy]at hb;subst hb;exact this)
 to:=fun n h c hc=>by
  cases h with|mk _ h1 h2 h3=>
  unfold Gx
  cases hb:n.leaf with
  |true=>rw[if_pos rfl];exact h2 hb c hc
  |false=>rw[if_neg (by simp)];exact h3 hb c hc
 kid:=fun c k hk h=>by unfold Gx at h;rw[if_neg (by simp)]at h;exact h k hk
 cell:=fun c k hk _ h=>by unfold Gx;rw[if_neg (by simp)];intro k' hk';rw[hk]at hk';cases hk';exact h
theorem xN:∀{d:Nat} {n:N},Nd d n→o8 n→mf n
 |0,n,hn,h=> .mk n (fun _=>h) (fun hb c hc=>by
  cases h with
  |leaf p l h hl=>exact .inr (hl c hc)
  |br p l h hk=>cases hb) (fun hb=>by rw[hn.1]at hb;cases hb)
 |d+1,n,hn,h=> .mk n (fun _=>h) (fun hb=>by rw[hn.1]at hb;cases hb) (fun hb c hc k hk=>by
  cases h with
  |leaf p l h hl=>cases hb
  |br p l h hkk=>
   obtain⟨_,k',hk',hnd⟩:=hn.2.2 c hc;rw[hk]at hk';cases hk';exact xN hnd (hkk c hc k hk))
theorem sA{z:Nat}(h:z≤400):need (z:Int)=mW z:=by
 unfold need mW;by_cases h16:16<z
 ·rw[if_pos (by omega),if_pos h16];omega
 ·rw[if_neg (by omega),if_neg h16]
theorem wZ{d:Nat}{n:N}(hn:Nd d n)(h:o8 n):n.aj≠0↔n.l≠[]:=by
 cases h with
 |leaf p l h hk=>exact h
 |br p l h hk=>
  cases d with
  |zero=>cases hn.1
  |succ d=>exact⟨fun _=>hn.2.1,fun _=>h⟩
theorem vY:mf Um:= .mk _ (fun e=>absurd rfl e) (fun _ c hc=>by cases hc) (fun _ c hc=>by cases hc)
theorem B4{A B:List C}{b:C}{key val:ByteArray}(h:dF (A++b::B))(hb:b.key=key):bU (A++b::B) key val=A++ .mk key val [] []::B:=by
 unfold dF at h;rw[fv,adM]at h;have h1:∀a,a∈A→cC a.key key=true:=fun a ha=>hb▸h.2.2 a ha b aaX
 have h2:∀x,x∈b::B→cC x.key key=false:=fun x hx=>by
  rcases ab6.1 hx with rfl|hx
  ·rw[hb];exact da _
  ·exact fP (hb▸h.2.1.1 x hx)
 have hi:=qU h1 h2;unfold bU;simp only[hi];rw[adN (abI _),aeK,aeX];simp only;rw[if_pos (bZ.2 hb),gG];simp
theorem HR{A B:List C}{key:ByteArray}{k:N}(h:Fits k):cG (.mk 0 false (A++ak key k::B)) A.length= .mk 0 false (A++ak key k::B):=by
 have e1:aR (.mk 0 false (A++ak key k::B)) k A.length key=(.mk 0 false (A++ak key k::B),false):=by
  unfold aR;simp only[qN h.2,if_true]
 have e2:aB (ak key k)=k:=rfl;have e3:(ak key k).key=key:=rfl;unfold cG;simp only[N.eX,mA,e2,e3,e1];rw[if_neg (by simp),if_pos];unfold wK;have:=h.1;simp;omega
theorem tZ(b:Bool)(l m:List C):gH b (l++m)=gH b l+gH b m:=by unfold gH;rw[aa1,aeo]
theorem qi(b:Bool)(c:C)(l:List C):gH b (c::l)=j9 b c+gH b l:=by unfold gH;rw[aa9,adb]
theorem uF(b:Bool){A B:List C}{c c':C}(h:ba b c'=ba b c):(A++c'::B).map (ba b)=(A++c::B).map (ba b):=by rw[aa1,aa9,aa1,aa9,h]
theorem ML{d:Nat}{b:Bool}{l:List C}(h:Nd d (.mk 0 b l))(hl:l≠[]):di (.mk 0 b l)=1+gH b l:=by
 have h1:¬((N.mk 0 b l).leaf=true∧(N.mk 0 b l).l=[]):=fun e=>hl e.2;have h2:¬(N.mk 0 b l).aj≠0:=fun e=>e rfl;rw[eP h,if_neg h2,if_neg h1];rfl
end Go.Proofs.YtpjenciplibdnaaGreatDoor
namespace Go.Proofs.YtpjenciplibdnaaGreatDoor
open Aml Go
inductive lQ(P:ByteArray→ByteArray→Prop):N→Prop
 |mk (n:N) (h1:n.aj≠0→∀e,e∈du n→P e.key e.data) (h3:n.leaf=false→∀c,c∈n.l→∀k,c.kid=[k]→lQ P k):lQ P n
def OH(P:ByteArray→ByteArray→Prop)(b:Bool)(c:C):Prop:=if b then True else∀k,c.kid=[k]→lQ P k
theorem gi(P:ByteArray→ByteArray→Prop):mX (lQ P) (OH P) where
 of:=fun b l h=> .mk _ (fun e=>absurd rfl e) (fun hb c hc=>by have:=h c hc;simp only[N.oy]at hb;subst hb;exact this)
 to:=fun n h c hc=>by
  cases h with|mk _ h1 h3=>
  unfold OH
  cases hb:n.leaf with
  |true=>rw[if_pos rfl];trivial
  |false=>rw[if_neg (by simp)];exact h3 hb c hc
 kid:=fun c k hk h=>by unfold OH at h;rw[if_neg (by simp)]at h;exact h k hk
 cell:=fun c k hk _ h=>by unfold OH;rw[if_neg (by simp)];intro k' hk';rw[hk]at hk';cases hk';exact h
section
variable {P P':ByteArray→ByteArray→Prop}
theorem lQ.one{n:N}(h:lQ P n):n.aj≠0→∀e,e∈du n→P e.key e.data:=by cases h with|mk _ h1 h3=>exact h1
theorem lQ.kids{n:N}(h:lQ P n):n.leaf=false→∀c,c∈n.l→∀k,c.kid=[k]→lQ P k:=by cases h with|mk _ h1 h3=>exact h3
theorem lQ.aj{n:N}(h:lQ P n){e:C}(he:e∈du n)(hn:¬P e.key e.data):n.aj=0:=aeu fun z=>hn (h.one z e he)
theorem NB{d:Nat}{n:N}(hn:Nd (d+1) n){c:C}{k:N}(hc:c∈n.l)(hk:c.kid=[k]){e:C}(he:e∈du k):e∈du n:=by
 rw[cQ,hn.1];exact ad7.2 ⟨c,hc,by rw[bB hk];exact he⟩
theorem oW:∀{d:Nat} {n:N},Nd d n→(∀e,e∈du n→P e.key e.data→P' e.key e.data)→lQ P n→lQ P' n
 |0,n,hn,hm,h=> .mk n (fun e x hx=>hm x hx (h.one e x hx)) (fun hb=>by rw[hn.1]at hb;cases hb)
 |d+1,n,hn,hm,h=> .mk n (fun e x hx=>hm x hx (h.one e x hx)) (fun hb c hc k hk=>by
  obtain⟨_,k',hk',hnd⟩:=hn.2.2 c hc;rw[hk]at hk';cases hk';exact oW hnd (fun e he=>hm e (NB hn hc hk he)) (h.kids hb c hc k hk))
theorem El:∀{d:Nat} {n:N},Nd d n→(∀e,e∈du n→P e.key e.data)→lQ P n
 |0,n,hn,hm=> .mk n (fun _=>hm) (fun hb=>by rw[hn.1]at hb;cases hb)
 |d+1,n,hn,hm=> .mk n (fun _=>hm) (fun hb c hc k hk=>by
  obtain⟨_,k',hk',hnd⟩:=hn.2.2 c hc;rw[hk]at hk';cases hk';exact El hnd fun e he=>hm e (NB hn hc hk he))
theorem Lj{key val:ByteArray}(hk:key.size≤16)(hv:val.size≤400):∀{d:Nat} {n:N},Good d n→lQ P n→lQ (fun k v=>P k v∧k≠key) (cb key val n)
 |0,n,h,hc=>by
  rw[fS _ _ _ h.1];exact(gi _).of _ _ fun c _=>by unfold OH;rw[if_pos rfl];trivial
 |d+1,n,h,hc=>by
  have hB:=h.2.2;have hn:=ax h;obtain⟨A,c,B,hl,hw,hA,hcc,hBk⟩:=jT hB h.2.1 key
  have hcl:n.l[fY n.l key]? =some c:=by
   rw[←hw]
   conv=>lhs;rw[hl]
   simp
  have hcm:=aap hcl;obtain⟨o1,o2,kid,hkid,o4,o5⟩:=hB.cell c hcm;have hwl:=fZ h.2.1 key;have i1:=Lj hk hv o4 (hc.kids h.1 c hcm kid hkid);have hnk:=fW hk hv (ax o4)
  have h1:=ia hn hwl 0 (m:=[ak c.key (cb key val kid)]) (.inr (by simp)) fun c' hc'=>by
   rw[acz]at hc';subst hc';exact dQ o1.1 hnk
  have h2:=cI (m:=[ak c.key (cb key val kid)]) hwl;rw[jz _ _ _ h.1 hcl hkid];refine nP (gi _) (ko (gi _) h1 (by simp only[N.eX,abx,acL]at *;omega) (fun x hx=>?_) rfl);have hx:x∈aA n.l (fY n.l key) [ak c.key (cb key val kid)]:=hx
  have hsib:∀(x:C),x∈n.l→(∀e,e∈jU false x→e.key≠key)→OH (fun k v=>P k v∧k≠key) false x:=fun x hx he=>by
   unfold OH;rw[if_neg (by simp)];intro k hk;obtain⟨_,k',hk',hnd⟩:=hn.2.2 x hx;rw[hk]at hk';cases hk';exact oW hnd (fun e h1 h2=>⟨h2,he e (by rw[bB hk];exact h1)⟩) (hc.kids h.1 x hx k hk)
  have ew:aA n.l A.length [ak c.key (cb key val kid)]=A++[ak c.key (cb key val kid)]++B:=by
   rw[hl];exact gG _ _ _ _
  rw[←hw,ew]at hx;rw[hl]at hB;rcases abD.1 hx with hx|hx
  ·rcases abD.1 hx with hx|hx
   ·exact hsib x (by rw[hl];simp[hx]) fun e he=>cz (hA x hx e he)
   ·rw[acz]at hx;subst hx;exact(gi _).cell _ _ rfl rfl i1
  ·exact hsib x (by rw[hl];simp[hx]) fun e he=>(cz (sE hB hBk e (ad7.2 ⟨x,hx,he⟩))).symm
theorem va{key:ByteArray}:∀{d:Nat} {n:N},Good d n→lQ P n→lQ (fun k v=>P k v∧k≠key) (aI key n)
 |0,n,h,hc=>by
  rw[cN _ _ h.1];exact(gi _).of _ _ fun c _=>by unfold OH;rw[if_pos rfl];trivial
 |d+1,n,h,hc=>by
  have hB:=h.2.2;have hn:=ax h;obtain⟨A,c,B,hl,hw,hA,hcc,hBk⟩:=jT hB h.2.1 key
  have hcl:n.l[fY n.l key]? =some c:=by
   rw[←hw]
   conv=>lhs;rw[hl]
   simp
  have hcm:=aap hcl;obtain⟨o1,o2,kid,hkid,o4,o5⟩:=hB.cell c hcm;obtain⟨hs,_⟩:=hn.2.2 c hcm;have hwl:=fZ h.2.1 key;have i1:=va (key:=key) o4 (hc.kids h.1 c hcm kid hkid);have h1:=sG hn hwl (c':= .mk c.key c.data c.an [aI key kid]) ⟨⟨hs.1,hs.2.1,hs.2.2⟩,_,rfl,db (ax o4)⟩;rw[fM _ _ h.1 hcl hkid];refine nP (gi _) (ko (gi _) h1 (by simp only[N.eX,afw];exact hwl) (fun x hx=>?_) rfl);have hx:x∈n.l.set (fY n.l key) (.mk c.key c.data c.an [aI key kid]):=hx
  have hsib:∀(x:C),x∈n.l→(∀e,e∈jU false x→e.key≠key)→OH (fun k v=>P k v∧k≠key) false x:=fun x hx he=>by
   unfold OH;rw[if_neg (by simp)];intro k hk;obtain⟨_,k',hk',hnd⟩:=hn.2.2 x hx;rw[hk]at hk';cases hk';exact oW hnd (fun e h1 h2=>⟨h2,he e (by rw[bB hk];exact h1)⟩) (hc.kids h.1 x hx k hk)
  have e:n.l.set (fY n.l key) (.mk c.key c.data c.an [aI key kid])=A++(.mk c.key c.data c.an [aI key kid])::B:=by
   rw[←hw]
   conv=>lhs;rw[hl]
   rw[afe _ _ (abI _),aeK,afR]
  rw[e]at hx;rw[hl]at hB;rcases abD.1 hx with hx|hx
  ·exact hsib x (by rw[hl];simp[hx]) fun e he=>cz (hA x hx e he)
  ·rcases ab6.1 hx with rfl|hx
   ·exact(gi _).cell _ _ rfl (aa4 (Nat.le_zero.1 hs.2.2)) i1
   ·exact hsib x (by rw[hl];simp[hx]) fun e he=>(cz (sE hB hBk e (ad7.2 ⟨x,hx,he⟩))).symm
theorem EP{key val:ByteArray}(hk:key.size≤16)(hv:val.size≤400){d:Nat}{n:N}(h:Good d n)(hc:lQ P n):lQ (fun k v=>P k v∧k≠key) (kN key val n):=
 oN (gi _) (fW hk hv (ax h)) (Lj hk hv h hc)
theorem TJ{key:ByteArray}{d:Nat}{n:N}(h:Good d n)(hc:lQ P n):lQ (fun k v=>P k v∧k≠key) (nf key n):=by
 unfold nf;split
 ·exact oN (gi _) (db (ax h)) (va h hc)
 ·rename_i hf;rw[oU key h]at hf;refine oW (ax h) (fun e he hp=>⟨hp,fun z=>hf ?_⟩) hc;rw[Option.isSome_map,List.find?_isSome];exact⟨e,he,bZ.2 z⟩
theorem AH{key val:ByteArray}(hk:key.size≤16)(hv:val.size≤16):∀{d:Nat} {n:N} {x:C},Good d n→lQ P n→x∈du n→x.key=key→¬P key x.data→x.data.size=val.size→
 ah (cb key val n)=ah n∧(cb key val n).leaf=n.leaf∧(cb key val n).l.length=n.l.length∧di (cb key val n)=di n∧ca (cb key val n)=ca n∧bA (cb key val n)=bA n∧(cb key val n).aj=n.aj
 |0,n,x,h,hc,hx,hxk,hxp,hxs=>by
  have hp0:n.aj=0:=hc.aj hx (by rw[hxk];exact hxp);rw[dn h.1]at hx;obtain⟨A,B,hl⟩:=List.append_of_mem hx;have hnd:=fW hk (by omega:val.size≤400) (ax h);have hr:dF (A++x::B):=hl▸h.2.1;have ep:cb key val n= .mk 0 true (A++ .mk key val [] []::B):=by rw[fS _ _ _ h.1,hl,B4 hr hxk]
  have hpg:x.an=[]:=aeu fun z=>by have:=(h.2.2 x hx).2.2.2.1 z;omega
  have hne:n.l≠[]:=by rw[hl];simp
  rw[ep]at hnd ⊢;have hz:¬(n.leaf=true∧n.l=[]):=fun e=>hne e.2;refine⟨?_,h.1.symm,by rw[hl,N.eX];simp,?_,?_,?_,by rw[hp0];rfl⟩
  ·rw[cU,pW h.1,hl];refine uF true ?_;unfold ba;rw[C.mC,C.O8,hxs,hxk]
  ·rw[ML hnd (by simp),eP (ax h),if_neg (fun e=>e hp0),if_neg hz,h.1,hl,tZ,qi,tZ,qi]
   have:j9 true (.mk key val [] [])=j9 true x:=by
    show(if([]:List Int)=[]then need (val.size:Int)else 0)=(if x.an=[]then need (x.data.size:Int)else 0);rw[if_pos rfl,if_pos hpg,hxs]
   rw[this]
  ·rw[fw,fw n,hp0,h.1,hl];show _++(A++C.mk key val [] []::B).flatMap (mB true)=_;rw[adK,adK,acA,acA,iP,iP,hpg];rfl
  ·rw[bu,bu,hl];show lE (A++C.mk key val [] []::B)=_;rw[lx,bI,lx,bI,gq,gq x,(h.2.2 x hx).2.2.2.2.2];rfl
 |d+1,n,x,h,hc,hx,hxk,hxp,hxs=>by
  have hp0:n.aj=0:=hc.aj hx (by rw[hxk];exact hxp);have hB:=h.2.2;have hn:=ax h;have hnd:=fW hk (by omega:val.size≤400) hn;obtain⟨A,c,B,hl,hw,hA,hcc,hBk⟩:=jT hB h.2.1 key
  have hcl:n.l[fY n.l key]? =some c:=by
   rw[←hw]
   conv=>lhs;rw[hl]
   simp
  have hcm:=aap hcl;obtain⟨o1,o2,kid,hkid,o4,o5⟩:=hB.cell c hcm;have hen:du n=A.flatMap (jU false)++(du kid++B.flatMap (jU false)):=by rw[cQ,h.1,hl,adK,acA,bB hkid]
  rw[hl]at hB
  have hxk':x∈du kid:=by
   rw[hen]at hx;rcases abD.1 hx with hx|hx
   ·obtain⟨a,ha,hx⟩:=ad7.1 hx;exact absurd hxk (cz (hA a ha x hx))
   ·rcases abD.1 hx with hx|hx
    ·exact hx
    ·exact absurd hxk.symm (cz (sE hB hBk x hx))
  obtain⟨i1,i2,i3,i4,i5,i6,i7⟩:=AH hk hv o4 (hc.kids h.1 c hcm kid hkid) hxk' hxk hxp hxs;have hfit:Fits (cb key val kid):=by unfold Fits;rw[i1];exact o5
  have ep:cb key val n= .mk 0 false (A++ak c.key (cb key val kid)::B):=by rw[jz _ _ _ h.1 hcl hkid,←hw,hl,gG,abA,List.singleton_append,HR hfit]
  have hz:¬(n.leaf=true∧n.l=[]):=fun e=>h.2.1 e.2;rw[ep]at hnd ⊢;refine⟨?_,h.1.symm,by rw[hl,N.eX];simp,?_,?_,?_,by rw[hp0];rfl⟩
  ·rw[cU,mL h.1,hl];exact uF false rfl
  ·rw[ML hnd (by simp),eP hn,if_neg (fun e=>e hp0),if_neg hz,h.1,hl,tZ,qi,tZ,qi];have e1:j9 false (ak c.key (cb key val kid))=di (cb key val kid):=rfl;have e2:j9 false c=di kid:=by rw[←aO hkid];rfl
   rw[e1,e2,i4]
  ·rw[fw,fw n,hp0,h.1,hl];show _++(A++ak c.key (cb key val kid)::B).flatMap (mB false)=_;have o3:c.an=[]:=aa4 (Nat.le_zero.1 ((hn.2.2 c hcm).1.2.2));rw[adK,adK,acA,acA,lR,fK hkid,i5,o3];rfl
  ·rw[bu,bu,hl];show lE (A++ak c.key (cb key val kid)::B)=_;rw[lx,bI,lx,bI,dw (k:=cb key val kid) rfl,dw hkid,i6]
theorem Kh{key val:ByteArray}(hk:key.size≤16)(hv:val.size≤16){d:Nat}{n:N}{x:C}(h:Good d n)(hs:(ah n).sum≤122)(h2:n.leaf=true∨2≤n.l.length)(hc:lQ P n)(hx:x∈du n)(hxk:x.key=key)(hxp:¬P key x.data)(hxs:x.data.size=val.size):
 kN key val n=cb key val n∧di (kN key val n)=di n∧ca (kN key val n)=ca n∧bA (kN key val n)=bA n:=by
 obtain⟨i1,i2,i3,i4,i5,i6,i7⟩:=AH hk hv h hc hx hxk hxp hxs
 have e:kN key val n=cb key val n:=by
  unfold kN;rw[cZ _ (by rw[i2,i3];exact h2.imp id fun h=>by omega),i1,if_pos (qN hs)]
 rw[e];exact⟨rfl,i4,i5,i6⟩
end
end Go.Proofs.YtpjenciplibdnaaGreatDoor
namespace Go.Proofs.YtpjenciplibdnaaGreatDoor
open Aml Go
end Go.Proofs.YtpjenciplibdnaaGreatDoor
