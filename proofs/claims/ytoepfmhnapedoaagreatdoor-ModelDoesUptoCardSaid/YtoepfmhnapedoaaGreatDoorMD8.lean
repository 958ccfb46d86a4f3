/-
  Part 8 of the proof that the last text ends: from 'Joins, meets, and the check of rows: the program' to 'Get, and Scan'. By an AI agent.
-/
import Derived.Test.YtoepfmhnapedoaaGreatDoorMD7
import Derived.Test.YtoepfmhnapedoaaGreatDoorMD5
import Derived.Sort.Walk0
set_option linter.unusedVariables false
set_option linter.unusedSimpArgs false
set_option maxRecDepth 100000
set_option maxHeartbeats 16000000
namespace Go.Proofs.YtoepfmhnapedoaaGreatDoor
open Aml Go Lat
theorem Xd(w0:W0)(up:List Nat)(hu:eN up)(bx c d:Nat)(S:St)(hb:lk S.box bx=some [dH up]):ab Tryz.prog w0 146 [dI (c:Int),dI (d:Int),.v (.pointer (some ⟨bx,0,none⟩))] S (fun e S'=>e=dB (dW up c d)∧S'=S):=by
 refine bI [] mx Tryz.func146 rfl rfl (by kernel_rfl) ?_;simp only[Tryz.ntmps146,aaW,ab8,Nat.reduceAdd,Nat.reduceSub,List.reduceReplicate,acG,acR];refine @aa _ (cK @Tryz.ntmps146 @hb ?_);refine aq (wO _ up hu c d _) ?_;exact @aa _ (ft @fE)
theorem W7(w0:W0)(up:List Nat)(hu:eN up)(bx c d:Nat)(S:St)(hb:lk S.box bx=some [dH up]):ab Tryz.prog w0 148 [dI (c:Int),dI (d:Int),.v (.pointer (some ⟨bx,0,none⟩))] S (fun e S'=>e=dB (dW up d c)∧S'=S):=by
 refine bI [] mx Tryz.func148 rfl rfl (by kernel_rfl) ?_;simp only[Tryz.ntmps148,aaW,ab8,Nat.reduceAdd,Nat.reduceSub,List.reduceReplicate,acG,acR];refine @aa _ (cK @Tryz.ntmps148 @hb ?_);refine aq (wO _ up hu d c _) ?_;exact @aa _ (ft @fE)
def Cj(le:Nat→Nat→Bool)(x:Nat)(r:Int):Prop:=(r= -1∧∀a,a∈bq x→zi le x a=false)∨∃pre k rest,r=((k:Nat):Int)∧pre++k::rest=bq x∧(∀a,a∈pre→zi le x a=false)∧zi le x k=true
theorem vf{le:Nat→Nat→Bool}{n x a b:Nat}{r:Int}(hx:∀c,(c<64∧x.testBit c=true)↔(c<n∧le a c=true∧le b c=true))(h:Cj le x r):r<0↔¬ng le n a b:=by
 have hm:∀c,c∈bq x↔(c<n∧le a c=true∧le b c=true):=fun c=>vO.trans (hx c)
 have key:∀c,c∈bq x→(zi le x c=true↔I9 le n a b c):=fun c hc=>by
  have h1:=(hm c).1 hc;unfold zi;rw[aa8]
  exact⟨fun h=>⟨h1.1,h1.2.1,h1.2.2,fun d hd h3 h4=>h d ((hm d).2 ⟨hd,h3,h4⟩)⟩,fun h d hd=>by
   have h2:=(hm d).1 hd;exact h.2.2.2 d h2.1 h2.2.1 h2.2.2⟩
 rcases h with⟨rfl,h⟩|⟨pre,k,rest,rfl,hp,h1,h2⟩
 ·refine⟨fun _ hj=>?_,fun _=>by omega⟩;obtain⟨c,hc⟩:=hj;have hcm:=(hm c).2 ⟨hc.1,hc.2.1,hc.2.2.1⟩;have:=(key c hcm).2 hc;rw[h c hcm]at this;cases this
 ·refine⟨fun h=>by omega,fun hj=>absurd ⟨k,(key k (by rw[←hp];simp)).1 h2⟩ hj⟩
theorem tF{up:List Nat}(hl:up.length≤64){a:Nat}(ha:a<up.length)(c:Nat):(ca up a).testBit c=true↔dW up a c=true:=by
 rw[dy];unfold ca bt;rw[Nat.testBit_mod_two_pow];simp only[aak,decide_eq_true_eq];exact⟨fun h=>⟨hl,ha,h.1,h.2⟩,fun h=>⟨h.2.2.1,h.2.2.2⟩⟩
theorem wj{up:List Nat}{a b:Nat}(h:dW up a b=true):a<64∧b<64∧a<up.length∧b<up.length:=by
 have:=dy.1 h;omega
theorem FR{up:List Nat}(hl:up.length≤64){a b:Nat}(ha:a<up.length)(hb:b<up.length)(c:Nat):(c<64∧(ca up a &&& ca up b).testBit c=true)↔(c<up.length∧dW up a c=true∧dW up b c=true):=by
 rw[Nat.testBit_and,aak,tF hl ha,tF hl hb];exact⟨fun h=>⟨(wj h.2.1).2.2.2,h.2⟩,fun h=>⟨(wj h.2.1).2.1,h.2⟩⟩
theorem Fw{up:List Nat}(hl:up.length≤64){a b:Nat}(c:Nat):(c<64∧(cY up a &&& cY up b).testBit c=true)↔(c<up.length∧dW up c a=true∧dW up c b=true):=by
 rw[Nat.testBit_and,aak,pY,pY];exact⟨fun h=>⟨(wj h.2.1).2.2.1,h.2⟩,fun h=>⟨(wj h.2.1).1,h.2⟩⟩
theorem PN{x y:Nat}(h:x<18446744073709551616):x &&& y<18446744073709551616:=ady Nat.and_le_left h
theorem zB{up:List Nat}(hu:eN up)(a:Nat):ca up a<18446744073709551616:=by
 unfold ca;refine ady (Nat.mod_le _ _) ?_;rcases yt (o:=up) (a:=a)with h|h
 ·exact hu _ h
 ·rw[h];omega
def lu(le:Nat→Nat→Bool)(x:Nat):Int:=match(bq x).find? (fun a=>zi le x a)with
 |some k=>((k:Nat):Int)
 |none=> -1
theorem sx{p:Nat→Bool}:∀{pre:List Nat} {k:Nat} {rest:List Nat},(∀a,a∈pre→p a=false)→p k=true→(pre++k::rest).find? p=some k
 |[],k,rest,_,h=>by simp[h]
 |a::pre,k,rest,h,hk=>by
  rw[acG,List.find?_cons,h a (by simp)];exact sx (fun b hb=>h b (by simp[hb])) hk
theorem GB{le:Nat→Nat→Bool}{x:Nat}{r:Int}(h:Cj le x r):r=lu le x:=by
 unfold lu;rcases h with⟨rfl,h⟩|⟨pre,k,rest,rfl,hp,h1,h2⟩
 ·rw[adg.2 (fun a ha=>by rw[h a ha];simp)]
 ·rw[←hp,sx h1 h2]
theorem yc(le:Nat→Nat→Bool)(x:Nat):Cj le x (lu le x):=by
 unfold lu
 cases h:(bq x).find? (fun a=>zi le x a)with
 |none=>exact .inl ⟨rfl,fun a ha=>by have:=adg.1 h a ha;simpa using this⟩
 |some k=>
  have h':=List.find?_eq_some_iff_append.1 h;obtain⟨h1,pre,rest,h2,h3⟩:=h';exact .inr ⟨pre,k,rest,rfl,h2.symm,fun a ha=>by simpa using h3 a ha,h1⟩
theorem LP(w0:W0)(hg:jv w0)(x:Nat)(hx:x<18446744073709551616)(fl bx:Nat)(hok:okF Tryz.prog fl=true)(ds:List DV)(le:Nat→Nat→Bool)
 (hle:∀(w1:W0) (c d:Nat) (T:St),c<64→d<64→lk T.box bx=some ds→ab Tryz.prog w1 fl [dI (c:Int),dI (d:Int),.v (.pointer (some ⟨bx,0,none⟩))] T (fun d' T'=>d'=dB (le c d)∧T'=T)) (S:St) (hbx:lk S.box bx=some ds):
 ab Tryz.prog w0 145 [dU (x:Int),.v (.func (.func fl) #[] #[.pointer (some ⟨bx,0,none⟩)])] S (fun d S'=>d=dI (lu le x)∧S'=S):=by
 refine(R8 w0 hg x hx fl bx hok ds le hle S hbx).mono ?_;rintro _ _ ⟨⟨r,rfl,hr⟩,rfl⟩;exact⟨by rw[GB hr],rfl⟩
theorem Qo(w0:W0)(hg:jv w0)(up:List Nat)(hu:eN up)(hl:up.length≤64)(a b:Nat)(ha:a<up.length)(hb:b<up.length)(S:St):ab Tryz.prog w0 111 [dH up,dI (a:Int),dI (b:Int)] S (fun d S'=>d=dI (lu (dW up) (ca up a &&& ca up b))∧S'=S):=by
 have hwa:=zB hu a;have hwb:=zB hu b;have l1:mM up (a:Int)=true:=r9.2 ⟨hl,by omega,by omega⟩;have l2:mM up (b:Int)=true:=r9.2 ⟨hl,by omega,by omega⟩;refine bI [] mx Tryz.func111 rfl rfl (by kernel_rfl) ?_;refine @aa _ (ah @Tryz.ntmps111 ?_);intro b3;refine aq (wR _ up a _) (@aa _ (ah @l1 ?_));refine aq (wR _ up b _) (@aa _ (ah @l2 ?_));refine aR (w8 _ up hu a ha hl _) (@aa _ (av ?_));refine aR (w8 _ up hu b hb hl _) (@aa _ (ah (gB hwa hwb) ?_));refine aR (LP _ hg _ (PN hwa) 146 b3.n (by kernel_rfl) [dH up] (dW up) (fun w1 c d T _ _ hT=>Xd w1 up hu b3.n c d T hT) _ (by exact @aa _ bY)) ?_;exact @aa _ bY
theorem Qa(w0:W0)(hg:jv w0)(up:List Nat)(hu:eN up)(hl:up.length≤64)(a b:Nat)(S:St):ab Tryz.prog w0 112 [dH up,dI (a:Int),dI (b:Int)] S (fun d S'=>d=dI (lu (fun x y=>dW up y x) (cY up a &&& cY up b))∧S'=S):=by
 have hwa:cY up a<18446744073709551616:=mC (by omega);have hwb:cY up b<18446744073709551616:=mC (by omega);refine bI [] mx Tryz.func112 rfl rfl (by kernel_rfl) ?_;refine @aa _ (ah @Tryz.ntmps112 ?_);intro b3;refine aR (Qd _ up hu a hl _) (@aa _ (av ?_));refine aR (Qd _ up hu b hl _) (@aa _ (ah (gB hwa hwb) ?_));refine aR (LP _ hg _ (PN hwa) 148 b3.n (by kernel_rfl) [dH up] (fun x y=>dW up y x) (fun w1 c d T _ _ hT=>W7 w1 up hu b3.n c d T hT) _ (by exact @aa _ bY)) ?_;exact @aa _ bY
theorem px{up:List Nat}(hl:up.length≤64){a b:Nat}(ha:a<up.length)(hb:b<up.length):lu (dW up) (ca up a &&& ca up b)<0↔¬ng (dW up) up.length a b:=vf (FR hl ha hb) (yc _ _)
theorem pc{up:List Nat}(hl:up.length≤64){a b:Nat}:lu (fun x y=>dW up y x) (cY up a &&& cY up b)<0↔¬ng (fun x y=>dW up y x) up.length a b:=vf (Fw hl) (yc _ _)
theorem lE{up:List Nat}:uS up↔1≤up.length∧up.length≤64∧Cl up∧∀a,a<up.length→∀b,b<a→(¬(dW up a b=true∧dW up b a=true))∧ng (dW up) up.length a b∧ng (fun x y=>dW up y x) up.length a b:=by
 constructor
 ·intro h;refine⟨h.pos,h.le,h.cl,fun a ha b hb=>⟨fun q=>?_,h.join a b hb ha,h.meet a b hb ha⟩⟩;have:=h.Hs a b (dy.1 q.1).2.2.2 (dy.1 q.2).2.2.2;omega
 ·rintro⟨h1,h2,h3,h4⟩;refine⟨h1,h2,h3,fun a b q r=>?_,fun a b hb ha=>(h4 a ha b hb).2.1,fun a b hb ha=>(h4 a ha b hb).2.2⟩;have ha:=ig q;have hb:=ig r;rcases acU a b with e|e|e
  ·exact absurd ⟨dy.2 ⟨h2,hb,ha,r⟩,dy.2 ⟨h2,ha,hb,q⟩⟩ (h4 b hb a e).1
  ·exact e
  ·exact absurd ⟨dy.2 ⟨h2,ha,hb,q⟩,dy.2 ⟨h2,hb,ha,r⟩⟩ (h4 a ha b e).1
theorem Y0(w0:W0)(hg:jv w0)(up:List Nat)(hu:eN up)(h0:up.length≤4611686018427387904)(S:St):ab Tryz.prog w0 61 [dH up] S (fun d S'=>d=dB (pB (uS up))∧S'=S):=by
 refine bI [] mx Tryz.func61 rfl rfl (by kernel_rfl) ?_;refine @aa _ (ah @Tryz.ntmps61 ?_);refine⟨fun h hp=>by have:=hp.pos;omega,fun h1=>⟨fun h hp=>by have:=hp.le;omega,fun h2=>aq (Rq _ up hu (by omega) _) ?_⟩⟩;have hl:up.length≤64:=by omega
 refine @aa _ (av ?_);refine aq (Rt _ (fM up) up (by rw[r7];omega) _) (@aa _ (av ?_));refine⟨fun hne hp=>hne (vC hp.cl),fun heq=>?_⟩;have hcl:=sX.1 (abe.1 heq);refine aQ [] up.length [0,21,22] (fun a=>[(22,dI a)]) (fun _=>S) (fun a=>∀a',a'<a→∀b,b<a'→(¬(dW up a' b=true∧dW up b a'=true))∧uj up a' b) mx (by kernel_rfl) ?_ ?_
 ·refine @aa _ (av ?_);intro a' ha';omega
 ·intro a ha hA;refine @aa _ (av ?_);refine⟨fun hla=>?_,fun hge=>?_⟩
  ·refine aQ [] a [0,3,21,22,25,26] (fun b=>[(26,dI b)]) (fun _=>S) (fun b=>∀b',b'<b→(¬(dW up a b'=true∧dW up b' a=true))∧uj up a b') mx (by kernel_rfl) ?_ ?_
   ·refine @aa _ (av ?_);intro b' hb';omega
   ·intro b hb hB;refine @aa _ (av ?_);refine⟨fun hlb=>aq (wO _ up hu a b _) ?_,fun hge=>?_⟩
    ·refine @aa _ (ah @fE ?_);refine⟨fun p1=>aq (wO _ up hu b a _) ?_,fun p1=>aq (Qo _ hg up hu hl a b hla (by omega) _) ?_⟩
     ·refine @aa _ (ah @fE ?_);refine⟨fun p2 hp=>(lE.1 hp |>.2.2.2 a hla b hlb).1 ⟨p1,p2⟩,fun p2=>aq (Qo _ hg up hu hl a b hla (by omega) _) ?_⟩;refine @aa _ (av ?_);refine⟨fun q hp=>(px hl hla (by omega)).1 q (lE.1 hp |>.2.2.2 a hla b hlb).2.1,fun q=>aq (Qa _ hg up hu hl a b _) ?_⟩;refine @aa _ (av ?_);refine⟨fun q2 hp=>(pc hl).1 q2 (lE.1 hp |>.2.2.2 a hla b hlb).2.2,fun q2=>⟨hlb,fun b' hb'=>?_,aJ (by omega)⟩⟩;by_cases e:b'=b
      ·subst e;exact⟨fun h=>(by rw[p2]at h;cases h.2),abe.1 fun g=>q ((px hl hla (by omega)).2 g),abe.1 fun g=>q2 ((pc hl).2 g)⟩
      ·exact hB b' (by omega)
     ·skip
      refine @aa _ (av ?_);refine⟨fun q hp=>(px hl hla (by omega)).1 q (lE.1 hp |>.2.2.2 a hla b hlb).2.1,fun q=>aq (Qa _ hg up hu hl a b _) ?_⟩;refine @aa _ (av ?_);refine⟨fun q2 hp=>(pc hl).1 q2 (lE.1 hp |>.2.2.2 a hla b hlb).2.2,fun q2=>⟨hlb,fun b' hb'=>?_,aJ (by omega)⟩⟩;by_cases e:b'=b
      ·subst e;exact⟨fun h=>(by rw[p1]at h;cases h.1),abe.1 fun g=>q ((px hl hla (by omega)).2 g),abe.1 fun g=>q2 ((pc hl).2 g)⟩
      ·exact hB b' (by omega)
    ·have e:b=a:=by omega
     subst e;refine⟨hla,fun a' ha'=>?_,aJ (by omega)⟩;by_cases e:a'=b
     ·subst e;exact hB
     ·exact hA a' (by omega)
  ·have e:a=up.length:=by omega
   subst e;exact lE.2 ⟨by omega,hl,hcl,hA⟩
end Go.Proofs.YtoepfmhnapedoaaGreatDoor
namespace Grs
structure G where
 a:Int
 f:Int
 t:Int
 deriving DecidableEq
def yn(x y:G):Bool:=decide (x.a<y.a∨(x.a=y.a∧(x.f<y.f∨(x.f=y.f∧x.t<y.t))))
theorem Ou{x y:G}:yn x y=true↔(x.a<y.a∨(x.a=y.a∧(x.f<y.f∨(x.f=y.f∧x.t<y.t)))):=decide_eq_true_iff
theorem FU{x y z:G}(h1:yn x y=true)(h2:yn y z=true):yn x z=true:=by
 rw[Ou]at *;omega
def Up(l:List G):Prop:=l.Pairwise fun x y=>yn x y=true
end Grs
namespace Go.Proofs.YtoepfmhnapedoaaGreatDoor
open Aml Go Lat Grs
@[go_sem] def gD (g:G):DV:= .agg [dI g.a,dI g.f,dI g.t]
@[go_sem] def gL (l:List G):DV:= .sl 3 false (l.map gD)
def tf(x y:Int):Int:=if x<y then -1 else if y<x then 1 else 0
def KF(x y:G):Int:=if yn x y then -1 else if yn y x then 1 else 0
theorem Ix{x y:G}:KF x y<0↔yn x y=true:=by
 unfold KF;cases h:yn x y <;>cases h2:yn y x <;>simp
theorem NO(x y:G):KF x y=if tf x.a y.a≠0 then tf x.a y.a else if tf x.f y.f≠0 then tf x.f y.f else tf x.t y.t:=by
 unfold KF tf yn;simp only[decide_eq_true_eq];split <;>(repeat' split) <;>first|rfl|omega
theorem isNaN(w0:W0)(x:Int)(S:St):ab Tryz.prog w0 197 [dI x] S (fun d S'=>d=dB false∧S'=S):=by
 refine bI [] mx Tryz.func197 rfl rfl (by kernel_rfl) ?_;exact @aa _ (ft @Tryz.ntmps197)
theorem po(w0:W0)(x y:Int)(S:St):ab Tryz.prog w0 178 [dI x,dI y] S (fun d S'=>d=dI (tf x y)∧S'=S):=by
 refine bI [] mx Tryz.func178 rfl rfl (by kernel_rfl) ?_;refine @aa _ (ah @Tryz.ntmps178 ?_);refine aq (isNaN _ x _) (@aa _ (av ?_));refine aq (isNaN _ y _) (@aa _ (av ?_));unfold tf;refine⟨fun h=>?_,fun h=>⟨fun h2=>?_,fun h2=>?_⟩⟩
 ·rw[if_pos h]
 ·rw[if_neg (by omega),if_pos (by omega)]
 ·rw[if_neg (by omega),if_neg (by omega)]
theorem orI(w0:W0)(x y z:Int)(S:St):ab Tryz.prog w0 177 [.sl 1 false [dI x,dI y,dI z]] S (fun d S'=>d=dI (if x≠0 then x else if y≠0 then y else z)∧S'=S):=by
 refine bI [] mx Tryz.func177 rfl rfl (by kernel_rfl) ?_;refine @aa _ (ah @Tryz.ntmps177 ?_);refine aQ [] 3 [3,6,7,8] (fun a=>[(8,dI a)]) (fun _=>S) (fun a=>(1≤a→x=0)∧(2≤a→y=0)∧(3≤a→z=0)) mx (by kernel_rfl) ?_ ?_
 ·exact @aa _ bY
 ·intro a ha hA;obtain rfl|rfl|rfl|rfl:a=0∨a=1∨a=2∨a=3:=by omega
  ·refine @aa _ (av ?_);refine⟨fun h=>by rw[if_pos h],fun h=>⟨abe.1 h,by rfl⟩⟩
  ·refine @aa _ (av ?_);have h0:=hA.1 (by omega);refine⟨fun h=>by rw[if_neg (by omega),if_pos h],fun h=>⟨⟨h0,abe.1 h⟩,by rfl⟩⟩
  ·refine @aa _ (av ?_);have h0:=hA.1 (by omega);have h1:=hA.2.1 (by omega);refine⟨fun h=>by rw[if_neg (by omega),if_neg (by omega)],fun h=>⟨⟨h0,h1,abe.1 h⟩,by rfl⟩⟩
  ·refine @aa _ (av ?_);have h0:=hA.1 (by omega);have h1:=hA.2.1 (by omega);have h2:=hA.2.2 (by omega);rw[if_neg (by omega),if_neg (by omega),h2]
theorem Hg(w0:W0)(x y:G)(S:St):ab Tryz.prog w0 149 [gD x,gD y] S (fun d S'=>d=dI (KF x y)∧S'=S):=by
 refine bI [] mx Tryz.func149 rfl rfl (by kernel_rfl) ?_;refine @aa _ (ah @Tryz.ntmps149 ?_);intro b2 b3;refine aR (po _ x.a y.a _) (@aa _ (av ?_));refine aR (po _ x.f y.f _) (@aa _ (av ?_));refine aR (po _ x.t y.t _) (@aa _ (av ?_));refine aR (orI _ _ _ _ _) ?_ ⟨.full _ _ _,trivial⟩;refine @aa _ (av ?_);rw[NO]
theorem VU(w0:W0)(x y:G)(S:St):ab Tryz.prog w0 114 [gD x,gD y] S (fun d S'=>d=dB (yn x y)∧S'=S):=by
 refine bI [] mx Tryz.func114 rfl rfl (by kernel_rfl) ?_;refine @aa _ (ah @Tryz.ntmps114 ?_);intro b2 b3;refine aq (Hg _ x y _) (@aa _ (av ?_));exact Bool.eq_iff_iff.2 (decide_eq_true_iff.trans Ix)
theorem WG(w0:W0)(x y:G)(S:St):ab Tryz.prog w0 104 [gD x,gD y] S (fun d S'=>d=dB (yn x y)∧S'=S):=by
 refine bI [] mx Tryz.func104 rfl rfl (by kernel_rfl) ?_;refine @aa _ (ah @Tryz.ntmps104 ?_);intro b2 b3;unfold yn;refine⟨fun h=>decide_eq_decide.2 (by omega),fun h=>⟨fun h2=>decide_eq_decide.2 (by omega),fun h2=>decide_eq_decide.2 (by omega)⟩⟩
def Bw(up:List Nat)(g:G):Bool:=gM up g.f g.a&&gM up g.t g.a&&!gM up g.f g.t
theorem YO(w0:W0)(up:List Nat)(hu:eN up)(g:G)(S:St):ab Tryz.prog w0 113 [dH up,gD g] S (fun d S'=>d=dB (Bw up g)∧S'=S):=by
 refine bI [] mx Tryz.func113 rfl rfl (by kernel_rfl) ?_;refine @aa _ (ah @Tryz.ntmps113 ?_);intro b;unfold Bw;refine aq (wO _ up hu g.f g.a _) (@aa _ (av ?_));refine⟨fun h=>aq (wO _ up hu g.t g.a _) ?_,fun h=>by rw[h];rfl⟩;refine @aa _ (av ?_);refine⟨fun h2=>aq (wO _ up hu g.f g.t _) ?_,fun h2=>by rw[h,h2];rfl⟩;refine @aa _ (av ?_);rw[h,h2];rfl
theorem Yw(w0:W0)(up:List Nat)(hu:eN up)(g:G)(S:St):ab Tryz.prog w0 103 [dH up,gD g] S (fun d S'=>d=dB (Bw up g)∧S'=S):=by
 refine bI [] mx Tryz.func103 rfl rfl (by kernel_rfl) ?_;refine @aa _ (ah @Tryz.ntmps103 ?_);intro b;unfold Bw;refine aq (qb _ up hu g.f g.a _) (@aa _ (av ?_));refine⟨fun h=>aq (qb _ up hu g.t g.a _) ?_,fun h=>by rw[h];rfl⟩;refine @aa _ (av ?_);refine⟨fun h2=>aq (qb _ up hu g.f g.t _) ?_,fun h2=>by rw[h,h2];rfl⟩;refine @aa _ (av ?_);rw[h,h2];rfl
def OR(up:List Nat)(l:List G):Prop:=l.length≤64∧(∀g,g∈l→Bw up g=true)∧Up l
def UT(up:List Nat)(l:List G)(k:Nat):Prop:=∀i,i<k→(∀g,l[i]? =some g→Bw up g=true)∧(∀x y,0<i→l[i-1]? =some x→l[i]? =some y→yn x y=true)
theorem Ug{l:List G}:Up l↔∀i,(h:i+1<l.length)→yn (l[i]'(by omega)) l[i+1]=true:=by
 unfold Up;rw[acY];constructor
 ·intro h i hi;exact h i (i+1) (by omega) hi (by omega)
 ·intro h i j hi hj hij
  induction j with
  |zero=>omega
  |succ j ih=>
   by_cases e:i=j
   ·subst e;exact h i hj
   ·exact FU (ih (by omega) (by omega)) (h j hj)
theorem rG{up:List Nat}{l:List G}:OR up l↔l.length≤64∧UT up l l.length:=by
 unfold OR UT;rw[Ug];constructor
 ·rintro⟨h1,h2,h3⟩;refine⟨h1,fun i hi=>⟨fun g hg=>h2 g (aaf hg),fun x y h0 hx hy=>?_⟩⟩;have:=h3 (i-1) (by omega);obtain⟨q1,e1⟩:=aad.1 hx;obtain⟨q2,e2⟩:=aad.1 hy;simp only[show i-1+1=i from by omega]at this;rw[e1,e2]at this;exact this
 ·rintro⟨h1,h2⟩;refine⟨h1,fun g hg=>?_,fun i hi=>?_⟩
  ·obtain⟨i,hi,e⟩:=adF.1 hg;exact(h2 i hi).1 g (by rw[aac hi,e])
  ·exact(h2 (i+1) hi).2 _ _ (by omega) (by rw[Nat.add_sub_cancel];exact aac (by omega)) (aac hi)
theorem pb{up:List Nat}{l:List G}{a:Nat}(h:UT up l a)(h1:∀g,l[a]? =some g→Bw up g=true)(h2:∀x y,0<a→l[a-1]? =some x→l[a]? =some y→yn x y=true):UT up l (a+1):=fun i hi=>by
 by_cases e:i=a
 ·subst e;exact⟨h1,h2⟩
 ·exact h i (by omega)
theorem grP(w0:W0)(up:List Nat)(hu:eN up)(l:List G)(h0:l.length≤4611686018427387904)(S:St):ab Tryz.prog w0 62 [dH up,gL l] S (fun d S'=>d=dB (pB (OR up l))∧S'=S):=by
 refine bI [] mx Tryz.func62 rfl rfl (by kernel_rfl) ?_;refine @aa _ (ah @Tryz.ntmps62 ?_);refine aQ [] l.length [0,1,7,8,9] (fun a=>[(9,dI a)]) (fun _=>S) (fun a=>UT up l a) mx (by kernel_rfl) ?_ ?_
 ·refine @aa _ (av ?_);intro a ha;omega
 ·intro a ha hA;refine @aa _ (av ?_);refine⟨fun hla=>⟨hla,fun g hg b=>aR (YO _ up hu g _) ?_⟩,fun hge=>?_⟩
  ·refine @aa _ (av ?_);refine⟨fun q hp=>?_,fun q=>?_⟩
   ·have:=hp.2.1 g (aaf hg);rw[q]at this;cases this
   ·refine⟨fun h0a=>?_,fun h0a=>⟨hla,pb hA (fun g' hg'=>by rw[hg]at hg';cases hg';exact q) (fun x y h=>by omega),aJ (by omega)⟩⟩;rw[nJ (show -9223372036854775808≤(a:Int)-1 by omega) (by omega)];refine⟨by omega,by omega,fun x hx=>?_⟩;rw[show((a:Int)-1).toNat=a-1 from by omega]at hx;refine aR (VU _ x g _) (@aa _ (av ?_));refine⟨fun q2=>⟨hla,pb hA (fun g' hg'=>by rw[hg]at hg';cases hg';exact q) (fun x' y' _ hx' hy'=>by rw[hx]at hx';rw[hg]at hy';cases hx';cases hy';exact q2),aJ (by omega)⟩,fun q2 hp=>?_⟩;have:=((rG.1 hp).2 a hla).2 x g (by omega) hx hg;rw[q2]at this;cases this
  ·have e:a=l.length:=by omega
   subst e;rw[rG];exact⟨fun h=>⟨by omega,hA⟩,fun h=>by omega⟩
theorem grR(w0:W0)(up:List Nat)(hu:eN up)(l:List G)(h0:l.length≤4611686018427387904)(S:St):ab Tryz.prog w0 56 [dH up,gL l] S (fun d S'=>d=dB (pB (OR up l))∧S'=S):=by
 refine bI [] mx Tryz.func56 rfl rfl (by kernel_rfl) ?_;refine @aa _ (ah @Tryz.ntmps56 ?_);refine⟨fun h hp=>by have:=hp.1;omega,fun hl=>?_⟩;refine aQ [] l.length [0,1,5] (fun a=>[(5,dI a)]) (fun _=>S) (fun a=>UT up l a) mx (by kernel_rfl) ?_ ?_
 ·refine @aa _ (av ?_);intro a ha;omega
 ·intro a ha hA;refine @aa _ (av ?_);refine⟨fun hla=>⟨hla,fun g hg=>aq (Yw _ up hu g _) ?_⟩,fun hge=>?_⟩
  ·refine @aa _ (av ?_);refine⟨fun q hp=>?_,fun q=>?_⟩
   ·have:=hp.2.1 g (aaf hg);rw[q]at this;cases this
   ·refine⟨fun h0a=>?_,fun h0a=>⟨hla,pb hA (fun g' hg'=>by rw[hg]at hg';cases hg';exact q) (fun x y h=>by omega),aJ (by omega)⟩⟩;rw[nJ (show -9223372036854775808≤(a:Int)-1 by omega) (by omega)];refine⟨by omega,by omega,fun x hx=>?_⟩;rw[show((a:Int)-1).toNat=a-1 from by omega]at hx;refine⟨hla,fun y hy=>?_⟩;rw[hg]at hy;cases hy;refine aR (WG _ x g _) (@aa _ (av ?_));refine⟨fun q2=>⟨hla,pb hA (fun g' hg'=>by rw[hg]at hg';cases hg';exact q) (fun x' y' _ hx' hy'=>by rw[hx]at hx';rw[hg]at hy';cases hx';cases hy';exact q2),aJ (by omega)⟩,fun q2 hp=>?_⟩;have:=((rG.1 hp).2 a hla).2 x g (by omega) hx hg;rw[q2]at this;cases this
  ·have e:a=l.length:=by omega
   subst e;exact rG.2 ⟨by omega,hA⟩
theorem ZM(w0:W0)(l:List G)(g:G)(h0:l.length≤4611686018427387904)(S:St):ab Tryz.prog w0 91 [gL l,gD g] S (fun d S'=>d=dB (decide (g∈l))∧S'=S):=by
 refine bI [] mx Tryz.func91 rfl rfl (by kernel_rfl) ?_;refine @aa _ (ah @Tryz.ntmps91 ?_);intro b;refine aQ [] l.length [0,3,5] (fun a=>[(5,dI a)]) (fun _=>⟨(b.n,[dI g.a,dI g.f,dI g.t])::S.box,S.acc⟩) (fun a=>g∉l.take a) mx (by kernel_rfl) ?_ ?_
 ·refine @aa _ (av ?_);exact aca
 ·intro a ha hA;refine @aa _ (av ?_)
  have key:∀x:G,(decide (x.a=g.a)&&decide (x.f=g.f)&&decide (x.t=g.t))=decide (x=g):=fun x=>by
   rw[Bool.eq_iff_iff];simp only[aak,decide_eq_true_eq];obtain⟨a,f,t⟩:=x;obtain⟨a',f',t'⟩:=g;simp only[G.mk.injEq,and_assoc]
  refine⟨fun hla=>⟨hla,fun x hx=>⟨fun q=>?_,fun q=>⟨hla,fun hm=>?_,aJ (by omega)⟩⟩⟩,fun hge=>?_⟩
  ·rw[key,decide_eq_true_eq]at q;exact q▸aaf hx
  ·rw[key,decide_eq_false_iff_not]at q;rw[abY,hx]at hm;rcases aaD.1 hm with hm|hm
   ·exact hA hm
   ·simp only[ac4,aau]at hm;exact q hm.symm
  ·rw[abf (by omega)]at hA;exact hA
end Go.Proofs.YtoepfmhnapedoaaGreatDoor
namespace Go.Proofs.YtoepfmhnapedoaaGreatDoor
open Aml Go Lat Grs Rn
def tC(c:Nat):Bool:=decide ((97≤c∧c≤122)∨(65≤c∧c≤90)∨128≤c)
theorem OA(w0:W0)(c:Nat)(S:St):ab Tryz.prog w0 115 [.v (.int .i32 (c:Int))] S (fun d S'=>d=dB (tC c)∧S'=S):=by
 refine bI [] mx Tryz.func115 rfl rfl (by kernel_rfl) ?_;refine @aa _ (ah @Tryz.ntmps115 ?_);unfold tC
 (repeat' first|refine⟨?_,?_⟩|intro _) <;>first|exact(decide_eq_true (by omega)).symm|exact decide_eq_decide.2 (by omega)
theorem Oq(w0:W0)(c:Nat)(S:St):ab Tryz.prog w0 105 [.v (.int .i32 (c:Int))] S (fun d S'=>d=dB (tC c)∧S'=S):=by
 refine bI [] mx Tryz.func105 rfl rfl (by kernel_rfl) ?_;refine @aa _ (ah @Tryz.ntmps105 ?_);unfold tC
 (repeat' first|refine⟨?_,?_⟩|intro _) <;>first|exact(decide_eq_true (by omega)).symm|exact decide_eq_decide.2 (by omega)
structure jm(l:List UInt8):Prop where
 Tn:∀r,r∈bR l→tC r.1=true
 whole:whole l
 pos:1≤(bR l).length
 le:(bR l).length≤12
theorem ya(l:List UInt8):Lib.validD l=true↔whole l:=by
 induction l using sZ with
 |h0=>exact⟨fun _ r hr=>(by cases hr),fun _=>rfl⟩
 |h1 l hne ih=>
  rw[Lib.validD_step l hne,sO hne,←ih];by_cases h:(Lib.decodeL l).1=65533∧(Lib.decodeL l).2=1
  ·rw[if_pos h];exact⟨fun q=>(by cases q),fun q=>absurd h q.1⟩
  ·rw[if_neg h];exact⟨fun q=>⟨h,q⟩,fun q=>q.2⟩
def rl(c:Nat):Nat:=if c<128 then 1 else if c<2048 then 2 else if c<65536 then 3 else 4
def L9(l:List (Nat×List UInt8)):Nat:=(l.map fun r=>rl r.1).sum
theorem U8(l:List UInt8)(hne:l≠[]):(dl l).2≤rl (dl l).1∧((dl l).2=rl (dl l).1↔zE (dl l)):=by
 have k0:=(l.getD 0 0).toNat_lt;unfold dl;rw[Lib.decodeL_N];unfold zE rl;rcases Lib.decodeN_shape l.length (l.getD 0 0).toNat (l.getD 1 0).toNat (l.getD 2 0).toNat (l.getD 3 0).toNat with⟨c,e⟩|⟨c1,c2,c3,cv,e⟩|⟨c1,c2,c3,c4,cv,cs,e⟩|⟨c1,c2,c3,c4,c5,cv,cw,e⟩|e
 all_goals rw[e];dsimp only
 ·rw[if_pos c];omega
 ·rw[if_neg (by omega),if_pos (by omega)];omega
 ·rw[if_neg (by omega),if_neg (by omega),if_pos (by omega)];omega
 ·rw[if_neg (by omega),if_neg (by omega),if_neg (by omega)];omega
 ·decide
theorem ED(l:List UInt8):l.length≤L9 (bR l)∧(L9 (bR l)=l.length↔whole l):=by
 induction l using sZ with
 |h0=>exact⟨aar _,⟨fun _ r hr=>(by cases hr),fun _=>rfl⟩⟩
 |h1 l hne ih=>
  have hle:=Lib.decodeL_le l hne;have h1:=U8 l hne;change (dl l).2≤l.length at hle;rw[iU hne,sO hne];unfold L9 at ih ⊢;rw[abB,ac6];rw[acq]at ih;rw[←ih.2,←h1.2];dsimp only;omega
theorem tn{L:List UInt8}{k:Nat}(h:k<L.length):bR (L.drop k)=((dl (L.drop k)).1,(L.drop k).take (dl (L.drop k)).2)::bR (L.drop (k+(dl (L.drop k)).2)):=by
 have hne:L.drop k≠[]:=by intro e;have:=congrArg List.length e;rw[acq]at this;simp at this;omega
 rw[iU hne,acP]
theorem Ja{L:List UInt8}{k:Nat}(h:k<L.length):1≤(dl (L.drop k)).2∧k+(dl (L.drop k)).2≤L.length:=by
 have hne:L.drop k≠[]:=by intro e;have:=congrArg List.length e;rw[acq]at this;simp at this;omega
 have h1:=sH (L.drop k);have h2:=Lib.decodeL_le _ hne;rw[acq]at h2;exact⟨h1,by unfold dl;omega⟩
theorem qJ{L:List UInt8}{k:Nat}(h:L.length≤k):bR (L.drop k)=[]:=by rw[List.drop_of_length_le h];rfl
theorem Qi(c:Nat):rl c≤4:=by unfold rl;(repeat' split) <;>omega
theorem Th(l:List (Nat×List UInt8)):L9 l≤4*l.length:=by
 induction l with
 |nil=>exact aar _
 |cons r l ih=>
  have:=Qi r.1;unfold L9 at ih ⊢;rw[abB,ac6,aaW];omega
theorem S8(w0:W0)(s:ByteArray)(hs:s.size≤1048576)(S:St):ab Tryz.prog w0 106 [dS s] S (fun d S'=>d=dB (pB (whole s.data.toList))∧S'=S):=by
 refine bI [] mx Tryz.func106 rfl rfl (by kernel_rfl) ?_;refine @aa _ (ah @Tryz.ntmps106 ?_);intro li;refine fZ [] [0,3,7] (σ:=Nat×List (Nat×List UInt8)) (fun p=>[(3,dI (L9 p.2))]) (fun p=>⟨S.box,(li.n,.xo (.si s p.1))::S.acc⟩) (fun p=>p.1≤s.size∧p.2++bR (s.data.toList.drop p.1)=bR s.data.toList) (fun p=>s.size-p.1) (0,[]) mx (by kernel_rfl) ⟨⟨aa6 _,rfl⟩,?_⟩ fun p hp=>?_
 ·refine @aa _ (av ?_);exact .refl _
 ·obtain⟨k,pre⟩:=p;obtain⟨hk1,hpre⟩:=hp;dsimp only at hk1 hpre;refine @aa _ (av ?_);have hsz:=iJ s;have hrl:=qm s.data.toList
  have hrp:pre.length≤s.size:=by
   have:=congrArg List.length hpre;rw[aaK]at this;omega
  have hr4:L9 pre≤4*pre.length:=Th pre;rw[sU s k];refine⟨fun hk=>?_,fun hk=>?_⟩
  ·rw[qJ (by omega),aco]at hpre;rw[hpre,←(ED _).2];rfl
  ·have h1:=tn (L:=s.data.toList) (k:=k) (by omega);have h2:=Ja (L:=s.data.toList) (k:=k) (by omega);generalize hD:dl (s.data.toList.drop k)=D at h1 h2;change Lib.decodeL _=D at hD;rw[hD];obtain⟨c,n⟩:=D;dsimp only at h1 h2 ⊢
   have go:∀m:Nat,m=rl c→∃s':Nat×List (Nat×List UInt8),
    (s'.fst≤s.size∧s'.snd++bR (List.drop s'.fst s.data.toList)=bR s.data.toList)∧
     s.size-s'.fst<s.size-k∧
      IntKind.i64.wrap ((L9 pre:Int)+(m:Int))=(L9 s'.snd:Int)∧
       Aml.Sub {box:=S.box,acc:=(li.n,Ob.xo (XO.si s s'.fst))::S.acc}
        {box:=S.box,acc:=(li.n,Ob.xo (XO.si s (k+n)))::S.acc}:=by
    rintro _ rfl;refine⟨(k+n,pre++[(c,(s.data.toList.drop k).take n)]),⟨by dsimp only;omega,?_⟩,by dsimp only;omega,?_,.refl _⟩
    ·dsimp only;rw[acu,List.singleton_append,←h1];exact hpre
    ·have hle:=Qi c;rw[nJ (by omega) (by omega)];unfold L9;rw[aaZ,List.sum_append];simp
   unfold rl at go;refine⟨fun q=>?_,fun q=>⟨fun q2=>?_,fun q2=>⟨fun q3=>?_,fun q3=>?_⟩⟩⟩
   ·exact go 1 (by rw[if_pos (by omega)])
   ·exact go 2 (by rw[if_neg (by omega),if_pos (by omega)])
   ·exact go 3 (by rw[if_neg (by omega),if_neg (by omega),if_pos (by omega)])
   ·exact go 4 (by rw[if_neg (by omega),if_neg (by omega),if_neg (by omega)])
theorem yY{l:List UInt8}(h:∀r,r∈bR l→tC r.1=true):jm l↔whole l∧1≤(bR l).length∧(bR l).length≤12:=⟨fun q=>⟨q.whole,q.pos,q.le⟩,fun q=>⟨h,q.1,q.2.1,q.2.2⟩⟩
theorem KD{l:List UInt8}(h:∀r,r∈bR l→tC r.1=true):(Lib.validD l=true→
 (((bR l).length:Int)≥1→(((bR l).length:Int)≤12↔jm l))∧(¬((bR l).length:Int)≥1→¬jm l))∧
 (Lib.validD l=false→¬jm l):=by
 rw[yY h,←ya];refine⟨fun q=>⟨fun q2=>⟨fun q3=>⟨q,by omega,by omega⟩,fun q3=>by omega⟩,fun q2 q3=>by omega⟩,fun q q3=>by rw[q]at q3;cases q3.1⟩
theorem V9(w0:W0)(hk:KU w0)(s:ByteArray)(hs:s.size≤1048576)(S:St):ab Tryz.prog w0 63 [dS s] S (fun d S'=>d=dB (pB (jm s.data.toList))∧S'=S):=by
 refine bI [] mx Tryz.func63 rfl rfl (by kernel_rfl) ?_;refine @aa _ (ah @Tryz.ntmps63 ?_);intro li;refine fZ [] [0,3,7] (σ:=Nat×List (Nat×List UInt8)) (fun p=>[(3,dI p.2.length)]) (fun p=>⟨S.box,(li.n,.xo (.si s p.1))::S.acc⟩) (fun p=>p.1≤s.size∧p.2++bR (s.data.toList.drop p.1)=bR s.data.toList∧∀r,r∈p.2→tC r.1=true) (fun p=>s.size-p.1) (0,[]) mx (by kernel_rfl) ⟨⟨aa6 _,rfl,fun r hr=>by cases hr⟩,?_⟩ fun p hp=>?_
 ·exact @aa _ bY
 ·obtain⟨k,pre⟩:=p;obtain⟨hk1,hpre,hlet⟩:=hp;dsimp only at hk1 hpre hlet;have hsz:=iJ s;refine @aa _ (av ?_);rw[sU s k];have hrl:=qm s.data.toList
  have hrp:pre.length≤s.size:=by
   have:=congrArg List.length hpre;rw[aaK]at this;omega
  refine⟨fun hk'=>?_,fun hk'=>?_⟩
  ·rw[qJ (by omega),aco]at hpre;rw[hpre]at hlet ⊢;refine aq (Se _ hk s hs _) (@aa _ (av ?_));exact KD hlet
  ·have h1:=tn (L:=s.data.toList) (k:=k) (by omega);have h2:=Ja (L:=s.data.toList) (k:=k) (by omega);generalize hD:dl (s.data.toList.drop k)=D at h1 h2;change Lib.decodeL _=D at hD;rw[hD];obtain⟨c,n⟩:=D;dsimp only at h1 h2 ⊢;refine aq (OA _ c _) (@aa _ (av ?_));refine⟨fun q=>⟨(k+n,pre++[(c,(s.data.toList.drop k).take n)]),⟨by dsimp only;omega,?_,?_⟩,by dsimp only;omega,?_,.refl _⟩,fun q hN=>?_⟩
   ·dsimp only;rw[acu,List.singleton_append,←h1];exact hpre
   ·intro r hr;rcases aaD.1 hr with hr|hr
    ·exact hlet r hr
    ·rw[aau.1 hr];exact q
   ·rw[nJ (by omega) (by omega)];simp
   ·have:=hN.Tn (c,(s.data.toList.drop k).take n) (by rw[←hpre,h1];simp);rw[q]at this;cases this
theorem Eo{l:List UInt8}(h:∀r,r∈bR l→tC r.1=true):(whole l→
 (((bR l).length:Int)≥1→(((bR l).length:Int)≤12↔jm l))∧(¬((bR l).length:Int)≥1→¬jm l))∧
 (¬whole l→¬jm l):=by
 rw[yY h];refine⟨fun q=>⟨fun q2=>⟨fun q3=>⟨q,by omega,by omega⟩,fun q3=>by omega⟩,fun q2 q3=>by omega⟩,fun q q3=>q q3.1⟩
theorem Wh(w0:W0)(s:ByteArray)(hs:s.size≤1048576)(S:St):ab Tryz.prog w0 57 [dS s] S (fun d S'=>d=dB (pB (jm s.data.toList))∧S'=S):=by
 refine bI [] mx Tryz.func57 rfl rfl (by kernel_rfl) ?_;refine @aa _ (ah @Tryz.ntmps57 ?_);intro li;refine fZ [] [0,3,8] (σ:=Nat×List (Nat×List UInt8)) (fun p=>[(3,dI p.2.length)]) (fun p=>⟨S.box,(li.n,.xo (.si s p.1))::S.acc⟩) (fun p=>p.1≤s.size∧p.2++bR (s.data.toList.drop p.1)=bR s.data.toList∧∀r,r∈p.2→tC r.1=true) (fun p=>s.size-p.1) (0,[]) mx (by kernel_rfl) ⟨⟨aa6 _,rfl,fun r hr=>by cases hr⟩,?_⟩ fun p hp=>?_
 ·exact @aa _ bY
 ·obtain⟨k,pre⟩:=p;obtain⟨hk1,hpre,hlet⟩:=hp;dsimp only at hk1 hpre hlet;have hsz:=iJ s;refine @aa _ (av ?_);rw[sU s k];have hrl:=qm s.data.toList
  have hrp:pre.length≤s.size:=by
   have:=congrArg List.length hpre;rw[aaK]at this;omega
  refine⟨fun hk'=>?_,fun hk'=>?_⟩
  ·rw[qJ (by omega),aco]at hpre;rw[hpre]at hlet ⊢;refine aq (S8 _ s hs _) (@aa _ (av ?_));exact Eo hlet
  ·have h1:=tn (L:=s.data.toList) (k:=k) (by omega);have h2:=Ja (L:=s.data.toList) (k:=k) (by omega);generalize hD:dl (s.data.toList.drop k)=D at h1 h2;change Lib.decodeL _=D at hD;rw[hD];obtain⟨c,n⟩:=D;dsimp only at h1 h2 ⊢;refine aq (Oq _ c _) (@aa _ (av ?_));refine⟨fun q=>⟨(k+n,pre++[(c,(s.data.toList.drop k).take n)]),⟨by dsimp only;omega,?_,?_⟩,by dsimp only;omega,?_,.refl _⟩,fun q hN=>?_⟩
   ·dsimp only;rw[acu,List.singleton_append,←h1];exact hpre
   ·intro r hr;rcases aaD.1 hr with hr|hr
    ·exact hlet r hr
    ·rw[aau.1 hr];exact q
   ·rw[nJ (by omega) (by omega)];simp
   ·have:=hN.Tn (c,(s.data.toList.drop k).take n) (by rw[←hpre,h1];simp);rw[q]at this;cases this
attribute [go_sem] dK
def nw(l:List (List UInt8))(s:List UInt8):Int:=if s∈l then((l.idxOf s:Nat):Int)else -1
theorem vb{l:List (List UInt8)}{s:List UInt8}:nw l s<0↔s∉l:=by
 unfold nw;split <;>simp_all <;>omega
theorem DG{l:List (List UInt8)}{s:List UInt8}{k:Nat}(h0:s∉l.take k)(h:l[k]? =some s):nw l s=(k:Int):=by
 unfold nw;obtain⟨hk,e⟩:=aad.1 h;rw[if_pos (aaf h)];have h1:l=l.take k++s::l.drop (k+1):=by rw[←e,←List.drop_eq_getElem_cons hk,adf]
 have:l.idxOf s=k:=by
  rw[h1,List.idxOf_append,if_neg h0,List.idxOf_cons_self,ab2];omega
 rw[this]
theorem zU{l:List (List UInt8)}{s:List UInt8}(h:s∉l):nw l s= -1:=by unfold nw;rw[if_neg h]
theorem yd{l:List (List UInt8)}{s x:List UInt8}{k:Nat}(h0:s∉l.take k)(hx:l[k]? =some x)(hne:¬s=x):s∉l.take (k+1):=by
 rw[abY,hx];intro hm;rcases aaD.1 hm with hm|hm
 ·exact h0 hm
 ·simp only[ac4,aau]at hm;exact hne hm
theorem SC(w0:W0)(l:List (List UInt8))(s:List UInt8)(hl:l.length≤4611686018427387904)(S:St):ab Tryz.prog w0 117 [.sl 1 false (aA l),dS (tx s)] S (fun d S'=>d=dI (nw l s)∧S'=S):=by
 refine bI [] mx Tryz.func117 rfl rfl (by kernel_rfl) ?_;refine @aa _ (ah @Tryz.ntmps117 ?_);refine aQ [] l.length [0,1,7,8] (fun a=>[(8,dI a)]) (fun _=>S) (fun a=>s∉l.take a) mx (by kernel_rfl) ?_ ?_
 ·refine @aa _ (av ?_);exact aca
 ·intro a ha hA;refine @aa _ (av ?_);refine⟨fun hla=>⟨hla,fun x hx=>⟨fun e=>(DG hA (e▸hx)).symm,fun e=>⟨hla,yd hA hx e,aJ (by omega)⟩⟩⟩,fun hge=>?_⟩;rw[abf (by omega)]at hA;exact(zU hA).symm
theorem Wl(w0:W0)(l:List (List UInt8))(s:List UInt8)(hl:l.length≤4611686018427387904)(S:St):ab Tryz.prog w0 58 [.sl 1 false (aA l),dS (tx s)] S (fun d S'=>d=dI (nw l s)∧S'=S):=by
 refine bI [] mx Tryz.func58 rfl rfl (by kernel_rfl) ?_;refine @aa _ (ah @Tryz.ntmps58 ?_);refine aQ [] l.length [0,1,5] (fun a=>[(5,dI a)]) (fun _=>S) (fun a=>s∉l.take a) mx (by kernel_rfl) ?_ ?_
 ·refine @aa _ (av ?_);exact aca
 ·intro a ha hA;refine @aa _ (av ?_);refine⟨fun hla=>⟨hla,fun x hx=>⟨fun e=>(DG hA (e▸hx)).symm,fun e=>⟨hla,yd hA hx (fun q=>e q.symm),aJ (by omega)⟩⟩⟩,fun hge=>?_⟩;rw[abf (by omega)]at hA;exact(zU hA).symm
theorem Ej(w0:W0)(l:List (List UInt8))(s:List UInt8)(hl:l.length≤4611686018427387904)(S:St):ab Tryz.prog w0 65 [.sl 1 false (aA l),dS (tx s)] S (fun d S'=>d=dB (decide (s∈l))∧S'=S):=by
 refine bI [] mx Tryz.func65 rfl rfl (by kernel_rfl) ?_;refine @aa _ (ah @Tryz.ntmps65 ?_);refine aq (SC _ l s hl _) (@aa _ (av ?_));have:=vb (l:=l) (s:=s);by_cases h:s∈l
 ·exact⟨fun _=>h,fun _=>Int.not_lt.1 fun q=>this.1 q h⟩
 ·exact⟨fun q=>by have:=this.2 h;omega,fun q=>absurd q h⟩
theorem QP(w0:W0)(n:Int)(S:St):ab Tryz.prog w0 64 [dI n] S (fun d S'=>d=dB (decide (4≤n∧n≤1000))∧S'=S):=by
 refine bI [] mx Tryz.func64 rfl rfl (by kernel_rfl) ?_;refine @aa _ (ah @Tryz.ntmps64 ?_);refine⟨fun h=>⟨fun q=>⟨h,q⟩,fun q=>q.2⟩,fun h q=>h q.1⟩
structure Cf where
 nm:List (List UInt8)
 up:List Nat
 qu:List Int
 gr:List G
@[go_sem] def iH (l:List Int):DV:= .sl 1 false (l.map dI)
@[go_sem] def QK (c:Cf):DV:= .agg [.sl 1 false (aA c.nm),dH c.up,iH c.qu,gL c.gr]
structure Ef(c:Cf):Prop where
 MD:c.nm.length=c.up.length
 Uj:c.qu.length=c.up.length
 Yc:uS c.up
 Xs:OR c.up c.gr
 name:∀s,s∈c.nm→jm s
 quo:∀n,n∈c.qu→4≤n∧n≤1000
 uniq:c.nm.Nodup
structure zu(c:Cf):Prop where
 YL:c.nm.length≤1048576
 Z2:∀s,s∈c.nm→s.length≤1048576
 PL:c.up.length≤1048576
 A8:eN c.up
 YT:c.qu.length≤1048576
 XU:c.gr.length≤1048576
def Mg(c:Cf)(k:Nat):Prop:=∀i,i<k→∀s n,c.nm[i]? =some s→c.qu[i]? =some n→jm s∧(4≤n∧n≤1000)∧s∉c.nm.take i
theorem Dw{c:Cf}(h1:c.nm.length=c.up.length)(h2:c.qu.length=c.up.length):Ef c↔uS c.up∧OR c.up c.gr∧Mg c c.nm.length:=by
 constructor
 ·intro h;refine⟨h.Yc,h.Xs,fun i hi s n hs hn=>⟨h.name s (aaf hs),h.quo n (aaf hn),fun hm=>?_⟩⟩;obtain⟨j,hj,e⟩:=adF.1 hm;rw[ab2]at hj;rw[List.getElem_take]at e;obtain⟨hi',e'⟩:=aad.1 hs;have:=acY.1 h.uniq j i (by omega) hi' (by omega);exact this (by rw[e,e'])
 ·rintro⟨a1,a2,a3⟩;have key:∀i,(hi:i<c.nm.length)→jm (c.nm[i])∧(4≤c.qu[i]'(by omega)∧c.qu[i]'(by omega)≤1000)∧c.nm[i]∉c.nm.take i:=fun i hi=>a3 i hi _ _ (aac hi) (aac (by omega));refine⟨h1,h2,a1,a2,fun s hs=>?_,fun n hn=>?_,?_⟩
  ·obtain⟨i,hi,rfl⟩:=adF.1 hs;exact(key i hi).1
  ·obtain⟨i,hi,rfl⟩:=adF.1 hn;exact(key i (by omega)).2.1
  ·refine acY.2 fun i j hi hj hij e=>(key j hj).2.2 ?_;rw[←e];exact adF.2 ⟨i,by rw[ab2];omega,by rw[List.getElem_take]⟩
theorem Ap{c:Cf}{k:Nat}{s:List UInt8}{n:Int}(h:Mg c k)(hs:c.nm[k]? =some s)(hn:c.qu[k]? =some n)(h1:jm s)(h2:4≤n∧n≤1000)(h3:s∉c.nm.take k):Mg c (k+1):=fun i hi s' n' hs' hn'=>by
 by_cases e:i=k
 ·subst e;rw[hs]at hs';rw[hn]at hn';cases hs';cases hn';exact⟨h1,h2,h3⟩
 ·exact h i (by omega) s' n' hs' hn'
theorem Qq{c:Cf}(h2:c.qu.length=c.up.length)(h1:c.nm.length=c.up.length){k:Nat}(hk:k<c.nm.length):∃n,c.qu[k]? =some n:=⟨_,aac (by omega)⟩
theorem SJ(w0:W0)(hg:jv w0)(hk:KU w0)(c:Cf)(hc:zu c)(S:St):ab Tryz.prog w0 26 [QK c] S (fun d S'=>d=dB (pB (Ef c))∧S'=S):=by
 have h1:=hc.YL;have h2:=hc.PL;have h3:=hc.YT;have h4:=hc.XU;refine bI [] mx Tryz.func26 rfl rfl (by kernel_rfl) ?_;refine @aa _ (ah @Tryz.ntmps26 ?_);intro b;refine⟨fun h hp=>h hp.MD,fun e1=>⟨fun h hp=>h hp.Uj,fun e2=>?_⟩⟩;have e1:=abe.1 e1;have e2:=abe.1 e2;refine aq (Y0 _ hg c.up hc.A8 (by omega) _) (@aa _ (av ?_));refine⟨fun hL hp=>hL hp.Yc,fun hL=>aq (grP _ c.up hc.A8 c.gr (by omega) _) ?_⟩;refine @aa _ (av ?_);refine⟨fun hG hp=>hG hp.Xs,fun hG=>?_⟩;rw[Dw e1 e2];refine aQ [] c.nm.length [1,36,37,38] (fun a=>[(38,dI a)]) (fun _=>⟨(b.n,[.sl 1 false (aA c.nm),dH c.up,iH c.qu,gL c.gr])::S.box,S.acc⟩) (fun a=>Mg c a) mx (by kernel_rfl) ?_ ?_
 ·refine @aa _ (av ?_);intro i hi;omega
 ·intro a ha hA;refine @aa _ (av ?_);refine⟨fun hla=>⟨hla,fun s hs=>?_⟩,fun hge=>?_⟩
  ·refine Exists.elim (Qq e2 e1 hla) fun n hn=>?_;have hsl:=hc.Z2 s (aaf hs);refine aq (V9 _ hk (tx s) (by rw[cV];exact hsl) _) (@aa _ (av ?_));refine⟨fun q hp=>q (hp.2.2 a hla s n hs hn).1,fun q=>⟨by omega,fun n' hn'=>?_⟩⟩;rw[hn]at hn';cases hn';refine aq (QP _ n _) (@aa _ (av ?_));refine⟨fun q2 hp=>q2 (hp.2.2 a hla s n hs hn).2.1,fun q2=>⟨by omega,?_⟩⟩;refine aq (Ej _ (c.nm.take a) s (by rw[ab2];omega) _) (@aa _ (av ?_));have z1:s∈List.take a c.nm→¬(uS c.up∧OR c.up c.gr∧Mg c c.nm.length):=fun q3 hp=>(hp.2.2 a hla s n hs hn).2.2 q3;have z2:¬s∈List.take a c.nm→Mg c (a+1):=fun q3=>Ap hA hs hn (abe.1 q) (abe.1 q2) q3;exact⟨z1,fun q3=>⟨hla,z2 q3,aJ (show a<4611686018427387905 by omega)⟩⟩
  ·have e:a=c.nm.length:=by omega
   subst e;exact⟨abe.1 hL,abe.1 hG,hA⟩
theorem SA(w0:W0)(c:Cf)(hc:zu c)(S:St):ab Tryz.prog w0 19 [QK c] S (fun d S'=>d=dB (pB (Ef c))∧S'=S):=by
 have h1:=hc.YL;have h2:=hc.PL;have h3:=hc.YT;have h4:=hc.XU;refine bI [] mx Tryz.func19 rfl rfl (by kernel_rfl) ?_;refine @aa _ (ah @Tryz.ntmps19 ?_);intro b;refine⟨fun h hp=>h hp.MD,fun e1=>⟨fun h hp=>h (by rw[hp.MD,hp.Uj]),fun e2=>?_⟩⟩;have e1:=abe.1 e1;have e2:c.qu.length=c.up.length:=by rw[←abe.1 e2,e1]
 refine aq (Y2 _ c.up hc.A8 (by omega) _) (@aa _ (av ?_));refine⟨fun hL hp=>hL hp.Yc,fun hL=>aq (grR _ c.up hc.A8 c.gr (by omega) _) ?_⟩;refine @aa _ (av ?_);refine⟨fun hG hp=>hG hp.Xs,fun hG=>?_⟩;rw[Dw e1 e2];refine aQ [] c.nm.length [1,3] (fun a=>[(3,dI a)]) (fun _=>⟨(b.n,[.sl 1 false (aA c.nm),dH c.up,iH c.qu,gL c.gr])::S.box,S.acc⟩) (fun a=>Mg c a) mx (by kernel_rfl) ?_ ?_
 ·refine @aa _ (av ?_);intro i hi;omega
 ·intro a ha hA;refine @aa _ (av ?_);refine⟨fun hla=>⟨hla,fun s hs=>?_⟩,fun hge=>?_⟩
  ·refine Exists.elim (Qq e2 e1 hla) fun n hn=>?_;have hsl:=hc.Z2 s (aaf hs);refine aq (Wh _ (tx s) (by rw[cV];exact hsl) _) (@aa _ (av ?_));have K:=fun hp:uS c.up∧OR c.up c.gr∧Mg c c.nm.length=>hp.2.2 a hla s n hs hn;refine⟨fun q hp=>q (K hp).1,fun q=>⟨by omega,fun n' hn'=>?_⟩⟩;obtain rfl:n=n':=abR (hn.symm.trans hn');refine⟨fun q2 hp=>by have:=(K hp).2.1;omega,fun q2=>⟨by omega,fun n' hn'=>?_⟩⟩;obtain rfl:n=n':=abR (hn.symm.trans hn');refine⟨fun q3 hp=>by have:=(K hp).2.1;omega,fun q3=>⟨by omega,by omega,fun s' hs'=>?_⟩⟩;obtain rfl:s=s':=abR (hs.symm.trans hs');refine aR (Wl _ (c.nm.take a) s (by rw[ab2];omega) _) (@aa _ (av ?_));have fn:=vb (l:=c.nm.take a) (s:=s);have z1:nw (List.take a c.nm) s≥0→¬(uS c.up∧OR c.up c.gr∧Mg c c.nm.length):=fun q4 hp=>(K hp).2.2 (abe.1 fun g=>by have:=fn.2 g;omega);have z2:¬nw (List.take a c.nm) s≥0→Mg c (a+1):=fun q4=>Ap hA hs hn (abe.1 q) (by omega) (fn.1 (by omega));exact⟨z1,fun q4=>⟨hla,z2 q4,aJ (show a<4611686018427387905 by omega)⟩⟩
  ·have e:a=c.nm.length:=by omega
   subst e;exact⟨abe.1 hL,abe.1 hG,hA⟩
end Go.Proofs.YtoepfmhnapedoaaGreatDoor
namespace Go.Proofs.YtoepfmhnapedoaaGreatDoor
open Aml Go Rn Lat Grs
structure aV where
 kind:Int
 level:Int
 az:Int
 snap:Int
 bucket:List UInt8
 key:List UInt8
 value:List UInt8
 label:Int
 cz:Int
 n:Int
 cC:List (List UInt8)
@[go_sem] def aV.ds (o:aV):List DV:=[dI o.kind,dI o.level,dI o.az,dI o.snap,dS (tx o.bucket),dS (tx o.key),dS (tx o.value),dI o.label,dI o.cz,dI o.n,.sl 1 false (aA o.cC)]
@[go_sem] def uB (o:aV):DV:= .agg [dI o.kind,dI o.level,dI o.az,dI o.snap,dS (tx o.bucket),dS (tx o.key),dS (tx o.value),dI o.label,dI o.cz,dI o.n,.sl 1 false (aA o.cC)]
def pD(w0:W0)(S:St)(e:Int):Prop:=∀T,Has S T→w0.pq (.jM 33 (dI e)) T
theorem aI(w0:W0)(b:Bool)(e:Int)(S:St)(hq:b=false→pD w0 S e):ab Tryz.prog w0 33 [dB b,dI e] S (fun d S'=>b=true∧d= .cW []∧S'=S):=by
 refine lO [] mx Tryz.func33 rfl rfl (by kernel_rfl) ?_;refine @aa _ (ah @Tryz.ntmps33 ?_);exact fun h=>hq h S (.refl S)
theorem Qx(w0:W0)(s:List UInt8)(m:Int)(S:St):ab Tryz.prog w0 121 [dS (tx s),dI m] S (fun d S'=>d=dB (decide (s≠[]∧(s.length:Int)≤m))∧S'=S):=by
 refine bI [] mx Tryz.func121 rfl rfl (by kernel_rfl) ?_;refine @aa _ (ah @Tryz.ntmps121 ?_);rw[cV];exact⟨fun h=>⟨fun q=>⟨h,q⟩,fun q=>q.2⟩,fun h q=>h q.1⟩
@[go_sem] def HL (c:Cf) (ls:List Nat) (t sn:Nat):List DV:=[.sl 1 false (aA c.nm),dH c.up,iH c.qu,gL c.gr,.sl 1 false (ls.map bC),bC t,.mp sn]
@[go_sem] def uD (m own:Nat) (o:aV) (full:Bool):List DV:=[bC m,dI o.kind,dI o.level,dI o.az,dI o.snap,dS (tx o.bucket),dS (tx o.key),dS (tx o.value),dI o.label,dI o.cz,dI o.n,.sl 1 false (aA o.cC),dB full,bC own]
@[go_sem] def oC (b:Nat) (au:DV) (has:Int) (dr:DV):List DV:=[.mp b,au,dI has,dr]
def Az(ls:List Nat)(x:Int):Option Nat:=if 0≤x then ls[x.toNat]? else none
theorem wu(w0:W0){S:St}{w m own:Nat}{o:aV}{full:Bool}{b:Nat}{au dr:DV}{has:Int}(hw:lk S.box w=some (uD m own o full))(hl:lk S.box own=some (oC b au has dr)):
 ab Tryz.prog w0 118 [bC w] S (fun d S'=>d=dB (decide (has=o.az))∧S'=S):=by
 refine bI [] mx Tryz.func118 rfl rfl (by kernel_rfl) ?_;exact @aa _ (tI @Tryz.ntmps118 @hw @hl)
theorem fL(w0:W0){S:St}{w m own:Nat}{o:aV}{full:Bool}(hw:lk S.box w=some (uD m own o full)):
 ab Tryz.prog w0 38 [bC w] S (fun d S'=>d=CS o.level o.az∧S'=S):=by
 refine bI [] mx Tryz.func38 rfl rfl (by kernel_rfl) ?_;exact @aa _ (di @Tryz.ntmps38 @hw)
theorem qn(w0:W0){S:St}{w m own:Nat}{o:aV}{full:Bool}{c:Cf}{ls:List Nat}{t sn:Nat}(hw:lk S.box w=some (uD m own o full))(hm:lk S.box m=some (HL c ls t sn))(hu:eN c.up)(x:Int):
 ab Tryz.prog w0 131 [bC w,dI x] S (fun d S'=>d=dB (gM c.up x o.level)∧S'=S):=by
 refine bI [] mx Tryz.func131 rfl rfl (by kernel_rfl) ?_;refine @aa _ (cL @Tryz.ntmps131 @hw @hm ?_);refine aR (wO _ c.up hu x o.level _) ?_;exact @aa _ bY
theorem ofM(w0:W0){S:St}{m:Nat}{c:Cf}{ls:List Nat}{t sn:Nat}(hm:lk S.box m=some (HL c ls t sn))(x:Int):
 ab Tryz.prog w0 51 [bC m,dI x] S (fun d S'=>d=xV (Az ls x)∧S'=S):=by
 refine bI [] mx Tryz.func51 rfl rfl (by kernel_rfl) ?_;refine @aa _ (cK @Tryz.ntmps51 @hm ?_);unfold Az;refine⟨fun h=>?_,fun h=>⟨fun h2=>?_,fun h2=>⟨by omega,by omega,fun a ha=>?_⟩⟩⟩
 ·rw[if_neg (by omega)];exact .refl _
 ·rw[if_pos (by omega),aaS (by omega)];exact .refl _
 ·rw[if_pos (by omega),ha];exact .refl _
theorem ofN(w0:W0)(x:Int)(S:St):ab Tryz.prog w0 51 [.v (.pointer none),dI x] S (fun d S'=>d= .v (.pointer none)∧S'=S):=by
 refine bI [] mx Tryz.func51 rfl rfl (by kernel_rfl) ?_;exact @aa _ (ft @Tryz.ntmps51)
theorem oF(w0:W0){S:St}{l N:Nat}{ids:List UInt8→Option Nat}{F:List UInt8→Option (List UInt8→Option (List UInt8))}(h:BM S l N ids F)(n:List UInt8)(hq:ids n=none→pD w0 S 32):
 ab Tryz.prog w0 122 [.mp l,dS (tx n)] S (fun d S'=>∃i,ids n=some i∧d= .mp i∧S'=S):=by
 obtain⟨es,c,h1,h2,h3⟩:=h.top;have h3:=h3 n;unfold kT at h3
 cases hi:ids n with
 |none=>
  rw[hi]at h3;refine lO [] mx Tryz.func122 rfl rfl (by kernel_rfl) ?_;refine @aa _ (cL @Tryz.ntmps122 @h1 @h3 ?_);refine aw (aI w0 false 32 _ fun _=>hq hi) ?_;rintro _ _ ⟨h,_⟩;cases h
 |some i=>
  rw[hi]at h3;refine lO [] mx Tryz.func122 rfl rfl (by kernel_rfl) ?_;refine @aa _ (cL @Tryz.ntmps122 @h1 @h3 ?_);refine aw (aI w0 true 32 _ fun h=>by cases h) ?_;rintro _ _ ⟨_,rfl,rfl⟩;refine @aa _ (av ?_);exact⟨i,rfl,rfl⟩
def J1:List (List UInt8):=[[111,112,101,110],[99,108,111,115,101],[98,101,103,105,110],[99,111,109,109,105,116],[114,111,108,108,98,97,99,107],[109,97,107,101],[100,114,111,112],[112,117,116],[100,101,108,101,116,101],[103,101,116],[115,99,97,110],[115,110,97,112],[117,110,115,110,97,112],[99,111,117,110,116],[97,117,100,105,116],[100,101,99,108,97,115,115,105,102,121],[99,114,97,115,104]]
def GF(k:Int):List UInt8:=if 0≤k∧k<17 then J1.getD k.toNat []else []
def uI:List Value:=J1.map fun l=> .string (tx l)
def qZ(w0:W0):Prop:=qk w0 0 uI
theorem Dn(k:Int)(h0:0≤k)(h1:k<17):uI[k.toNat]? =some (.string (tx (GF k))):=by
 unfold GF uI;have hk2:k.toNat<J1.length:=by show k.toNat<17;omega
 rw[if_pos ⟨h0,h1⟩,aaE,aac hk2,abj,aac hk2];rfl
theorem Ty(k:Int)(h0:0≤k)(h1:k<17):uI.drop (k.toNat*1)= .string (tx (GF k))::uI.drop (k.toNat+1):=by
 obtain⟨h,e⟩:=aad.1 (Dn k h0 h1);rw[adt,List.drop_eq_getElem_cons h,e]
theorem Sm(k:Int):GF k≠[]↔0≤k∧k<17:=by
 unfold GF;by_cases h:0≤k∧k<17
 ·rw[if_pos h];refine⟨fun _=>h,fun _=>?_⟩;have key:∀i:Fin 17,J1.getD i.val []≠[]:=by decide
  exact key ⟨k.toNat,by omega⟩
 ·rw[if_neg h];exact⟨fun q=>absurd rfl q,fun q=>absurd q h⟩
theorem Tx(w0:W0)(hg:qZ w0)(k:Int)(S:St):ab Tryz.prog w0 66 [dI k] S (fun d S'=>d=dS (tx (GF k))∧S'=S):=by
 have hG:=tM hg;refine bI [] mx Tryz.func66 rfl rfl (by kernel_rfl) ?_;refine @aa _ (cK @Tryz.ntmps66 @hG ?_);have e0:∀h:¬(0≤k∧k<17),tx (GF k)=⟨#[]⟩:=by intro h;unfold GF;rw[if_neg h];rfl
 refine⟨fun h=>?_,fun h=>⟨fun h2=>?_,fun h2=>?_⟩⟩
 ·rw[e0 (by omega)]
 ·rw[e0 (by omega)]
 ·have hl:uI.length=17:=rfl;refine⟨by omega,by omega,by omega,?_⟩;rw[Ty k (by omega) (by omega)];exact @aa _ bY
theorem TU(w0:W0)(k:Int)(S:St):ab Tryz.prog w0 59 [dI k] S (fun d S'=>d=dS (tx (GF k))∧S'=S):=by
 have hn:ab Tryz.prog w0 107 [] S (fun d S'=>d= .sl 1 true (uI.map DV.v)∧S'=S):=by
  refine bI [] mx Tryz.func107 rfl rfl (by kernel_rfl) ?_;refine @aa _ (ah @Tryz.ntmps107 ?_);exact .refl _
 have e0:∀h:¬(0≤k∧k<17),tx (GF k)=⟨#[]⟩:=by intro h;unfold GF;rw[if_neg h];rfl
 have hl:(uI.map DV.v).length=17:=rfl;refine bI [] mx Tryz.func59 rfl rfl (by kernel_rfl) ?_;refine @aa _ (ah @Tryz.ntmps59 ?_);refine aq hn ?_;refine @aa _ (ah @hl ?_);refine⟨fun h=>by rw[e0 (by omega)],fun h=>⟨fun h2=>by rw[e0 (by omega)],fun h2=>⟨by omega,by omega,fun a ha=>?_⟩⟩⟩;rw[Dn k (by omega) (by omega)]at ha;cases ha;exact .refl _
def r6(n:Int)(o:aV):Bool:=decide ((0≤o.kind∧o.kind<17)∧(o.kind=16∨(0≤o.level∧o.level<n)))
theorem vR(n:Int)(o:aV):(¬GF o.kind=[]→(o.kind=16→true=r6 n o)∧(¬o.kind=16→(o.level≥0→decide (o.level<n)=r6 n o)∧(¬o.level≥0→false=r6 n o)))∧(¬¬GF o.kind=[]→false=r6 n o):=by
 unfold r6;have h:=Sm o.kind;refine⟨fun h1=>⟨fun h2=>?_,fun h2=>⟨fun h3=>?_,fun h3=>?_⟩⟩,fun h1=>?_⟩
 ·have:=h.1 h1;exact(decide_eq_true ⟨this,.inl h2⟩).symm
 ·have:=h.1 h1;exact decide_eq_decide.2 ⟨fun q=>⟨this,.inr ⟨h3,q⟩⟩,fun q=>q.2.elim (fun e=>absurd e h2) fun e=>e.2⟩
 ·exact(decide_eq_false fun q=>q.2.elim (fun e=>h2 e) fun e=>h3 e.1).symm
 ·exact(decide_eq_false fun q=>h1 fun e=>(h.2 q.1) e).symm
theorem Sj(w0:W0)(hg:qZ w0)(n:Int)(o:aV)(S:St):ab Tryz.prog w0 34 [dI n,uB o] S (fun d S'=>d=dB (r6 n o)∧S'=S):=by
 refine bI [] mx Tryz.func34 rfl rfl (by kernel_rfl) ?_;refine @aa _ (ah @Tryz.ntmps34 ?_);intro b;refine aq (Tx _ hg o.kind _) (@aa _ (av ?_));exact vR n o
theorem NN(w0:W0)(n:Int)(o:aV)(S:St):ab Tryz.prog w0 20 [dI n,uB o] S (fun d S'=>d=dB (r6 n o)∧S'=S):=by
 refine bI [] mx Tryz.func20 rfl rfl (by kernel_rfl) ?_;refine @aa _ (ah @Tryz.ntmps20 ?_);intro b;refine aq (TU _ o.kind _) (@aa _ (av ?_));exact vR n o
end Go.Proofs.YtoepfmhnapedoaaGreatDoor
namespace Go.Proofs.YtoepfmhnapedoaaGreatDoor
open Aml Go Rn Lat Grs
end Go.Proofs.YtoepfmhnapedoaaGreatDoor
namespace Go.Proofs.YtoepfmhnapedoaaGreatDoor
open Aml Go Rn Lat Grs
structure dA where
 key:List UInt8
 mM:Int
 val:List UInt8
@[go_sem] def oR (r:dA):DV:= .agg [dS (tx r.key),dI r.mM,dS (tx r.val)]
noncomputable def jO(x:Int)(n:List UInt8)(f:List UInt8→Option (List UInt8)):List dA:=(dp f).map fun k=>⟨n++[47]++k,x,(f k).getD []⟩
noncomputable def nU(x:Int)(F:List UInt8→Option (List UInt8→Option (List UInt8))):List dA:=(dp F).flatMap fun n=>jO x n ((F n).getD fun _=>none)
noncomputable def pf(x:Int)(F:List UInt8→Option (List UInt8→Option (List UInt8)))(i:Nat):List dA:=((dp F).take i).flatMap fun n=>jO x n ((F n).getD fun _=>none)
theorem E2(x:Int){F:List UInt8→Option (List UInt8→Option (List UInt8))}{i:Nat}{n:List UInt8}(h:(dp F)[i]? =some n):pf x F (i+1)=pf x F i++jO x n ((F n).getD fun _=>none):=by
 unfold pf;rw[abY,h,List.flatMap_append];simp
theorem AQ{α:Type}{l:List α}{i:Nat}{x:α}(h:l[i]? =some x):l.take (i+1)=l.take i++[x]:=by rw[abY,h];rfl
theorem sa{α:Type}{f:List UInt8→Option α}{k:List UInt8}(h:k∈dp f):f k≠none:=by
 unfold dp at h;split at h
 ·rename_i hx;have:=(adq _ _).mem_iff.1 h;exact(hx.choose_spec.2 k).1 this
 ·cases h
theorem VN{S:St}{l N:Nat}{ids:List UInt8→Option Nat}{F:List UInt8→Option (List UInt8→Option (List UInt8))}(h:BM S l N ids F){i:Nat}{n:List UInt8}(hx:(dp F)[i]? =some n):∃id f,ids n=some id∧F n=some f:=by
 have h1:=sa (aaf hx);obtain⟨f,hf⟩:=abr.1 h1;obtain⟨id,hi⟩:=abr.1 (fun q=>h1 ((h.some_ n).1 q));exact⟨id,f,hi,hf⟩
theorem KC(w0:W0){S:St}{m:Nat}{c:Cf}{ls:List Nat}{t sn:Nat}(hm:lk S.box m=some (HL c ls t sn))(x:Int){b lb:Nat}{au dr:DV}{has:Int}(hx:Az ls x=some b)(hl:lk S.box b=some (oC lb au has dr))
 {N:Nat} {ids:List UInt8→Option Nat} {F:List UInt8→Option (List UInt8→Option (List UInt8))} (h:BM S lb N ids F) (hN:N≤10000) (hz:∀n f k v,F n=some f→f k=some v→n.length≤1000∧k.length≤1000):
 ab Tryz.prog w0 17 [bC m,dI x] S (fun d S'=>d= .sl 3 false ((nU x F).map oR)∧S'=S):=by
 refine bI [] mx Tryz.func17 rfl rfl (by kernel_rfl) ?_;refine @aa _ (ah @Tryz.ntmps17 ?_);refine aq (ofM w0 hm x) ?_;rw[hx];unfold xV;refine @aa _ (ah @hl ?_);refine aw (NT w0 S) ?_;rintro _ _ ⟨bk,rfl,rfl⟩;refine @aa _ (av ?_);have h':BM ⟨(bk.n,[.mp lb])::S.box,S.acc⟩ lb N ids F:=h.mono fun c x _ hc=>hc;refine aw (Un w0 (b:=bk.n) (by simp[lk]) h' (by omega)) ?_;rintro _ _ ⟨r,rfl,hkl,rfl⟩;refine @aa _ (av ?_);refine jr 6 3 rfl (by omega) fun ln=>?_;have hlr:=an ln r.n (by exact @aa _ bY);obtain⟨es,c1,h1,h2,h3⟩:=h.top;have hr1:(r.n=ln.n)=False:=by rw[←hlr];exact propext eq_comm
 refine aQ [] (dp F).length [1,5,6,21,22,23] (fun i=>[(6,.acc ln.n (pf x F i).length),(21,.acc r.n (dp F).length),(22,dI (dp F).length),(23,dI i)]) (fun i=>⟨(bk.n,[.mp lb])::S.box,(ln.n,.arr 3 ((pf x F i).map oR))::(r.n,.arr 1 ((dp F).map gJ))::S.acc⟩) (fun i=>(pf x F i).length≤i*N) mx (by kernel_rfl) ?_ ?_
 ·have e0:pf x F 0=[]:=rfl;refine @aa _ (av ?_);rw[e0];exact⟨by simp,.refl _,.refl _⟩
 ·intro i hi hen;by_cases hil:i<(dp F).length
  ·have e1:IntKind.i64.wrap ((i:Int)+1)=((i+1:Nat):Int):=aJ (by omega);have hx:(dp F)[i]? =some (dp F)[i]:=aac hil;have hks:=E2 x hx;generalize (dp F)[i]=n at hx hks;obtain⟨id,f,g1,g2⟩:=VN h hx;have h3n:=h3 n;rw[g1]at h3n;unfold kT at h3n;have hlrr:((dp F).map gJ)[i]? =some (gJ n):=by rw[aaE,hx];rfl
   have hiN:i*N≤10000*10000:=Nat.mul_le_mul (by omega) hN;have hrS:lk S.acc r.n=none:=ao r
   have hlS:lk S.acc ln.n=none:=by
    have q:=ao ln;simp only[lk]at q;rw[if_neg (fun e=>by rw[hr1]at e;exact e)]at q;exact q
   obtain⟨esi,ci,i1,i2,i3⟩:=h.low n id f g1 g2;have hr2:(r.n=id)=False:=eq_false fun e=>by rw[e,i1]at hrS;cases hrS
   have hl2:(ln.n=id)=False:=eq_false fun e=>by rw[e,i1]at hlS;cases hlS
   have hr3:(r.n=lb)=False:=eq_false fun e=>by rw[e,h1]at hrS;cases hrS
   have hl3:(ln.n=lb)=False:=eq_false fun e=>by rw[e,h1]at hlS;cases hlS
   have hke:(F n).getD (fun _=>none)=f:=by rw[g2];rfl
   rw[hke]at hks;refine @aa _ (kH @hx @e1 @hr1 @hlr @hl @h1 @h3n ?_);refine⟨fun _=>⟨hil,hil,?_⟩,fun h=>absurd hil h⟩;refine aw (Dv w0 _) ?_;rintro _ _ ⟨b2,rfl,rfl⟩;refine @aa _ (av ?_);have hIM:IM ⟨(b2.n,[.mp id])::(bk.n,[.mp lb])::S.box,(ln.n,.arr 3 ((pf x F i).map oR))::(r.n,.arr 1 ((dp F).map gJ))::S.acc⟩ id N f:=⟨esi,ci,by exact @aa _ (tI @hr2 @hl2 @i1),i2,i3⟩;refine aw (IX w0 (b:=b2.n) (by simp[lk]) hIM (by omega)) ?_;rintro _ _ ⟨r2,rfl,hkf,rfl⟩;refine @aa _ (av ?_);have hil2:(jO x n f).length=(dp f).length:=by unfold jO;simp
   have r2l:(r2.n=ln.n)=False:=an r2 ln.n (by exact @aa _ bY);have r2r:(r2.n=r.n)=False:=an r2 r.n (by exact @aa _ (ft @hlr));have r2l':(ln.n=r2.n)=False:=by rw[←r2l];exact propext eq_comm
   have r2r':(r.n=r2.n)=False:=by rw[←r2r];exact propext eq_comm
   have hr2S:lk S.acc r2.n=none:=by
    have q:=ao r2;simp only[lk]at q;rw[if_neg (fun e=>by rw[r2l']at e;exact e),if_neg (fun e=>by rw[r2r']at e;exact e)]at q;exact q
   have q2:(r2.n=id)=False:=eq_false fun e=>by rw[e,i1]at hr2S;cases hr2S
   have q3:(r2.n=lb)=False:=eq_false fun e=>by rw[e,h1]at hr2S;cases hr2S
   refine aQ [] (dp f).length [1,5,6,8,21,22,23,34,35,36] (fun j=>[(6,.acc ln.n (pf x F i++(jO x n f).take j).length),(34,.acc r2.n (dp f).length),(35,dI (dp f).length),(36,dI j)]) (fun j=>⟨(b2.n,[.mp id])::(bk.n,[.mp lb])::S.box,(r2.n,.arr 1 ((dp f).map gJ))::(ln.n,.arr 3 ((pf x F i++(jO x n f).take j).map oR))::(r.n,.arr 1 ((dp F).map gJ))::S.acc⟩) (fun _=>True) mx (by kernel_rfl) ?_ ?_
   ·exact @aa _ (EY @r2l @r2r @r2l' @r2r')
   ·intro j hj _;by_cases hjl:j<(dp f).length
    ·have e2:IntKind.i64.wrap ((j:Int)+1)=((j+1:Nat):Int):=aJ (by omega);have hy:(dp f)[j]? =some (dp f)[j]:=aac hjl;generalize (dp f)[j]=k at hy;obtain⟨v,hv⟩:=abr.1 (sa (aaf hy));have i3k:=i3 k;rw[hv]at i3k;unfold kT at i3k;obtain⟨z1,z2⟩:=hz n f k v g2 hv;have het:(jO x n f)[j]? =some ⟨n++[47]++k,x,v⟩:=by unfold jO;rw[aaE,hy,abH,hv];rfl
     have hts:=AQ het;have hLn:(pf x F i++(jO x n f).take j).length≤100010000:=by rw[aaK,ab2];omega
     have hcat:tx n++⟨#[47]⟩++tx k=tx (n++[47]++k):=by
      refine CT ?_;have h2:(⟨#[47]⟩:ByteArray).data.toList=[47]:=rfl;simp only[JP,dK,h2]
     have hm8:maxLen=9223372036854775807:=rfl;refine @aa _ (bz @hy @e2 @r2l @r2r @r2l' @r2r' @hl (And.intro @h1 (And.intro @h3n (And.intro @hr2 (And.intro @hl2 (And.intro @hr3 (And.intro @hl3 (And.intro @q2 (And.intro @q3 (And.intro @i1 (And.intro @i3k (And.intro @cV @hcat))))))))))) ?_);have hmin:min j (jO x n f).length=j:=by omega
     have hmin':min (j+1) (jO x n f).length=j+1:=by omega
     rw[hmin,hmin'];refine⟨fun _=>⟨hjl,hjl,by omega,by omega,by omega,by omega,hjl,.refl _,?_⟩,fun h=>absurd hjl h⟩;rw[hts,←acu,aaZ (l₁:=pf x F i++(jO x n f).take j)];exact .refl _
    ·have hjt:(jO x n f).take j=jO x n f:=abf (by omega);rw[hjt,←hks];refine @aa _ (eQ @e1 @r2l @r2r @r2l' @r2r' ?_);refine⟨fun h=>absurd h hjl,fun _=>⟨hil,?_⟩⟩;rw[hks,aaK,hil2,acA];omega
  ·have hie:pf x F i=nU x F:=by unfold pf nU;rw[abf (by omega)]
   refine @aa _ (cK @hr1 @hlr ?_);refine⟨fun h=>absurd h hil,fun _=>?_⟩;rw[hie];exact .refl _
@[go_sem] def Mc:DV:= .agg [dI 0,dI 0,.sl 0 true [],dI 0,dI 0,dI 0,dI 0,.sl 0 true []]
theorem S9{A B C:St}(h:Has A B)(k:Has B C):Has A C:=⟨fun c x q=>k.box c x (h.box c x q),fun c x q=>k.acc c x (h.acc c x q)⟩
theorem pD.to{w0:W0}{S T:St}{e:Int}(h:pD w0 S e)(k:Has S T):pD w0 T e:=fun U q=>h U (S9 k q)
theorem Fz(w0:W0){S:St}{w m own b:Nat}{o:aV}{full:Bool}{au dr:DV}{has:Int}(hw:lk S.box w=some (uD m own o full))(hl:lk S.box own=some (oC b au has dr))(hq:has≠o.az→pD w0 S 35):
 ab Tryz.prog w0 72 [bC w] S (fun d S'=>has=o.az∧d=Mc∧S'=⟨up S.box own (oC b au 0 dr),S.acc⟩):=by
 refine mh [] mx Tryz.func72 rfl rfl (by kernel_rfl) ?_;refine @aa _ (ah @Tryz.ntmps72 ?_);intro b2;have e1:=bU b2 hw;have e2:=bU b2 hl;have hH:∀ds,Has S ⟨(b2.n,ds)::S.box,S.acc⟩:=fun ds=>(Has.refl S).aN b2 ds rfl;refine aw (wu w0 (w:=w) (own:=own) (m:=m) (o:=o) (full:=full) (b:=b) (au:=au) (dr:=dr) (has:=has) (by exact @aa _ (di @e1 @hw)) (by exact @aa _ (di @e2 @hl))) ?_;rintro _ _ ⟨rfl,rfl⟩;by_cases hh:has=o.az
 ·rw[decide_eq_true hh];refine @aa _ (av ?_);refine aw (aI w0 true 35 _ (fun h=>by cases h)) ?_;rintro _ _ ⟨_,rfl,rfl⟩;refine @aa _ (aZ @e1 @e2 @hw @hl ?_);exact⟨_,_,.refl _,(Sub.refl _).aN,hh,rfl,rfl⟩
 ·rw[decide_eq_false hh];refine @aa _ (av ?_);refine aw (aI w0 false 35 _ (fun _=>(hq hh).to (hH _))) ?_;rintro _ _ ⟨q,_⟩;cases q
theorem Pl(w0:W0){S:St}{w m own b d:Nat}{o:aV}{full:Bool}{au dr:DV}{has:Int}(hw:lk S.box w=some (uD m own o full))(hl:lk S.box own=some (oC b au has dr))(hdr:has=o.az→dr= .mp d)(hne:(own=w)=False)(hq:has≠o.az→pD w0 S 35):
 ab Tryz.prog w0 71 [bC w] S (fun d' S'=>has=o.az∧d'=Mc∧S'=⟨up S.box own (oC d au 0 (.mp d)),S.acc⟩):=by
 refine mh [] mx Tryz.func71 rfl rfl (by kernel_rfl) ?_;refine @aa _ (ah @Tryz.ntmps71 ?_);intro b2;have e1:=bU b2 hw;have e2:=bU b2 hl;have hH:∀ds,Has S ⟨(b2.n,ds)::S.box,S.acc⟩:=fun ds=>(Has.refl S).aN b2 ds rfl;refine aw (wu w0 (w:=w) (own:=own) (m:=m) (o:=o) (full:=full) (b:=b) (au:=au) (dr:=dr) (has:=has) (by exact @aa _ (di @e1 @hw)) (by exact @aa _ (di @e2 @hl))) ?_;rintro _ _ ⟨rfl,rfl⟩;by_cases hh:has=o.az
 ·cases hdr hh;rw[decide_eq_true hh];refine @aa _ (av ?_);refine aw (aI w0 true 35 _ (fun h=>by cases h)) ?_;rintro _ _ ⟨_,rfl,rfl⟩;refine @aa _ (eQ @e1 @e2 @hw @hl @hne ?_);exact⟨_,_,.refl _,(Sub.refl _).aN,hh,rfl,rfl⟩
 ·rw[decide_eq_false hh];refine @aa _ (av ?_);refine aw (aI w0 false 35 _ (fun _=>(hq hh).to (hH _))) ?_;rintro _ _ ⟨q,_⟩;cases q
theorem Ww(w0:W0){S:St}{w m own b d N:Nat}{o:aV}{full:Bool}{au dr:DV}{has:Int}{ids:List UInt8→Option Nat}{F:List UInt8→Option (List UInt8→Option (List UInt8))}(hw:lk S.box w=some (uD m own o full))(hl:lk S.box own=some (oC b au has dr))(hdr:has=o.az→dr= .mp d∧BM S d N ids F)
 (q1:has≠o.az→pD w0 S 35) (q2:has=o.az→¬(o.key≠[]∧(o.key.length:Int)≤16∧o.value.length≤400)→pD w0 S 34) (q3:has=o.az→(o.key≠[]∧(o.key.length:Int)≤16∧o.value.length≤400)→ids o.bucket=none→pD w0 S 32) (q4:has=o.az→(o.key≠[]∧(o.key.length:Int)≤16∧o.value.length≤400)→ids o.bucket≠none→full=true→pD w0 S 37):
 ab Tryz.prog w0 75 [bC w] S (fun d' S'=>has=o.az∧(o.key≠[]∧(o.key.length:Int)≤16∧o.value.length≤400)∧full=false∧∃i es c,ids o.bucket=some i∧lk S.acc i=some (.xo (.mp .str es c))∧d'=Mc∧S'=⟨S.box,up S.acc i (.xo (.mp .str (ep es c (kT o.key) (gJ o.value)) (gq es c (kT o.key))))⟩):=by
 refine mh [3] mx Tryz.func75 rfl rfl (by kernel_rfl) ?_;refine @aa _ (ah @Tryz.ntmps75 ?_);intro b2;have e1:=bU b2 hw;have e2:=bU b2 hl;have hH:∀ds,Has S ⟨(b2.n,ds)::S.box,S.acc⟩:=fun ds=>(Has.refl S).aN b2 ds rfl;refine aw (wu w0 (w:=w) (own:=own) (m:=m) (o:=o) (full:=full) (b:=b) (au:=au) (dr:=dr) (has:=has) (by exact @aa _ (di @e1 @hw)) (by exact @aa _ (di @e2 @hl))) ?_;rintro _ _ ⟨rfl,rfl⟩;by_cases hh:has=o.az
 ·obtain⟨hdr1,hB⟩:=hdr hh;cases hdr1;rw[decide_eq_true hh];refine @aa _ (av ?_);refine aw (aI w0 true 35 _ (fun h=>by cases h)) ?_;rintro _ _ ⟨_,rfl,rfl⟩;refine @aa _ (aZ @e1 @e2 @hw @hl ?_);refine aq (Qx w0 o.key 16 _) (@aa _ (aZ @e1 @e2 @hw @hl ?_));by_cases hk:¬o.key=[]∧(o.key.length:Int)≤16
  ·refine⟨fun _ _=>?_,fun h=>absurd hk h⟩;by_cases hv:o.value.length≤400
   ·have hd:decide (((tx o.value).size:Int)≤400)=true:=decide_eq_true (by rw[cV];omega);rw[hd];refine aw (aI w0 true 34 _ (fun h=>by cases h)) ?_;rintro _ _ ⟨_,rfl,rfl⟩;refine @aa _ (aZ @e1 @e2 @hw @hl ?_);refine Y.jZ [] [12] [0,1,2,7,8,9,10,3,4,5,6,11,12,13] mx (by kernel_rfl) ?_;refine @aa _ (aZ @e1 @e2 @hw @hl ?_);have hB':BM ⟨(b2.n,[dI 0,dI 0,.sl 0 true [],dI 0,dI 0,dI 0,dI 0,.sl 0 true []])::S.box,S.acc⟩ d N ids F:=hB.mono fun c x _ hc=>hc;refine aw (oF w0 hB' o.bucket fun h=>(q3 hh ⟨hk.1,hk.2,hv⟩ h).to (hH _)) ?_;rintro _ _ ⟨i,hi,rfl,rfl⟩;obtain⟨f,hf⟩:=abr.1 (fun q=>by rw[(hB.some_ o.bucket).2 q]at hi;cases hi);obtain⟨es,c,g1,g2,g3⟩:=hB.low o.bucket i f hi hf;refine @aa _ (aZ @e1 @e2 @hw @hl ?_)
    cases full with
    |true=>
     refine @aa _ (aZ @e1 @e2 @hw @hl ?_);refine aw (aI w0 false 37 _ (fun _=>(q4 hh ⟨hk.1,hk.2,hv⟩ (by rw[hi];simp) rfl).to (hH _))) ?_;rintro _ _ ⟨q,_⟩;cases q
    |false=>
     refine @aa _ (aZ @e1 @e2 @hw @hl ?_);refine aw (aI w0 true 37 _ (fun h=>by cases h)) ?_;rintro _ _ ⟨_,rfl,rfl⟩;refine @aa _ (eQ @e1 @e2 @hw @hl @g1 ?_);exact⟨_,_,.refl _,(Sub.refl _).aN,hh,⟨hk.1,hk.2,hv⟩,i,es,c,hi,g1,rfl,rfl⟩
   ·have hd:decide (((tx o.value).size:Int)≤400)=false:=decide_eq_false (by rw[cV];omega);rw[hd];refine aw (aI w0 false 34 _ (fun _=>(q2 hh fun h=>hv h.2.2).to (hH _))) ?_;rintro _ _ ⟨q,_⟩;cases q
  ·refine⟨fun h h'=>absurd ⟨h,h'⟩ hk,fun _=>?_⟩;refine aw (aI w0 false 34 _ (fun _=>(q2 hh fun h=>hk ⟨h.1,h.2.1⟩).to (hH _))) ?_;rintro _ _ ⟨q,_⟩;cases q
 ·rw[decide_eq_false hh];refine @aa _ (av ?_);refine aw (aI w0 false 35 _ (fun _=>(q1 hh).to (hH _))) ?_;rintro _ _ ⟨q,_⟩;cases q
theorem WR(w0:W0){S:St}{w m own b d N:Nat}{o:aV}{full:Bool}{au dr:DV}{has:Int}{ids:List UInt8→Option Nat}{F:List UInt8→Option (List UInt8→Option (List UInt8))}(hw:lk S.box w=some (uD m own o full))(hl:lk S.box own=some (oC b au has dr))(hdr:has=o.az→dr= .mp d∧BM S d N ids F)
 (q1:has≠o.az→pD w0 S 35) (q3:has=o.az→ids o.bucket=none→pD w0 S 32) (q4:has=o.az→ids o.bucket≠none→full=true→pD w0 S 37):
 ab Tryz.prog w0 74 [bC w] S (fun d' S'=>has=o.az∧full=false∧∃i es c,ids o.bucket=some i∧lk S.acc d=some (.xo (.mp .str es c))∧d'=Mc∧S'=⟨S.box,up S.acc d (.xo (.mp .str (jR es (kT o.bucket)) c))⟩):=by
 refine mh [2] mx Tryz.func74 rfl rfl (by kernel_rfl) ?_;refine @aa _ (ah @Tryz.ntmps74 ?_);intro b2;have e1:=bU b2 hw;have e2:=bU b2 hl;have hH:∀ds,Has S ⟨(b2.n,ds)::S.box,S.acc⟩:=fun ds=>(Has.refl S).aN b2 ds rfl;refine aw (wu w0 (w:=w) (own:=own) (m:=m) (o:=o) (full:=full) (b:=b) (au:=au) (dr:=dr) (has:=has) (by exact @aa _ (di @e1 @hw)) (by exact @aa _ (di @e2 @hl))) ?_;rintro _ _ ⟨rfl,rfl⟩;by_cases hh:has=o.az
 case neg=>
  rw[decide_eq_false hh];refine @aa _ (av ?_);refine aw (aI w0 false 35 _ (fun _=>(q1 hh).to (hH _))) ?_;rintro _ _ ⟨q,_⟩;cases q
 obtain⟨hdr1,hB⟩:=hdr hh;cases hdr1;rw[decide_eq_true hh];refine @aa _ (av ?_);refine aw (aI w0 true 35 _ (fun h=>by cases h)) ?_;rintro _ _ ⟨_,rfl,rfl⟩;refine @aa _ (aZ @e1 @e2 @hw @hl ?_);refine Y.jZ [] [12] [0,1,2,7,8,9,10,3,4,5,6,11,12] mx (by kernel_rfl) ?_;refine @aa _ (aZ @e1 @e2 @hw @hl ?_);have hB':BM ⟨(b2.n,[dI 0,dI 0,.sl 0 true [],dI 0,dI 0,dI 0,dI 0,.sl 0 true []])::S.box,S.acc⟩ d N ids F:=hB.mono fun c x _ hc=>hc;refine aw (oF w0 hB' o.bucket fun h=>(q3 hh h).to (hH _)) ?_;rintro _ _ ⟨i,hi,rfl,rfl⟩;obtain⟨f,hf⟩:=abr.1 (fun q=>by rw[(hB.some_ o.bucket).2 q]at hi;cases hi);obtain⟨es,c,g1,g2,g3⟩:=hB.low o.bucket i f hi hf;obtain⟨et,ct,t1,t2,t3⟩:=hB.top;refine @aa _ (eQ @e1 @e2 @hw @hl @t1 ?_)
 cases full with
 |true=>
  refine @aa _ (eQ @e1 @e2 @hw @hl @t1 ?_);refine aw (aI w0 false 37 _ (fun _=>(q4 hh (by rw[hi];simp) rfl).to (hH _))) ?_;rintro _ _ ⟨q,_⟩;cases q
 |false=>
  refine @aa _ (eQ @e1 @e2 @hw @hl @t1 ?_);refine aw (aI w0 true 37 _ (fun h=>by cases h)) ?_;rintro _ _ ⟨_,rfl,rfl⟩;refine @aa _ (eQ @e1 @e2 @hw @hl @t1 ?_);exact⟨_,_,.refl _,(Sub.refl _).aN,hh,i,et,ct,hi,rfl,rfl,rfl⟩
theorem MR(w0:W0){S:St}{w m own b d N:Nat}{o:aV}{full:Bool}{au dr:DV}{has:Int}{ids:List UInt8→Option Nat}{F:List UInt8→Option (List UInt8→Option (List UInt8))}(hw:lk S.box w=some (uD m own o full))(hl:lk S.box own=some (oC b au has dr))(hdr:has=o.az→dr= .mp d∧BM S d N ids F)
 (q1:has≠o.az→pD w0 S 35) (q3:has=o.az→ids o.bucket=none→pD w0 S 32) (q5:has=o.az→∀f,F o.bucket=some f→f o.key=none→pD w0 S 33) (q4:has=o.az→∀f v,F o.bucket=some f→f o.key=some v→full=true→pD w0 S 37):
 ab Tryz.prog w0 76 [bC w] S (fun d' S'=>has=o.az∧full=false∧∃i es c f v,ids o.bucket=some i∧F o.bucket=some f∧f o.key=some v∧lk S.acc i=some (.xo (.mp .str es c))∧d'=Mc∧S'=⟨S.box,up S.acc i (.xo (.mp .str (jR es (kT o.key)) c))⟩):=by
 refine mh [2] mx Tryz.func76 rfl rfl (by kernel_rfl) ?_;refine @aa _ (ah @Tryz.ntmps76 ?_);intro b2;have e1:=bU b2 hw;have e2:=bU b2 hl;have hH:∀ds,Has S ⟨(b2.n,ds)::S.box,S.acc⟩:=fun ds=>(Has.refl S).aN b2 ds rfl;refine aw (wu w0 (w:=w) (own:=own) (m:=m) (o:=o) (full:=full) (b:=b) (au:=au) (dr:=dr) (has:=has) (by exact @aa _ (di @e1 @hw)) (by exact @aa _ (di @e2 @hl))) ?_;rintro _ _ ⟨rfl,rfl⟩;by_cases hh:has=o.az
 case neg=>
  rw[decide_eq_false hh];refine @aa _ (av ?_);refine aw (aI w0 false 35 _ (fun _=>(q1 hh).to (hH _))) ?_;rintro _ _ ⟨q,_⟩;cases q
 obtain⟨hdr1,hB⟩:=hdr hh;cases hdr1;rw[decide_eq_true hh];refine @aa _ (av ?_);refine aw (aI w0 true 35 _ (fun h=>by cases h)) ?_;rintro _ _ ⟨_,rfl,rfl⟩;refine @aa _ (aZ @e1 @e2 @hw @hl ?_);refine Y.jZ [] [12] [0,1,2,7,8,9,10,3,4,5,6,11,12,13] mx (by kernel_rfl) ?_;refine @aa _ (aZ @e1 @e2 @hw @hl ?_);have hB':BM ⟨(b2.n,[dI 0,dI 0,.sl 0 true [],dI 0,dI 0,dI 0,dI 0,.sl 0 true []])::S.box,S.acc⟩ d N ids F:=hB.mono fun c x _ hc=>hc;refine aw (oF w0 hB' o.bucket fun h=>(q3 hh h).to (hH _)) ?_;rintro _ _ ⟨i,hi,rfl,rfl⟩;obtain⟨f,hf⟩:=abr.1 (fun q=>by rw[(hB.some_ o.bucket).2 q]at hi;cases hi);obtain⟨es,c,g1,g2,g3⟩:=hB.low o.bucket i f hi hf;have g3k:=g3 o.key;unfold kT at g3k
 cases hv:f o.key with
 |none=>
  rw[hv]at g3k;refine @aa _ (jL @e1 @e2 @hw @hl @g1 @g3k ?_);refine aw (aI w0 false 33 _ (fun _=>(q5 hh f hf hv).to (hH _))) ?_;rintro _ _ ⟨q,_⟩;cases q
 |some v=>
 rw[hv]at g3k;refine @aa _ (jL @e1 @e2 @hw @hl @g1 @g3k ?_);refine aw (aI w0 true 33 _ (fun h=>by cases h)) ?_;rintro _ _ ⟨_,rfl,rfl⟩;refine @aa _ (jL @e1 @e2 @hw @hl @g1 @g3k ?_)
 cases full with
 |true=>
  refine @aa _ (jL @e1 @e2 @hw @hl @g1 @g3k ?_);refine aw (aI w0 false 37 _ (fun _=>(q4 hh f v hf hv rfl).to (hH _))) ?_;rintro _ _ ⟨q,_⟩;cases q
 |false=>
  refine @aa _ (jL @e1 @e2 @hw @hl @g1 @g3k ?_);refine aw (aI w0 true 37 _ (fun h=>by cases h)) ?_;rintro _ _ ⟨_,rfl,rfl⟩;refine @aa _ (jL @e1 @e2 @hw @hl @g1 @g3k ?_);exact⟨_,_,.refl _,(Sub.refl _).aN,hh,i,es,c,f,v,hi,hf,hv,g1,rfl,rfl⟩
theorem Vz(w0:W0){S:St}{w m own b d N:Nat}{o:aV}{full:Bool}{au dr:DV}{has:Int}{ids:List UInt8→Option Nat}{F:List UInt8→Option (List UInt8→Option (List UInt8))}(hw:lk S.box w=some (uD m own o full))(hl:lk S.box own=some (oC b au has dr))(hdr:has=o.az→dr= .mp d∧BM S d N ids F)
 (q1:has≠o.az→pD w0 S 35) (q2:has=o.az→¬(o.bucket≠[]∧(o.bucket.length:Int)≤15)→pD w0 S 34) (q3:has=o.az→(o.bucket≠[]∧(o.bucket.length:Int)≤15)→ids o.bucket≠none→pD w0 S 38) (q4:has=o.az→(o.bucket≠[]∧(o.bucket.length:Int)≤15)→ids o.bucket=none→full=true→pD w0 S 37):
 ab Tryz.prog w0 73 [bC w] S (fun d' S'=>has=o.az∧(o.bucket≠[]∧(o.bucket.length:Int)≤15)∧full=false∧ids o.bucket=none∧∃(l:FN S.acc) (es:List (Value×DV×Nat)) (c:Nat),lk S.acc d=some (.xo (.mp .str es c))∧d'=Mc∧S'=⟨S.box,(l.n,.xo (.mp .str [] 0))::up S.acc d (.xo (.mp .str (ep es c (kT o.bucket) (.mp l.n)) (gq es c (kT o.bucket))))⟩):=by
 refine mh [6] mx Tryz.func73 rfl rfl (by kernel_rfl) ?_;refine @aa _ (ah @Tryz.ntmps73 ?_);intro b2;have e1:=bU b2 hw;have e2:=bU b2 hl;have hH:∀ds,Has S ⟨(b2.n,ds)::S.box,S.acc⟩:=fun ds=>(Has.refl S).aN b2 ds rfl;refine aw (wu w0 (w:=w) (own:=own) (m:=m) (o:=o) (full:=full) (b:=b) (au:=au) (dr:=dr) (has:=has) (by exact @aa _ (di @e1 @hw)) (by exact @aa _ (di @e2 @hl))) ?_;rintro _ _ ⟨rfl,rfl⟩;by_cases hh:has=o.az
 case neg=>
  rw[decide_eq_false hh];refine @aa _ (av ?_);refine aw (aI w0 false 35 _ (fun _=>(q1 hh).to (hH _))) ?_;rintro _ _ ⟨q,_⟩;cases q
 obtain⟨hdr1,hB⟩:=hdr hh;cases hdr1;rw[decide_eq_true hh];refine @aa _ (av ?_);refine aw (aI w0 true 35 _ (fun h=>by cases h)) ?_;rintro _ _ ⟨_,rfl,rfl⟩;refine @aa _ (aZ @e1 @e2 @hw @hl ?_);refine aq (Qx w0 o.bucket 15 _) ?_;by_cases hk:o.bucket≠[]∧(o.bucket.length:Int)≤15
 case neg=>
  rw[decide_eq_false hk];refine @aa _ (av ?_);refine aw (aI w0 false 34 _ (fun _=>(q2 hh hk).to (hH _))) ?_;rintro _ _ ⟨q,_⟩;cases q
 rw[decide_eq_true hk];refine @aa _ (av ?_);refine aw (aI w0 true 34 _ (fun h=>by cases h)) ?_;rintro _ _ ⟨_,rfl,rfl⟩;obtain⟨et,ct,t1,t2,t3⟩:=hB.top;have t3n:=t3 o.bucket;unfold kT at t3n
 cases hi:ids o.bucket with
 |some i=>
  rw[hi]at t3n;refine @aa _ (jL @e1 @e2 @hw @hl @t1 @t3n ?_);refine aw (aI w0 false 38 _ (fun _=>(q3 hh hk (by rw[hi];simp)).to (hH _))) ?_;rintro _ _ ⟨q,_⟩;cases q
 |none=>
 rw[hi]at t3n;refine @aa _ (jL @e1 @e2 @hw @hl @t1 @t3n ?_);refine aw (aI w0 true 38 _ (fun h=>by cases h)) ?_;rintro _ _ ⟨_,rfl,rfl⟩
 cases full with
 |true=>
  refine @aa _ (aZ @e1 @e2 @hw @hl ?_);refine aw (aI w0 false 37 _ (fun _=>(q4 hh hk hi rfl).to (hH _))) ?_;rintro _ _ ⟨q,_⟩;cases q
 |false=>
  refine @aa _ (aZ @e1 @e2 @hw @hl ?_);refine aw (aI w0 true 37 _ (fun h=>by cases h)) ?_;rintro _ _ ⟨_,rfl,rfl⟩;refine @aa _ (aZ @e1 @e2 @hw @hl ?_);refine Y.jZ [12] [13] [0,1,2,7,8,9,10,3,4,5,6,11,12,13] mx (by kernel_rfl) ?_;refine @aa _ (eQ @e1 @e2 @hw @hl @t1 ?_);exact fun l=>⟨_,_,.refl _,(Sub.refl _).aN,hh,hk,l,et,ct,rfl,rfl,rfl⟩
theorem RR(w0:W0){S:St}{w m own b N:Nat}{o:aV}{full:Bool}{au dr:DV}{has:Int}{ids:List UInt8→Option Nat}{F:List UInt8→Option (List UInt8→Option (List UInt8))}(hw:lk S.box w=some (uD m own o full))(hl:lk S.box own=some (oC b au has dr))(hne:(own=w)=False)(hB:BM S b N ids F)(hN:N≤1048576)
 (q1:has≠0→pD w0 S 36):
 ab Tryz.prog w0 70 [bC w] S (fun d' S'=>has=0∧∃l ids',d'=Mc∧BM S' l N ids' F∧S'.box=up S.box own (oC b au o.az (.mp l))∧(∀c x,lk S.acc c=some x→lk S'.acc c=some x)∧lk S.acc l=none∧∀n i,ids' n=some i→lk S.acc i=none):=by
 refine mh [2] mx Tryz.func70 rfl rfl (by kernel_rfl) ?_;refine @aa _ (ah @Tryz.ntmps70 ?_);intro b2;have e1:=bU b2 hw;have e2:=bU b2 hl;have hH:∀ds,Has S ⟨(b2.n,ds)::S.box,S.acc⟩:=fun ds=>(Has.refl S).aN b2 ds rfl;refine @aa _ (aZ @e1 @e2 @hw @hl ?_);by_cases h0:has=0
 case neg=>
  rw[decide_eq_false h0];refine aw (aI w0 false 36 _ (fun _=>(q1 h0).to (hH _))) ?_;rintro _ _ ⟨q,_⟩;cases q
 rw[decide_eq_true h0];refine aw (aI w0 true 36 _ (fun h=>by cases h)) ?_;rintro _ _ ⟨_,rfl,rfl⟩;refine @aa _ (aZ @e1 @e2 @hw @hl ?_);have hB':BM ⟨(b2.n,[dI 0,dI 0,.sl 0 true [],dI 0,dI 0,dI 0,dI 0,.sl 0 true []])::S.box,S.acc⟩ b N ids F:=hB.mono fun c x _ hc=>hc;refine Y.jZ [20] [23,26] [0,1,2,4,5,6,8,9,10,11,13,14,15,3,7,12,16,17,18,19,20,21,22,23,24,25,26] mx (by kernel_rfl) ?_;refine @aa _ (aZ @e1 @e2 @hw @hl ?_);refine aw (JY w0 hB' hN) ?_;rintro _ T ⟨l,ids',rfl,hB2,hbx,hac,hl0,hid⟩;obtain⟨Tb,Ta⟩:=T;simp only at hbx;subst hbx;refine @aa _ (eQ @e1 @e2 @hw @hl @hne ?_);exact⟨⟨fun _ _ h=>h,hac⟩,_,⟨_,Ta⟩,.refl _,(Sub.refl _).aN,h0,l,ids',rfl,hB2.mono fun c x _ hc=>hc,rfl,hac,hl0,hid⟩
abbrev eZ:=List UInt8→Option (List UInt8→Option (List UInt8))
theorem IM.le{S:St}{l N M:Nat}{f:List UInt8→Option (List UInt8)}(h:IM S l N f)(k:N≤M):IM S l M f:=by
 obtain⟨es,c,h1,h2,h3⟩:=h;exact⟨es,c,h1,by omega,h3⟩
theorem KX{S:St}{l N:Nat}{f:List UInt8→Option (List UInt8)}(h:IM S l N f){es:List (Value×DV×Nat)}{c:Nat}(g:lk S.acc l=some (.xo (.mp .str es c))):es.length≤N∧∀k,aT es (kT k)=(f k).map gJ:=by
 obtain⟨es',c',h1,h2,h3⟩:=h;rw[g]at h1;cases h1;exact⟨h2,h3⟩
theorem JV{S:St}{l N:Nat}{ids:List UInt8→Option Nat}{F:eZ}(h:BM S l N ids F){es:List (Value×DV×Nat)}{c:Nat}(g:lk S.acc l=some (.xo (.mp .str es c))):es.length≤N∧∀k,aT es (kT k)=(ids k).map DV.mp:=by
 obtain⟨es',c',h1,h2,h3⟩:=h.top;rw[g]at h1;cases h1;exact⟨h2,h3⟩
def dG(F:eZ)(n:List UInt8)(f:List UInt8→Option (List UInt8)):eZ:=fun m=>if m=n then some f else F m
theorem JQ{S:St}{d N M:Nat}{ids:List UInt8→Option Nat}{F:eZ}(h:BM S d N ids F)(hNM:N≤M){n:List UInt8}{i:Nat}(hi:ids n=some i){o:Ob}{f:List UInt8→Option (List UInt8)}(hn:IM ⟨S.box,up S.acc i o⟩ i M f):BM ⟨S.box,up S.acc i o⟩ d M ids (dG F n f) where
 top:=by
  obtain⟨es,c,h1,h2,h3⟩:=h.top;exact⟨es,c,by show lk (up S.acc i o) d=_;rw[ae (h.ne n i hi)];exact h1,by omega,h3⟩
 some_:=fun m=>by
  unfold dG;by_cases e:m=n
  ·rw[if_pos e,e,hi];simp
  ·rw[if_neg e];exact h.some_ m
 low:=fun m j g q1 q2=>by
  unfold dG at q2;by_cases e:m=n
  ·rw[if_pos e]at q2;cases q2;rw[e,hi]at q1;cases q1;exact hn
  ·rw[if_neg e]at q2;refine((h.low m j g q1 q2).mono fun x hx=>?_).le hNM;show lk (up S.acc i o) j=_;rw[ae (fun q=>e (h.inj m n i (by rw[q1,q]) hi))];exact hx
 inj:=h.inj
 ne:=h.ne
theorem xI{S:St}{i:Nat}{x o:Ob}(g:lk S.acc i=some x):lk (up S.acc i o) i=some o:=by rw[aM,g];rfl
theorem Hq{S:St}{d N:Nat}{ids:List UInt8→Option Nat}{F:eZ}(h:BM S d N ids F){n:List UInt8}{i:Nat}(hi:ids n=some i){f:List UInt8→Option (List UInt8)}(hf:F n=some f){es:List (Value×DV×Nat)}{c:Nat}(g:lk S.acc i=some (.xo (.mp .str es c)))(k v:List UInt8):
 BM ⟨S.box,up S.acc i (.xo (.mp .str (ep es c (kT k) (gJ v)) (gq es c (kT k))))⟩ d (N+1) ids (dG F n fun j=>if j=k then some v else f j):=by
 obtain⟨g1,g2⟩:=KX (h.low n i f hi hf) g;refine JQ h (by omega) hi ⟨_,_,xI g,?_,fun j=>?_⟩
 ·have:=tG es c (kT k) (gJ v);omega
 ·dsimp only;by_cases e:j=k
  ·rw[if_pos e,e,bD];rfl
  ·rw[if_neg e,cM _ _ (fun q=>e (fF q)),g2]
theorem Ak(es:List (Value×DV×Nat))(k:Value):(jR es k).length≤es.length:=by
 unfold jR;exact acz _ _
theorem Er{S:St}{d N:Nat}{ids:List UInt8→Option Nat}{F:eZ}(h:BM S d N ids F){n:List UInt8}{i:Nat}(hi:ids n=some i){f:List UInt8→Option (List UInt8)}(hf:F n=some f){es:List (Value×DV×Nat)}{c:Nat}(g:lk S.acc i=some (.xo (.mp .str es c)))(k:List UInt8):
 BM ⟨S.box,up S.acc i (.xo (.mp .str (jR es (kT k)) c))⟩ d N ids (dG F n fun j=>if j=k then none else f j):=by
 obtain⟨g1,g2⟩:=KX (h.low n i f hi hf) g;refine JQ h (aar _) hi ⟨_,_,xI g,?_,fun j=>?_⟩
 ·have:=Ak es (kT k);omega
 ·dsimp only;by_cases e:j=k
  ·rw[if_pos e,e,eC];rfl
  ·rw[if_neg e,eX _ (fun q=>e (fF q)),g2]
theorem PE{S:St}{d N:Nat}{ids:List UInt8→Option Nat}{F:eZ}(h:BM S d N ids F){es:List (Value×DV×Nat)}{c:Nat}(g:lk S.acc d=some (.xo (.mp .str es c)))(n:List UInt8):
 BM ⟨S.box,up S.acc d (.xo (.mp .str (jR es (kT n)) c))⟩ d N (fun m=>if m=n then none else ids m) (fun m=>if m=n then none else F m):=by
 obtain⟨g1,g2⟩:=JV h g;refine⟨⟨_,_,xI g,?_,fun m=>?_⟩,fun m=>?_,fun m j f q1 q2=>?_,fun m m' j q1 q2=>?_,fun m j q1=>?_⟩
 ·have:=Ak es (kT n);omega
 ·try dsimp only at*
  by_cases e:m=n
  ·rw[if_pos e,e,eC];rfl
  ·rw[if_neg e,eX _ (fun q=>e (fF q)),g2]
 ·try dsimp only at*
  by_cases e:m=n
  ·rw[if_pos e,if_pos e];simp
  ·rw[if_neg e,if_neg e];exact h.some_ m
 ·try dsimp only at*
  by_cases e:m=n
  ·rw[if_pos e]at q1;cases q1
  ·rw[if_neg e]at q1 q2;refine(h.low m j f q1 q2).mono fun x hx=>?_;show lk (up S.acc d _) j=_;rw[ae (fun q=>h.ne m j q1 q.symm)];exact hx
 ·try dsimp only at*
  by_cases e:m=n
  ·rw[if_pos e]at q1;cases q1
  ·by_cases e':m'=n
   ·rw[if_pos e']at q2;cases q2
   ·rw[if_neg e]at q1;rw[if_neg e']at q2;exact h.inj m m' j q1 q2
 ·try dsimp only at*
  by_cases e:m=n
  ·rw[if_pos e]at q1;cases q1
  ·rw[if_neg e]at q1;exact h.ne m j q1
theorem MJ{S:St}{d N:Nat}{ids:List UInt8→Option Nat}{F:eZ}(h:BM S d N ids F){es:List (Value×DV×Nat)}{c:Nat}(g:lk S.acc d=some (.xo (.mp .str es c)))(n:List UInt8){l:Nat}(hl:lk S.acc l=none):
 BM ⟨S.box,(l,.xo (.mp .str [] 0))::up S.acc d (.xo (.mp .str (ep es c (kT n) (.mp l)) (gq es c (kT n))))⟩ d (N+1) (fun m=>if m=n then some l else ids m) (dG F n fun _=>none):=by
 obtain⟨g1,g2⟩:=JV h g;have hld:¬l=d:=fun e=>by rw[e,g]at hl;cases hl
 have old:∀m j,ids m=some j→lk S.acc j≠none:=fun m j q=>by
  obtain⟨f,hf⟩:=abr.1 (fun r=>by rw[(h.some_ m).2 r]at q;cases q);exact(h.low m j f q hf).lk
 refine⟨⟨ep es c (kT n) (.mp l),gq es c (kT n),?_,?_,fun m=>?_⟩,fun m=>?_,fun m j f q1 q2=>?_,fun m m' j q1 q2=>?_,fun m j q1=>?_⟩
 ·show lk (_::_) d=_;simp only[lk];rw[if_neg hld];exact xI g
 ·have:=tG es c (kT n) (.mp l);omega
 ·try dsimp only at*
  by_cases e:m=n
  ·rw[if_pos e,e,bD];rfl
  ·rw[if_neg e,cM _ _ (fun q=>e (fF q)),g2]
 ·unfold dG
  try dsimp only
  by_cases e:m=n
  ·rw[if_pos e,if_pos e];simp
  ·rw[if_neg e,if_neg e];exact h.some_ m
 ·unfold dG at q2
  try dsimp only at q1 q2
  by_cases e:m=n
  ·rw[if_pos e]at q1 q2;cases q1;cases q2;exact⟨[],0,by simp[lk],aa6 _,fun k=>by simp[aT]⟩
  ·rw[if_neg e]at q1 q2;refine((h.low m j f q1 q2).mono fun x hx=>?_).le (by omega);show lk (_::_) j=_;simp only[lk];rw[if_neg (fun q=>old m j q1 (by rw[←q];exact hl)),ae (fun q=>h.ne m j q1 q.symm)];exact hx
 ·try dsimp only at*
  by_cases e:m=n
  ·rw[if_pos e]at q1;cases q1;by_cases e':m'=n
   ·rw[e,e']
   ·rw[if_neg e']at q2;exact absurd hl (old m' _ q2)
  ·rw[if_neg e]at q1;by_cases e':m'=n
   ·rw[if_pos e']at q2;cases q2;exact absurd hl (old m _ q1)
   ·rw[if_neg e']at q2;exact h.inj m m' j q1 q2
 ·try dsimp only at*
  by_cases e:m=n
  ·rw[if_pos e]at q1;cases q1;exact hld
  ·rw[if_neg e]at q1;exact h.ne m j q1
theorem TE(w0:W0){S:St}{w m own:Nat}{o:aV}{full:Bool}{c:Cf}{ls:List Nat}{t sn:Nat}(hw:lk S.box w=some (uD m own o full))(hm:lk S.box m=some (HL c ls t sn))(hu:eN c.up)(hq:gM c.up o.label o.level=false→pD w0 S 31):
 ab Tryz.prog w0 81 [bC w] S (fun d S'=>gM c.up o.label o.level=true∧d=Mc∧S'=S):=by
 refine mh [] mx Tryz.func81 rfl rfl (by kernel_rfl) ?_;refine @aa _ (ah @Tryz.ntmps81 ?_);intro b2;have e1:=bU b2 hw;have e2:=bU b2 hm;have hH:∀ds,Has S ⟨(b2.n,ds)::S.box,S.acc⟩:=fun ds=>(Has.refl S).aN b2 ds rfl;refine @aa _ (cK @e1 @hw ?_);refine aq (qn w0 (w:=w) (m:=m) (own:=own) (o:=o) (full:=full) (c:=c) (ls:=ls) (t:=t) (sn:=sn) (by exact @aa _ (di @e1 @hw)) (by exact @aa _ (di @e2 @hm)) hu o.label) ?_
 cases hle:gM c.up o.label o.level with
 |true=>
  refine @aa _ (av ?_);refine aw (aI w0 true 31 _ (fun h=>by cases h)) ?_;rintro _ _ ⟨_,rfl,rfl⟩;refine @aa _ (cK @e1 @hw ?_);exact⟨_,_,.refl _,(Sub.refl _).aN,rfl,rfl⟩
 |false=>
  refine @aa _ (av ?_);refine aw (aI w0 false 31 _ (fun _=>(hq hle).to (hH _))) ?_;rintro _ _ ⟨q,_⟩;cases q
theorem SF(w0:W0){S:St}{w m own b:Nat}{o:aV}{full:Bool}{au dr:DV}{has:Int}{c:Cf}{ls:List Nat}{sn:Nat}{θ:fI}{r:List RH}(hw:lk S.box w=some (uD m own o full))(hl:lk S.box own=some (oC b au has dr))(hm:lk S.box m=some (HL c ls θ.t sn))(hT:TI S θ r)
 (hno:(own=w)=False) (hnm:(own=m)=False) (hob:own∉θ.bx):
 ab Tryz.prog w0 69 [bC w] S (fun d S'=>d=Mc∧TI S' θ (oy r o.level o.az).1∧yi ⟨up S.box own (oC b au (if has=o.az then 0 else has) dr),S.acc⟩ S' θ θ):=by
 refine mh [3] mx Tryz.func69 rfl rfl (by kernel_rfl) ?_;refine @aa _ (ah @Tryz.ntmps69 ?_);intro b2;have e1:=bU b2 hw;have e2:=bU b2 hl;have e3:=bU b2 hm;refine aw (wu w0 (w:=w) (own:=own) (m:=m) (o:=o) (full:=full) (b:=b) (au:=au) (dr:=dr) (has:=has) (by exact @aa _ (di @e1 @hw)) (by exact @aa _ (di @e2 @hl))) ?_;rintro _ _ ⟨rfl,rfl⟩;by_cases hh:has=o.az
 ·rw[decide_eq_true hh,if_pos hh];refine @aa _ (bz @e1 @e2 @e3 @hw @hl @hm @hno @hnm ?_);refine Y.jZ [8] [9] [0,1,2,7,3,4,5,6,8,9] mx (by kernel_rfl) ?_;refine @aa _ (bz @e1 @e2 @e3 @hw @hl @hm @hno @hnm ?_);refine aw (fL w0 (w:=w) (m:=m) (own:=own) (o:=o) (full:=full) (by exact @aa _ (tI @e1 @hno @hw))) ?_;rintro _ _ ⟨rfl,rfl⟩;refine @aa _ (bz @e1 @e2 @e3 @hw @hl @hm @hno @hnm ?_);have hb2:lk S.box b2.n=none:=ao b2;have hbt:b2.n∉θ.bx:=fun hc=>hT.ny _ hc hb2
  have hTx:TI ⟨(b2.n,[dI 0,dI 0,.sl 0 true [],dI 0,dI 0,dI 0,dI 0,.sl 0 true []])::up S.box own [.mp b,au,dI 0,dr],S.acc⟩ θ r:=hT.mono (fun j x hj hx=>by
   show lk (_::_) j=_;simp only[lk];rw[if_neg (show¬b2.n=j from fun q=>hbt (by rw[q];exact hj)),ae (show¬own=j from fun q=>hob (by rw[q];exact hj))];exact hx) fun _ _ _ h=>h
  refine aw (J2 w0 hTx o.level o.az) ?_;rintro _ T ⟨rfl,hT',hF⟩;have g2:lk T.box b2.n=some [dI 0,dI 0,.sl 0 true [],dI 0,dI 0,dI 0,dI 0,.sl 0 true []]:=hF.box _ _ hbt (by simp[lk]);refine @aa _ (ah @g2 ?_)
  have hne2:∀j x,lk (up S.box own [.mp b,au,dI 0,dr]) j=some x→¬b2.n=j:=fun j x hx q=>by
   rw[←q,ae (fun r=>by rw[←e2];exact r.symm),hb2]at hx;cases hx
  refine⟨_,_,.refl _,.refl _,rfl,hT'.mono (fun j x hj hx=>?_) (fun _ _ _ h=>h),⟨rfl,fun j x hj hx=>?_,fun j x hj hx=>hF.acc j x hj hx,fun j hj=> .inl hj,fun j hj=> .inl hj⟩⟩
  ·show lk (up T.box b2.n _) j=_;rw[ae (show¬b2.n=j from fun q=>hbt (by rw[q];exact hj))];exact hx
  ·show lk (up T.box b2.n _) j=_;rw[ae (hne2 j x hx)];refine hF.box j x hj ?_;show lk (_::_) j=_;simp only[lk];rw[if_neg (hne2 j x hx)];exact hx
 ·rw[decide_eq_false hh,if_neg hh,se hl];refine @aa _ (bz @e1 @e2 @e3 @hw @hl @hm @hno @hnm ?_);refine Y.jZ [8] [9] [0,1,2,7,3,4,5,6,8,9] mx (by kernel_rfl) ?_;refine @aa _ (bz @e1 @e2 @e3 @hw @hl @hm @hno @hnm ?_);refine aw (fL w0 (w:=w) (m:=m) (own:=own) (o:=o) (full:=full) (by exact @aa _ (di @e1 @hw))) ?_;rintro _ _ ⟨rfl,rfl⟩;refine @aa _ (bz @e1 @e2 @e3 @hw @hl @hm @hno @hnm ?_);have hb2:lk S.box b2.n=none:=ao b2;have hbt:b2.n∉θ.bx:=fun hc=>hT.ny _ hc hb2
  have hTx:TI ⟨(b2.n,[dI 0,dI 0,.sl 0 true [],dI 0,dI 0,dI 0,dI 0,.sl 0 true []])::S.box,S.acc⟩ θ r:=hT.mono (fun j x hj hx=>by
   show lk (_::_) j=_;simp only[lk];rw[if_neg (show¬b2.n=j from fun q=>hbt (by rw[q];exact hj))];exact hx) fun _ _ _ h=>h
  refine aw (J2 w0 hTx o.level o.az) ?_;rintro _ T ⟨rfl,hT',hF⟩;have g2:lk T.box b2.n=some [dI 0,dI 0,.sl 0 true [],dI 0,dI 0,dI 0,dI 0,.sl 0 true []]:=hF.box _ _ hbt (by simp[lk]);refine @aa _ (ah @g2 ?_)
  have hne2:∀j x,lk (S.box) j=some x→¬b2.n=j:=fun j x hx q=>by
   rw[←q,hb2]at hx;cases hx
  refine⟨_,_,.refl _,.refl _,rfl,hT'.mono (fun j x hj hx=>?_) (fun _ _ _ h=>h),⟨rfl,fun j x hj hx=>?_,fun j x hj hx=>hF.acc j x hj hx,fun j hj=> .inl hj,fun j hj=> .inl hj⟩⟩
  ·show lk (up T.box b2.n _) j=_;rw[ae (show¬b2.n=j from fun q=>hbt (by rw[q];exact hj))];exact hx
  ·show lk (up T.box b2.n _) j=_;rw[ae (hne2 j x hx)];refine hF.box j x hj ?_;show lk (_::_) j=_;simp only[lk];rw[if_neg (hne2 j x hx)];exact hx
theorem Zg(w0:W0){S:St}{bx w m own:Nat}{o:aV}{full:Bool}(hb:lk S.box bx=some [bC w])(hw:lk S.box w=some (uD m own o full))(k:List UInt8):
 ab Tryz.prog w0 125 [dS (tx k),bC bx] S (fun d S'=>d=dB (decide (k=o.key))∧S'=S):=by
 have htx:(tx k=tx o.key)=(k=o.key):=propext ⟨CK,fun h=>by rw[h]⟩;refine bI [] mx Tryz.func125 rfl rfl (by kernel_rfl) ?_;simp only[Tryz.ntmps125,aaW,ab8,Nat.reduceAdd,Nat.reduceSub,List.reduceReplicate,acG,acR];exact @aa _ (tI @Tryz.ntmps125 @hb @hw)
def nC(n:Int):Int:=if n<0 then 0 else if n>50 then 50 else n
theorem WQ(w0:W0)(n:Int)(S:St):ab Tryz.prog w0 128 [dI n] S (fun d S'=>d=dI (nC n)∧S'=S):=by
 refine bI [] mx Tryz.func128 rfl rfl (by kernel_rfl) ?_;refine @aa _ (ah @Tryz.ntmps128 ?_);unfold nC
 (repeat' split) <;>omega
theorem WT(w0:W0)(n:Int)(S:St):ab Tryz.prog w0 88 [dI n] S (fun d S'=>d=dI (nC n)∧S'=S):=by
 refine bI [] mx Tryz.func88 rfl rfl (by kernel_rfl) ?_;refine @aa _ (ah @Tryz.ntmps88 ?_);unfold nC;refine⟨fun h=>by rw[if_pos h],fun h=>⟨fun h2=>by rw[if_neg h,if_pos h2],fun h2=>by rw[if_neg h,if_neg h2]⟩⟩
@[go_sem] def dD (l:List dA):DV:= .sl 3 false (l.map oR)
theorem Ji(w0:W0)(l m:List dA)(h0:l.length≤4611686018427387904)(S:St):ab Tryz.prog w0 16 [dD l,dD m] S (fun d S'=>d=dB (pB (l=m))∧S'=S):=by
 refine bI [] mx Tryz.func16 rfl rfl (by kernel_rfl) ?_;refine @aa _ (ah @Tryz.ntmps16 ?_);refine⟨fun h1 h2=>h1 (congrArg List.length h2),fun h=>?_⟩;have h:l.length=m.length:=by omega
 refine aQ [] l.length [0,1,5] (fun i=>[(5,dI i)]) (fun i=>S) (fun i=>∀j,j<i→l[j]? =m[j]?) mx (by kernel_rfl) ?_ ?_
 ·refine @aa _ (av ?_);intro j hj;omega
 ·intro i hi hinv;have e1:i<4611686018427387904→IntKind.i64.wrap ((i:Int)+1)=((i+1:Nat):Int):=fun h=>aJ (by omega);by_cases hil:i<l.length
  ·have e1:=e1 (by omega);have hx:l[i]? =some l[i]:=aac hil;have hy:m[i]? =some (m[i]'(by omega)):=aac (by omega);generalize l[i]=x at hx;generalize m[i]'(by omega)=y at hy;refine @aa _ (cL @hx @hy @e1 ?_);refine⟨fun _=>⟨hil,by omega,fun he=>⟨hil,fun j hj=>?_⟩,fun hne e=>?_⟩,fun h=>absurd hil h⟩
   ·by_cases e:j=i
    ·subst e;simp only[aak,decide_eq_true_eq]at he;obtain⟨⟨q1,q2⟩,q3⟩:=he;rw[hx,hy];cases x;cases y;simp at q1 q2 q3;rw[q1,q2,q3]
    ·exact hinv j (by omega)
   ·rw[e,hy]at hx;have:=abR hx;subst this;simp at hne
  ·refine @aa _ (av ?_);refine⟨fun h=>absurd h hil,fun _=>?_⟩;refine acy fun j=>?_;by_cases hj:j<l.length
   ·exact hinv j (by omega)
   ·rw[aaS (by omega),aaS (by omega)]
def zg(a b:List UInt8):Bool:=Op.bytesLess a b
@[go_sem] theorem aaw (a b:List UInt8) (K:DV→Prop):gO .lss (tx a) (tx b) K=K (.v (.bool (zg a b))):=by
 show K (.v (.bool (Op.bytesLess (tx a).data.toList (tx b).data.toList)))=_;rw[dK,dK];rfl
@[go_sem] theorem aaA (a b:List UInt8) (K:DV→Prop):gO .geq (tx a) (tx b) K=K (.v (.bool (!zg a b))):=by
 show K (.v (.bool (!Op.bytesLess (tx a).data.toList (tx b).data.toList)))=_;rw[dK,dK];rfl
@[go_sem] theorem aai (a b:List UInt8) (K:DV→Prop):gO .gtr (tx a) (tx b) K=K (.v (.bool (!(zg a b||decide (a=b))))):=by
 show K (.v (.bool (!(Op.bytesLess (tx a).data.toList (tx b).data.toList||decide ((tx a).data.toList=(tx b).data.toList)))))=_;rw[dK,dK];rfl
theorem Xe(w0:W0){S:St}{bx w m own:Nat}{o:aV}{full:Bool}(hb:lk S.box bx=some [bC w])(hw:lk S.box w=some (uD m own o full))(k:List UInt8):
 ab Tryz.prog w0 127 [dS (tx k),bC bx] S (fun d S'=>d=dB (!zg k o.key)∧S'=S):=by
 refine bI [] mx Tryz.func127 rfl rfl (by kernel_rfl) ?_;simp only[Tryz.ntmps127,aaW,ab8,Nat.reduceAdd,Nat.reduceSub,List.reduceReplicate,acG,acR];exact @aa _ (tI @Tryz.ntmps127 @hb @hw)
theorem LK(w0:W0)(x:List UInt8)(S:St):ab Tryz.prog w0 193 [dS (tx x)] S (fun d S'=>d=dB false∧S'=S):=by
 refine bI [] mx Tryz.func193 rfl rfl (by kernel_rfl) ?_;exact @aa _ (ft @Tryz.ntmps193)
def Gj(x y:List UInt8):Int:=if zg x y then -1 else if x=y then 0 else 1
theorem Xl(w0:W0)(x y:List UInt8)(S:St):ab Tryz.prog w0 183 [dS (tx x),dS (tx y)] S (fun d S'=>d=dI (Gj x y)∧S'=S):=by
 refine bI [] mx Tryz.func183 rfl rfl (by kernel_rfl) ?_;refine @aa _ (ah @Tryz.ntmps183 ?_);refine aq (LK _ x _) (@aa _ (av ?_));refine aq (LK _ y _) (@aa _ (av ?_));unfold Gj;refine⟨fun h=>by rw[if_pos h],fun h=>⟨fun h2=>?_,fun h2=>?_⟩⟩
 ·rw[h,adn,decide_eq_true_iff]at h2;rw[if_neg (by rw[h];simp),if_pos h2]
 ·rw[h,adn,decide_eq_false_iff_not]at h2;rw[if_neg (by rw[h];simp),if_neg h2]
def cX(a b:dA):Bool:=zg a.key b.key||(decide (a.key=b.key)&&decide (a.mM<b.mM))
theorem Us(w0:W0)(a b:dA)(S:St):ab Tryz.prog w0 136 [oR a,oR b] S (fun d S'=>d=dB (cX a b)∧S'=S):=by
 refine bI [] mx Tryz.func136 rfl rfl (by kernel_rfl) ?_;refine @aa _ (ah @Tryz.ntmps136 ?_);intro b1 b2;unfold cX;refine⟨fun h=>by rw[h];rfl,fun h=>⟨fun h2=>?_,fun h2=>?_⟩⟩
 ·rw[h,decide_eq_true h2];rfl
 ·rw[h,decide_eq_false h2];rfl
theorem Zz(w0:W0)(x y:Int)(S:St):ab Tryz.prog w0 177 [.sl 1 false [dI x,dI y]] S (fun d S'=>d=dI (if x≠0 then x else y)∧S'=S):=by
 refine bI [] mx Tryz.func177 rfl rfl (by kernel_rfl) ?_;refine @aa _ (ah @Tryz.ntmps177 ?_);refine aQ [] 2 [3,6,7,8] (fun a=>[(8,dI a)]) (fun _=>S) (fun a=>(1≤a→x=0)∧(2≤a→y=0)) mx (by kernel_rfl) ?_ ?_
 ·exact @aa _ bY
 ·intro a ha hA;obtain rfl|rfl|rfl:a=0∨a=1∨a=2:=by omega
  ·refine @aa _ (av ?_);refine⟨fun h=>by rw[if_pos h],fun h=>⟨abe.1 h,by rfl⟩⟩
  ·refine @aa _ (av ?_);have h0:=hA.1 (by omega);refine⟨fun h=>by rw[if_neg (by omega)],fun h=>⟨⟨h0,abe.1 h⟩,by rfl⟩⟩
  ·refine @aa _ (av ?_);have h0:=hA.1 (by omega);have h1:=hA.2 (by omega);rw[if_neg (by omega),h1]
def An(a b:dA):Int:=if Gj a.key b.key≠0 then Gj a.key b.key else tf a.mM b.mM
theorem vi(w0:W0)(a b:dA)(S:St):ab Tryz.prog w0 158 [oR a,oR b] S (fun d S'=>d=dI (An a b)∧S'=S):=by
 refine bI [] mx Tryz.func158 rfl rfl (by kernel_rfl) ?_;refine @aa _ (ah @Tryz.ntmps158 ?_);intro b1 b2;have eb:=an b2 b1.n (by exact @aa _ bY);refine aR (Xl _ a.key b.key _) (@aa _ (ah @eb ?_));refine aR (po _ a.mM b.mM _) (@aa _ (ah @eb ?_));refine aR (Zz _ (Gj a.key b.key) (tf a.mM b.mM) _) ?_ ⟨.full _ _ _,trivial⟩;refine @aa _ (av ?_);unfold An;rfl
theorem vA(a b:dA):An a b<0↔cX a b=true:=by
 unfold An cX Gj tf
 cases h:zg a.key b.key with
 |true=>simp
 |false=>
  by_cases e:a.key=b.key
  ·simp only[e,if_true,abQ,if_false,ne_eq,not_true_eq_false,decide_true,ac5,adn,decide_eq_true_eq];split
   ·simp;assumption
   ·split <;>simp <;>omega
  ·simp[e]
theorem NV(w0:W0)(a b:dA)(S:St):ab Tryz.prog w0 185 [oR a,oR b] S (fun d S'=>d=dB (cX a b)∧S'=S):=by
 refine bI [] mx Tryz.func185 rfl rfl (by kernel_rfl) ?_;refine @aa _ (ah @Tryz.ntmps185 ?_);intro b1 b2;refine aq (vi _ a b _) (@aa _ (av ?_));exact Bool.eq_iff_iff.2 (decide_eq_true_iff.trans (vA a b))
theorem It(w0:W0)(l:List dA)(hl:l.length≤1048576)(ho:∀i x y,l[i]? =some x→l[i+1]? =some y→cX y x=false)(S:St):ab Tryz.prog w0 157 [dD l,.v (.func (.func 158) #[] #[])] S (fun d S'=>d=dB true∧S'=S):=by
 have e0:IntKind.i64.wrap ((l.length:Int)-1)=(l.length:Int)-1:=nJ (by omega) (by omega);refine bI [] mx Tryz.func157 rfl rfl (by kernel_rfl) ?_;refine @aa _ (cK @Tryz.ntmps157 @e0 ?_);refine fZ [] [0,1,5] (σ:=Nat) (fun i=>[(5,dI ((i:Int)-1))]) (fun _=>S) (fun i=>i≤l.length) (fun i=>i) l.length mx (by kernel_rfl) ⟨aar _,?_⟩ fun i hi=>?_
 ·exact @aa _ bY
 ·have e1:IntKind.i64.wrap ((i:Int)-1-1)=(i:Int)-1-1:=nJ (by omega) (by omega);refine @aa _ (ah @e1 ?_);intro hi1;refine⟨by omega,by omega,fun y hy=>⟨by omega,by omega,fun x hx=>?_⟩⟩;have hord:=ho (i-2) x y (by rw[show i-2=((i:Int)-1-1).toNat by omega];exact hx) (by rw[show i-2+1=((i:Int)-1).toNat by omega];exact hy);have hc:¬An y x<0:=fun h=>by rw[(vA y x).1 h]at hord;cases hord
  refine aR (vi _ y x _) (@aa _ (ah @e1 ?_));exact⟨hc,fun _=>⟨i-1,by omega,by omega,by omega⟩⟩
structure Cs where
 act:Int
 frm:Int
 cz:Int
 bucket:List UInt8
 key:List UInt8
 dig:Int
@[go_sem] def uA (r:Cs):DV:= .agg [dI r.act,dI r.frm,dI r.cz,dS (tx r.bucket),dS (tx r.key),.v (.int .u32 r.dig)]
structure pr where
 e:Int
 n:Int
 rows:List dA
 rz:List Cs
@[go_sem] def uM (r:pr):DV:= .agg [dI r.e,dI r.n,.sl 3 false (r.rows.map oR),dI 0,dI 0,dI 0,dI 0,.sl 6 false (r.rz.map uA)]
structure uy where
 F:eZ
 au:List Cs
 has:Int
 D:eZ
structure bM where
 l:List uy
 r:List RH
 sn:Int→Int→Int→Option (List eZ)
inductive Ow where
 |no|tb|sm|sp
 |b (x:Nat)
 |d (x:Nat)
 |au (x:Nat)
def Ow.own(x:Nat):Ow→Prop
 | .b y=>y=x
 | .d y=>y=x
 | .au y=>y=x
 |_=>False
structure MG where
 m:Nat
 ls:List Nat
 θ:fI
 sn:Nat
 own:Nat→Ow
def MG.bx(g:MG):List Nat:=g.m::g.ls++g.θ.bx
def Ld(own:Nat→Ow)(o:Ow)(l:Nat)(ids:List UInt8→Option Nat):Prop:=own l=o∧∀n i,ids n=some i→own i=o
def UL(S:St)(r:Nat)(au:List Cs):Prop:=lk S.acc r=some (.arr 6 (au.map uA))∨lk S.acc r=some (.tl 6 (au.map uA))
theorem UL.to{S S':St}{r:Nat}{au:List Cs}(h:UL S r au)(k:∀v,lk S.acc r=some v→lk S'.acc r=some v):UL S' r au:=h.imp (k _) (k _)
def QW(S:St)(own:Nat→Ow)(N x bx:Nat)(l:uy):Prop:=∃b ids r dr,lk S.box bx=some (oC b (.acc r l.au.length) l.has dr)∧BM S b N ids l.F∧Ld own (.b x) b ids∧UL S r l.au∧own r= .au x∧(l.has≠0→∃d idd,dr= .mp d∧BM S d N idd l.D∧Ld own (.d x) d idd)
def L7(lv n k:Int):Value:= .agg [Value.int .i64 lv,.int .i64 n,.int .i64 k].toArray
def Zp(S:St)(own:Nat→Ow)(N:Nat)(bs:List Nat)(Fs:List eZ):Prop:=bs.length=Fs.length∧∀(j:Nat) b F,bs[j]? =some b→Fs[j]? =some F→∃ids,BM S b N ids F∧Ld own .sp b ids
def Yb(S:St)(own:Nat→Ow)(N sm:Nat)(sn:Int→Int→Int→Option (List eZ)):Prop:=∃es c,lk S.acc sm=some (.xo (.mp (.st [.i64,.i64,.i64]) es c))∧∀lv n k,(sn lv n k=none→aT es (L7 lv n k)=none)∧∀Fs,sn lv n k=some Fs→∃bs:List Nat,aT es (L7 lv n k)=some (.sl 1 false (bs.map DV.mp))∧Zp S own N bs Fs
structure MI(S:St)(g:MG)(N:Nat)(c:Cf)(μ:bM):Prop where
 md:lk S.box g.m=some (HL c g.ls g.θ.t g.sn)
 up:eN c.up
 len:g.ls.length=μ.l.length
 nd:(g.m::g.ls).Nodup
 Cg:∀i,i∈g.θ.bx→i∉g.m::g.ls
 lb:∀(x:Nat) bx l,g.ls[x]? =some bx→μ.l[x]? =some l→QW S g.own N x bx l
 tb:TI S g.θ μ.r
 xQ:∀i,i∈g.θ.ax→g.own i= .tb
 Fy:Yb S g.own N g.sn μ.sn
 oO:g.own g.sn= .sm
 mU:∀i,g.own i≠ .no→lk S.acc i≠none
theorem C9{a b c a' b' c':Int}(h:L7 a b c=L7 a' b' c'):a=a'∧b=b'∧c=c':=by
 unfold L7 at h;have h:=congrArg Array.toList (Value.agg.inj h);simp at h;exact h
theorem kM{S S':St}{own:Nat→Ow}{o:Ow}{l N:Nat}{ids:List UInt8→Option Nat}{F:eZ}(h:BM S l N ids F)(ho:Ld own o l ids)(ha:∀i x,own i=o→lk S.acc i=some x→lk S'.acc i=some x):BM S' l N ids F:=
 h.mono fun c x hc hx=>ha c x (hc.elim (fun e=>by rw[e];exact ho.1) fun⟨n,hn⟩=>ho.2 n c hn) hx
theorem BM.le{S:St}{l N M:Nat}{ids:List UInt8→Option Nat}{F:eZ}(h:BM S l N ids F)(k:N≤M):BM S l M ids F:=by
 obtain⟨es,c,h1,h2,h3⟩:=h.top;exact⟨⟨es,c,h1,by omega,h3⟩,h.some_,fun n i f q1 q2=>(h.low n i f q1 q2).le k,h.inj,h.ne⟩
theorem tS{own own':Nat→Ow}{o:Ow}{l:Nat}{ids:List UInt8→Option Nat}(h:Ld own o l ids)(k:∀i,own i=o→own' i=o):Ld own' o l ids:=⟨k _ h.1,fun n i q=>k _ (h.2 n i q)⟩
theorem wM{S S':St}{own own':Nat→Ow}{N M x bx:Nat}{l:uy}(h:QW S own N x bx l)(hNM:N≤M)(hb:∀v,lk S.box bx=some v→lk S'.box bx=some v)(ho:∀i,(own i).own x→own' i=own i)(ha:∀i v,(own i).own x→lk S.acc i=some v→lk S'.acc i=some v):QW S' own' M x bx l:=by
 obtain⟨b,ids,r,dr,h1,h2,h3,h4,h5,h6⟩:=h;have e1:∀i,own i= .b x→(own i).own x:=fun i e=>by rw[e];exact rfl
 have e2:∀i,own i= .d x→(own i).own x:=fun i e=>by rw[e];exact rfl
 have e3:∀i,own i= .au x→(own i).own x:=fun i e=>by rw[e];exact rfl
 refine⟨b,ids,r,dr,hb _ h1,(kM h2 h3 fun i v e=>ha i v (e1 i e)).le hNM,tS h3 fun i e=>(ho i (e1 i e)).trans e,h4.to fun v=>ha r v (e3 r h5),(ho r (e3 r h5)).trans h5,fun h=>?_⟩;obtain⟨d,idd,q1,q2,q3⟩:=h6 h;exact⟨d,idd,q1,(kM q2 q3 fun i v e=>ha i v (e2 i e)).le hNM,tS q3 fun i e=>(ho i (e2 i e)).trans e⟩
theorem BJ{S S':St}{own own':Nat→Ow}{N M:Nat}{bs:List Nat}{Fs:List eZ}(h:Zp S own N bs Fs)(hNM:N≤M)(ho:∀i,own i= .sp→own' i= .sp)(ha:∀i v,own i= .sp→lk S.acc i=some v→lk S'.acc i=some v):Zp S' own' M bs Fs:=
 ⟨h.1,fun j b F q1 q2=>let⟨ids,q3,q4⟩:=h.2 j b F q1 q2;⟨ids,(kM q3 q4 fun i v e=>ha i v e).le hNM,tS q4 ho⟩⟩
theorem wa{S S':St}{own own':Nat→Ow}{N M sm:Nat}{sn:Int→Int→Int→Option (List eZ)}(h:Yb S own N sm sn)(hNM:N≤M)(ho:∀i,own i= .sp→own' i= .sp)(ha:∀i v,own i= .sp→lk S.acc i=some v→lk S'.acc i=some v)(hs:∀v,lk S.acc sm=some v→lk S'.acc sm=some v):Yb S' own' M sm sn:=by
 obtain⟨es,c,h1,h2⟩:=h;refine⟨es,c,hs _ h1,fun lv n k=>⟨(h2 lv n k).1,fun Fs hF=>?_⟩⟩;obtain⟨bs,q1,q2⟩:=(h2 lv n k).2 Fs hF;exact⟨bs,q1,BJ q2 hNM ho ha⟩
theorem MI.uQ{S:St}{g:MG}{N:Nat}{c:Cf}{μ:bM}(h:MI S g N c μ){x bx:Nat}(hx:g.ls[x]? =some bx):∃l,μ.l[x]? =some l∧QW S g.own N x bx l:=by
 have hlt:=(aad.1 hx).1;rw[h.len]at hlt;exact⟨_,aac hlt,h.lb x bx _ hx (aac hlt)⟩
theorem bd{α:Type}{L:List (Nat×α)}{b:Nat}{x v:α}(h:lk L b=some x):lk (up L b v) b=some v:=by rw[aM,h];rfl
theorem bF{α:Type}{o:Option α}(h:o≠none):∃x,o=some x:=abr.1 h
theorem MI.to{S S':St}{g:MG}{N M:Nat}{c:Cf}{μ:bM}(h:MI S g N c μ)(hNM:N≤M)(hb:∀i v,i∈g.bx→lk S.box i=some v→lk S'.box i=some v)(ha:∀i v,g.own i≠ .no→lk S.acc i=some v→lk S'.acc i=some v):MI S' g M c μ where
 md:=hb _ _ (by simp[MG.bx]) h.md
 up:=h.up
 len:=h.len
 nd:=h.nd
 Cg:=h.Cg
 lb:=fun x bx l h1 h2=>wM (h.lb x bx l h1 h2) hNM (fun v q=>hb bx v (by have:=aaf h1;simp[MG.bx,this]) q) (fun _ _=>rfl) fun i v q=>ha i v (fun e=>by rw[e]at q;exact q)
 tb:=h.tb.mono (fun i v q=>hb i v (by simp[MG.bx,q])) fun i v q=>ha i v (by rw[h.xQ i q];simp)
 xQ:=h.xQ
 Fy:=wa h.Fy hNM (fun _ e=>e) (fun i v e=>ha i v (by rw[e];simp)) fun v=>ha _ v (by rw[h.oO];simp)
 oO:=h.oO
 mU:=fun i q=>by
  obtain⟨x,hx⟩:=bF (h.mU i q);rw[ha i x q hx];simp
theorem MI.le{S:St}{g:MG}{N M:Nat}{c:Cf}{μ:bM}(h:MI S g N c μ)(hNM:N≤M):MI S g M c μ:=h.to hNM (fun _ _ _ q=>q) fun _ _ _ q=>q
theorem MI.ny{S:St}{g:MG}{N:Nat}{c:Cf}{μ:bM}(h:MI S g N c μ){i:Nat}(hi:i∈g.bx):lk S.box i≠none:=by
 unfold MG.bx at hi;rcases aaD.1 hi with q|q
 ·rcases aaJ.1 q with q|q
  ·rw[q,h.md];simp
  ·obtain⟨x,hx⟩:=abv.1 q;obtain⟨l,_,b,ids,r,dr,h1,_⟩:=h.uQ hx;rw[h1];simp
 ·exact h.tb.ny i q
structure iO(S S':St)(g g':MG):Prop where
 m:g'.m=g.m
 box:∀i v,i∉g.bx→lk S.box i=some v→lk S'.box i=some v
 acc:∀i v,g.own i= .no→lk S.acc i=some v→lk S'.acc i=some v
 nb:∀i,i∈g'.bx→i∈g.bx∨lk S.box i=none
 na:∀i,g'.own i≠ .no→g.own i≠ .no∨lk S.acc i=none
theorem iO.refl(S:St)(g:MG):iO S S g g:=⟨rfl,fun _ _ _ q=>q,fun _ _ _ q=>q,fun _ q=> .inl q,fun _ q=> .inl q⟩
theorem iO.trans{S T U:St}{g h k:MG}(a:iO S T g h)(b:iO T U h k):iO S U g k:=by
 have kb:∀i v,i∉g.bx→lk S.box i=some v→i∉h.bx:=fun i v q1 q2 q3=>by
  rcases a.nb i q3 with q|q
  ·exact q1 q
  ·rw[q2]at q;cases q
 have ka:∀i v,g.own i= .no→lk S.acc i=some v→h.own i= .no:=fun i v q1 q2=>by
  refine abe.1 fun q3=>?_;rcases a.na i q3 with q|q
  ·exact q q1
  ·rw[q2]at q;cases q
 refine⟨b.m.trans a.m,fun i v q1 q2=>b.box i v (kb i v q1 q2) (a.box i v q1 q2),fun i v q1 q2=>b.acc i v (ka i v q1 q2) (a.acc i v q1 q2),fun i q=>?_,fun i q=>?_⟩
 ·rcases b.nb i q with r|r
  ·exact a.nb i r
  ·refine(ac3 (i∈g.bx)).imp id fun q1=>?_
   cases hx:lk S.box i with
   |none=>rfl
   |some v=>rw[a.box i v q1 hx]at r;cases r
 ·rcases b.na i q with r|r
  ·exact a.na i r
  ·refine(ac3 (g.own i≠ .no)).imp id fun q1=>?_;have q1:=abe.1 q1
   cases hx:lk S.acc i with
   |none=>rfl
   |some v=>rw[a.acc i v q1 hx]at r;cases r
theorem iO.has{S T:St}{g:MG}(h:Has S T):iO S T g g:=⟨rfl,fun i v _ q=>h.box i v q,fun i v _ q=>h.acc i v q,fun _ q=> .inl q,fun _ q=> .inl q⟩
theorem MI.has{S T:St}{g:MG}{N:Nat}{c:Cf}{μ:bM}(h:MI S g N c μ)(k:Has S T):MI T g N c μ:=h.to (aar _) (fun i v _ q=>k.box i v q) fun i v _ q=>k.acc i v q
def AD(w0:W0)(S:St)(g:MG)(N:Nat)(c:Cf)(μ:bM)(e:Int):Prop:=∀T g',MI T g' (N+1) c μ→iO S T g g'→w0.pq (.jM 33 (dI e)) T
theorem AD.er{w0:W0}{S:St}{g:MG}{N:Nat}{c:Cf}{μ:bM}{e:Int}(h:AD w0 S g N c μ e)(hI:MI S g N c μ):pD w0 S e:=fun T hT=>h T g ((hI.has hT).le (abp N)) (.has hT)
theorem MI.D7{S S':St}{g:MG}{N M:Nat}{c:Cf}{μ:bM}(h:MI S g N c μ)(hNM:N≤M){x bx:Nat}(hx:g.ls[x]? =some bx)(own':Nat→Ow)(l':uy)
 (hb:∀i v,i≠bx→lk S.box i=some v→lk S'.box i=some v)
 (ho:∀i,g.own i≠ .no→¬(g.own i).own x→own' i=g.own i)
 (ha:∀i v,g.own i≠ .no→¬(g.own i).own x→lk S.acc i=some v→lk S'.acc i=some v)
 (hl:QW S' own' M x bx l') (hlv:∀i,own' i≠ .no→lk S'.acc i≠none):MI S' ⟨g.m,g.ls,g.θ,g.sn,own'⟩ M c ⟨μ.l.set x l',μ.r,μ.sn⟩ where
 md:=hb _ _ (fun e=>(aaV.1 h.nd).1 (e▸aaf hx)) h.md
 up:=h.up
 len:=by simp[h.len]
 nd:=h.nd
 Cg:=h.Cg
 lb:=fun y by_ l h1 h2=>by
  simp only at h1 h2;by_cases e:x=y
  ·subst e;rw[hx]at h1;cases h1;rw[abZ (by rw[←h.len];exact(aad.1 hx).1)]at h2;cases h2;exact hl
  ·rw[ab5 e]at h2
   have hnx:∀i,(g.own i).own y→g.own i≠ .no∧¬(g.own i).own x:=fun i q=>⟨fun r=>by rw[r]at q;exact q,fun r=>by
    cases hw:g.own i <;>rw[hw]at q r <;>simp only[Ow.own]at q r <;>omega⟩
   have hbne:by_≠bx:=fun r=>by
    have hnd:=(aaV.1 h.nd).2;rw[r]at h1;exact e ((List.getElem?_inj (aad.1 hx).1 hnd).1 (by rw[hx,h1]))
   exact wM (h.lb y by_ l h1 h2) hNM (fun v q=>hb by_ v hbne q) (fun i q=>ho i (hnx i q).1 (hnx i q).2) fun i v q=>ha i v (hnx i q).1 (hnx i q).2
 tb:=h.tb.mono (fun i v q=>hb i v fun e=>h.Cg i q (by rw[e];exact aat _ (aaf hx))) fun i v q=>ha i v (by rw[h.xQ i q];simp) (by rw[h.xQ i q];exact id)
 xQ:=fun i q=>by
  have:=h.xQ i q;exact(ho i (by rw[this];simp) (by rw[this];exact id)).trans this
 Fy:=wa h.Fy hNM (fun i e=>(ho i (by rw[e];simp) (by rw[e];exact id)).trans e) (fun i v e=>ha i v (by rw[e];simp) (by rw[e];exact id)) fun v=>ha _ v (by rw[h.oO];simp) (by rw[h.oO];exact id)
 oO:=(ho _ (by rw[h.oO];simp) (by rw[h.oO];exact id)).trans h.oO
 mU:=hlv
def dP(e:Int):pr:=⟨e,0,[],[]⟩
def Fk(n:Int):pr:=⟨0,n,[],[]⟩
abbrev jP:=Int ⊕ (pr×bM)
def cE(μ:bM)(o:aV)(l:uy):jP:= .inr (dP 0,⟨μ.l.set o.level.toNat l,μ.r,μ.sn⟩)
def aE(μ:bM)(x:Int):uy:=(if 0≤x then μ.l[x.toNat]? else none).getD ⟨fun _=>none,[],0,fun _=>none⟩
def jI(μ:bM)(o:aV):jP:=let l:=aE μ o.level
 .inr (dP 0,⟨μ.l.set o.level.toNat {l with has:=if l.has=o.az then 0 else l.has},(oy μ.r o.level o.az).1,μ.sn⟩)
def ie(μ:bM)(o:aV):jP:=let l:=aE μ o.level
 if l.has≠0 then .inl 36 else cE μ o {l with has:=o.az,D:=l.F}
def eG(μ:bM)(o:aV):jP:=let l:=aE μ o.level
 if l.has≠o.az then .inl 35 else cE μ o {l with has:=0,F:=l.D}
def cJ(μ:bM)(o:aV):jP:=let l:=aE μ o.level
 if l.has≠o.az then .inl 35 else cE μ o {l with has:=0}
def cH(s:List UInt8)(m:Int):Prop:=s≠[]∧(s.length:Int)≤m
instance (s:List UInt8) (m:Int):Decidable (cH s m):=by unfold cH;infer_instance
def mT{α:Type}(f:List UInt8→Option α)(k:List UInt8):List UInt8→Option α:=fun j=>if j=k then none else f j
def gY(μ:bM)(o:aV)(full:Bool):jP:=let l:=aE μ o.level
 if l.has≠o.az then .inl 35 else if¬cH o.bucket 15 then .inl 34 else if(l.D o.bucket).isSome then .inl 38 else if full then .inl 37 else cE μ o {l with D:=dG l.D o.bucket fun _=>none}
def iq(μ:bM)(o:aV)(full:Bool):jP:=let l:=aE μ o.level
 if l.has≠o.az then .inl 35 else if(l.D o.bucket).isNone then .inl 32 else if full then .inl 37 else cE μ o {l with D:=mT l.D o.bucket}
def mE(μ:bM)(o:aV)(full:Bool):jP:=let l:=aE μ o.level
 if l.has≠o.az then .inl 35 else if¬(cH o.key 16∧o.value.length≤400)then .inl 34 else
 match l.D o.bucket with
 |none=> .inl 32
 |some f=>if full then .inl 37 else cE μ o {l with D:=dG l.D o.bucket fun j=>if j=o.key then some o.value else f j}
def cP(μ:bM)(o:aV)(full:Bool):jP:=let l:=aE μ o.level
 if l.has≠o.az then .inl 35 else
 match l.D o.bucket with
 |none=> .inl 32
 |some f=>if(f o.key).isNone then .inl 33 else if full then .inl 37 else cE μ o {l with D:=dG l.D o.bucket (mT f o.key)}
def fO(μ:bM)(o:aV)(x:Nat):eZ:=if o.snap≠0 then(((μ.sn o.level o.az o.snap).getD [])[x]?).getD fun _=>none else if(x:Int)=o.level∧(aE μ o.level).has=o.az then(aE μ o.level).D else(aE μ x).F
noncomputable def kr(x:Nat)(p:List UInt8→Bool)(f:Option (List UInt8→Option (List UInt8))):List dA:=match f with
 |none=>[]
 |some f=>((dp f).filter p).map fun k=>⟨k,x,(f k).getD []⟩
def kc(c:Cf)(μ:bM)(o:aV)(i:Nat):List Nat:=(List.range i).filter fun x:Nat=>gM c.up (x:Int) o.level
noncomputable def bl(c:Cf)(μ:bM)(o:aV)(p:List UInt8→Bool)(i:Nat):List (List dA):=(kc c μ o i).map fun x=>kr x p (fO μ o x o.bucket)
def gT(c:Cf)(μ:bM)(o:aV)(i:Nat):Bool:=(kc c μ o i).any fun x=>(fO μ o x o.bucket).isSome
def jU:List dA→List dA→List dA
 |[],m=>m
 |l,[]=>l
 |a::l,b::m=>if cX b a then b::jU (a::l) m else a::jU l (b::m)
termination_by l m=>l.length+m.length
def Q8(rows:List (List dA))(most:Int):List dA:=(rows.foldl jU []).take most.toNat
def gz(μ:bM)(o:aV):Prop:=o.snap≠0∧o.snap∉lL μ.r o.level o.az
instance (μ:bM) (o:aV):Decidable (gz μ o):=by unfold gz;infer_instance
noncomputable def getM(c:Cf)(μ:bM)(o:aV):jP:=
 if gz μ o then .inl 39 else if gT c μ o μ.l.length=false then .inl 32 else
 let rows:=(bl c μ o (fun k=>decide (k=o.key)) μ.l.length).flatten
 if rows=[]then .inl 33 else .inr (⟨0,0,rows,[]⟩,μ)
noncomputable def iZ(c:Cf)(μ:bM)(o:aV):jP:=
 if gz μ o then .inl 39 else if gT c μ o μ.l.length=false then .inl 32 else
 .inr (⟨0,0,Q8 (bl c μ o (fun k=>!zg k o.key) μ.l.length) (nC o.n),[]⟩,μ)
def tT(sn:Int→Int→Int→Option (List eZ))(lv n k:Int)(v:Option (List eZ)):Int→Int→Int→Option (List eZ):=fun a b d=>if a=lv∧b=n∧d=k then v else sn a b d
def nG(μ:bM)(o:aV):jP:= .inr (Fk (oz μ.r o.level o.az).2,⟨μ.l,(oz μ.r o.level o.az).1,tT μ.sn o.level o.az (oz μ.r o.level o.az).2 (some (μ.l.map uy.F))⟩)
def eJ(μ:bM)(o:aV):jP:=if(oA μ.r o.level o.az o.snap).2=false then .inl 39 else .inr (dP 0,⟨μ.l,(oA μ.r o.level o.az o.snap).1,tT μ.sn o.level o.az o.snap none⟩)
def ia(c:Cf)(μ:bM)(o:aV):jP:=if gM c.up o.label o.level=false then .inl 31 else .inr (dP 0,μ)
def gy(c:Cf)(μ:bM)(o:aV):jP:=if gM c.up o.label o.level=false then .inl 31 else .inr (⟨0,0,[],(((aE μ o.label).au).drop o.n.toNat).take 50⟩,μ)
def fY(dg:List UInt8→Int)(c:Cf)(μ:bM)(o:aV)(full:Bool):jP:=
 if¬(gM c.up o.label o.level=true∧gM c.up o.cz o.level=true∧(⟨o.level,o.label,o.cz⟩:G)∈c.gr)then .inl 31 else
 let t:=aE μ o.cz
 if t.has≠0 then .inl 36 else
 match(aE μ o.label).F o.bucket with
 |none=> .inl 32
 |some f=>match f o.key with
  |none=> .inl 33
  |some v=>match t.F o.bucket with
   |none=> .inl 32
   |some g=>if full then .inl 37 else .inr (Fk t.au.length,⟨μ.l.set o.cz.toNat {t with F:=dG t.F o.bucket (fun j=>if j=o.key then some v else g j),au:=t.au++[⟨o.level,o.label,o.cz,o.bucket,o.key,dg v⟩]},μ.r,μ.sn⟩)
def bT(μ:bM)(o:aV)(full:Bool):bM:=⟨(List.range μ.l.length).map fun x:Nat=>let l:=aE μ x
 {l with has:=0,F:=if(x:Int)=o.level∧0<o.az∧l.has=o.az∧full=false then l.D else l.F},[],fun _ _ _=>none⟩
noncomputable def cr(dg:List UInt8→Int)(c:Cf)(μ:bM)(o:aV)(full:Bool):jP:=
 if o.kind=1 then jI μ o else if o.kind=2 then ie μ o else if o.kind=3 then eG μ o else if o.kind=4 then cJ μ o else if o.kind=5 then gY μ o full else if o.kind=6 then iq μ o full else
 if o.kind=7 then mE μ o full else if o.kind=8 then cP μ o full else if o.kind=9 then getM c μ o else if o.kind=10 then iZ c μ o else if o.kind=11 then nG μ o else if o.kind=12 then eJ μ o else
 if o.kind=13 then ia c μ o else if o.kind=14 then gy c μ o else fY dg c μ o full
def iV(μ:bM):jP→pr×bM
 | .inl e=>(dP e,μ)
 | .inr p=>p
noncomputable def iy(dg:List UInt8→Int)(c:Cf)(μ:bM)(o:aV)(full:Bool):pr×bM:=
 if r6 μ.l.length o=false then(dP 40,μ)else if o.kind=0 then(Fk (oB μ.r o.level).2,⟨μ.l,(oB μ.r o.level).1,μ.sn⟩)else if o.kind=16 then(dP 0,bT μ o full)else
 if¬dm μ.r o.level o.az<μ.r.length then(dP 30,μ)else iV μ (cr dg c μ o full)
end Go.Proofs.YtoepfmhnapedoaaGreatDoor
namespace Go.Proofs.YtoepfmhnapedoaaGreatDoor
open Aml Go Rn Lat Grs
structure oL(S:St)(g:MG)(w own:Nat)(o:aV)(full:Bool):Prop where
 k:lk S.box w=some (uD g.m own o full)
 l:g.ls[o.level.toNat]? =some own
 p:0≤o.level
 f:w∉g.bx
 s:o.az≠0
def mX(S:St)(g:MG)(M:Nat)(c:Cf)(out:jP)(d:DV)(S':St):Prop:=∃r μ' g',out= .inr (r,μ')∧Wk d (uM r)∧MI S' g' M c μ'∧iO S S' g g'
theorem jJ:Wk Mc (uM (dP 0)):= .agg ⟨.refl _,.refl _,.nil _ _ _,.refl _,.refl _,.refl _,.refl _,.nil _ _ _,trivial⟩
theorem bB{μ:bM}{x:Int}{l:uy}(h:μ.l[x.toNat]? =some l)(hp:0≤x):aE μ x=l:=by unfold aE;rw[if_pos hp,h];rfl
theorem oL.bx{S:St}{g:MG}{w own:Nat}{o:aV}{full:Bool}(h:oL S g w own o full):own∈g.bx:=by
 have:=aaf h.l;simp[MG.bx,this]
theorem oL.ne{S:St}{g:MG}{w own:Nat}{o:aV}{full:Bool}(h:oL S g w own o full):own≠w:=fun e=>h.f (e▸h.bx)
theorem iO.D7{S S':St}{g:MG}{bx:Nat}(hx:bx∈g.bx)(own':Nat→Ow)(hb:∀i v,i≠bx→lk S.box i=some v→lk S'.box i=some v)(ha:∀i v,g.own i= .no→lk S.acc i=some v→lk S'.acc i=some v)(na:∀i,own' i≠ .no→g.own i≠ .no∨lk S.acc i=none):iO S S' g ⟨g.m,g.ls,g.θ,g.sn,own'⟩:=
 ⟨rfl,fun i v q1 q2=>hb i v (fun e=>q1 (e▸hx)) q2,ha,fun i q=> .inl q,na⟩
theorem kP{S S':St}{l N:Nat}{ids:List UInt8→Option Nat}{F:eZ}(h:BM S l N ids F)(e:S'.acc=S.acc):BM S' l N ids F:=h.mono fun c x _ q=>by rw[e];exact q
theorem s9{S:St}{own:Nat→Ow}{N x:Nat}{l:uy}{dr:DV}{az:Int}(h6:l.has≠0→∃d idd,dr= .mp d∧BM S d N idd l.D∧Ld own (.d x) d idd)(hs:az≠0):∃d idd,l.has=az→dr= .mp d∧BM S d N idd l.D∧Ld own (.d x) d idd:=by
 by_cases e:l.has=az
 ·obtain⟨d,idd,h⟩:=h6 (by rw[e];exact hs);exact⟨d,idd,fun _=>h⟩
 ·exact⟨0,fun _=>none,fun q=>absurd q e⟩
theorem jK{S:St}{l N:Nat}{ids:List UInt8→Option Nat}{F:eZ}(h:BM S l N ids F){n:List UInt8}{i:Nat}(hi:ids n=some i):∃f,F n=some f:=bF fun q=>by rw[(h.some_ n).2 q]at hi;cases hi
section
variable {w0:W0} {S:St} {g:MG} {N:Nat} {c:Cf} {μ:bM} {w own:Nat} {o:aV} {full:Bool}
theorem EI(hI:MI S g N c μ)(hw:oL S g w own o full)(hq:∀e,cJ μ o= .inl e→AD w0 S g N c μ e):ab Tryz.prog w0 72 [bC w] S (mX S g (N+1) c (cJ μ o)):=by
 obtain⟨l,hl,b,ids,r,dr,h1,h2,h3,h4,h5,h6⟩:=hI.uQ hw.l;have el:=bB hl hw.p;refine(Fz w0 hw.k h1 fun hh=>(hq 35 (by unfold cJ;rw[el];exact if_pos hh)).er hI).mono ?_;rintro d S' ⟨hh,rfl,rfl⟩;refine⟨dP 0,_,⟨g.m,g.ls,g.θ,g.sn,g.own⟩,by unfold cJ cE;rw[el];exact if_neg (fun q=>q hh),jJ,?_,?_⟩
 ·refine hI.D7 (by omega) hw.l g.own {l with has:=0} (fun i v q1 q2=>by show lk (up _ _ _) _=_;rw[ae (abx q1)];exact q2) (fun _ _ _=>rfl) (fun i v _ _ q=>q) ⟨b,ids,r,dr,bd h1,kP (h2.le (abp N)) rfl,h3,h4,h5,fun q=>absurd rfl q⟩ hI.mU
 ·exact .D7 hw.bx _ (fun i v q1 q2=>by show lk (up _ _ _) _=_;rw[ae (abx q1)];exact q2) (fun i v _ q=>q) fun i q=> .inl q
def BK(x:Nat)(own:Nat→Ow):Nat→Ow:=fun i=>match own i with
 | .d y=>if y=x then .b x else .d y
 |o=>o
theorem jk{x:Nat}{own:Nat→Ow}{i:Nat}(h:own i≠ .d x):BK x own i=own i:=by
 unfold BK;cases hi:own i <;>try rfl
 rename_i y;simp only;rw[if_neg];rintro rfl;exact h hi
theorem sC{x:Nat}{own:Nat→Ow}{i:Nat}(h:own i= .d x):BK x own i= .b x:=by unfold BK;rw[h];simp
theorem w5{x:Nat}{own:Nat→Ow}{i:Nat}:BK x own i≠ .no↔own i≠ .no:=by
 by_cases h:own i= .d x
 ·rw[sC h,h];simp
 ·rw[jk h]
theorem Pt(hI:MI S g N c μ)(hw:oL S g w own o full)(hq:∀e,eG μ o= .inl e→AD w0 S g N c μ e):ab Tryz.prog w0 71 [bC w] S (mX S g (N+1) c (eG μ o)):=by
 obtain⟨l,hl,b,ids,r,dr,h1,h2,h3,h4,h5,h6⟩:=hI.uQ hw.l;have el:=bB hl hw.p;obtain⟨d,idd,hd⟩:=s9 h6 hw.s;refine(Pl w0 hw.k h1 (fun hh=>(hd hh).1) (eq_false hw.ne) fun hh=>(hq 35 (by unfold eG;rw[el];exact if_pos hh)).er hI).mono ?_;rintro _ S' ⟨hh,rfl,rfl⟩;obtain⟨rfl,hB,hO⟩:=hd hh;refine⟨dP 0,_,⟨g.m,g.ls,g.θ,g.sn,BK o.level.toNat g.own⟩,by unfold eG cE;rw[el];exact if_neg (fun q=>q hh),jJ,?_,?_⟩
 ·refine hI.D7 (by omega) hw.l _ {l with has:=0,F:=l.D} (fun i v q1 q2=>by show lk (up _ _ _) _=_;rw[ae (abx q1)];exact q2) (fun i _ q=>jk fun e=>q (by rw[e];exact rfl)) (fun i v _ _ q=>q) ⟨d,idd,r,.mp d,bd h1,kP (hB.le (abp N)) rfl,⟨sC hO.1,fun n i q=>sC (hO.2 n i q)⟩,h4,(jk (by rw[h5];simp)).trans h5,fun q=>absurd rfl q⟩ fun i q=>hI.mU i (w5.1 q)
 ·exact .D7 hw.bx _ (fun i v q1 q2=>by show lk (up _ _ _) _=_;rw[ae (abx q1)];exact q2) (fun i v _ q=>q) fun i q=> .inl (w5.1 q)
theorem wK(hI:MI S g N c μ)(hw:oL S g w own o full){l:uy}(hl:μ.l[o.level.toNat]? =some l){b r d:Nat}{ids:List UInt8→Option Nat}(h1:lk S.box own=some (oC b (.acc r l.au.length) l.has (.mp d)))(h2:BM S b N ids l.F)(h3:Ld g.own (.b o.level.toNat) b ids)(h4:UL S r l.au)(h5:g.own r= .au o.level.toNat)
 {S':St} (hbx:S'.box=S.box) (own':Nat→Ow) {D:eZ} {idd:List UInt8→Option Nat} (hB:BM S' d (N+1) idd D) (hO:Ld own' (.d o.level.toNat) d idd)
 (hk:∀i v,g.own i≠ .d o.level.toNat→lk S.acc i=some v→lk S'.acc i=some v) (ho:∀i,g.own i≠ .no→own' i=g.own i) (hn:∀i,own' i≠ .no→lk S'.acc i≠none∧(g.own i≠ .no∨lk S.acc i=none)):MI S' ⟨g.m,g.ls,g.θ,g.sn,own'⟩ (N+1) c ⟨μ.l.set o.level.toNat {l with D:=D},μ.r,μ.sn⟩∧iO S S' g ⟨g.m,g.ls,g.θ,g.sn,own'⟩:=by
 refine⟨?_,?_⟩
 ·refine hI.D7 (by omega) hw.l own' {l with D:=D} (fun i v _ q2=>by rw[hbx];exact q2) (fun i q _=>ho i q) (fun i v _ q1 q2=>hk i v (fun e=>q1 (by rw[e];exact rfl)) q2) ⟨b,ids,r,.mp d,by rw[hbx];exact h1,(kM h2 h3 fun i v e q=>hk i v (by rw[e];simp) q).le (by omega),tS h3 fun i e=>(ho i (by rw[e];simp)).trans e,h4.to fun v=>hk r v (by rw[h5];simp),(ho r (by rw[h5];simp)).trans h5,fun _=>⟨d,idd,rfl,hB,hO⟩⟩ fun i q=>(hn i q).1
 ·exact .D7 hw.bx _ (fun i v _ q2=>by rw[hbx];exact q2) (fun i v e q=>hk i v (by rw[e];simp) q) fun i q=>(hn i q).2
theorem jy{S:St}{i j:Nat}{o:Ob}(h:lk S.acc j≠none):lk (up S.acc i o) j≠none:=gE h
theorem Yy(hI:MI S g N c μ)(hw:oL S g w own o full)(hq:∀e,mE μ o full= .inl e→AD w0 S g N c μ e):ab Tryz.prog w0 75 [bC w] S (mX S g (N+1) c (mE μ o full)):=by
 obtain⟨l,hl,b,ids,r,dr,h1,h2,h3,h4,h5,h6⟩:=hI.uQ hw.l;have el:=bB hl hw.p;obtain⟨d,idd,hd⟩:=s9 h6 hw.s;refine(Ww w0 hw.k h1 (fun hh=>⟨(hd hh).1,(hd hh).2.1⟩) (fun hh=>(hq 35 ?_).er hI) (fun hh hk=>(hq 34 ?_).er hI) (fun hh hk hi=>(hq 32 ?_).er hI) (fun hh hk hi hf=>(hq 37 ?_).er hI)).mono ?_
 ·unfold mE;rw[el];exact if_pos hh
 ·unfold mE cH;rw[el];simp only;rw[if_neg (fun q=>q hh),if_pos (fun q=>hk ⟨q.1.1,q.1.2,q.2⟩)]
 ·unfold mE cH;rw[el];simp only;rw[if_neg (fun q=>q hh),if_neg (fun q=>q ⟨⟨hk.1,hk.2.1⟩,hk.2.2⟩),((hd hh).2.1.some_ _).1 hi]
 ·obtain⟨i,hi⟩:=bF hi;obtain⟨f,hf'⟩:=jK (hd hh).2.1 hi;unfold mE cH;rw[el];simp only;rw[if_neg (fun q=>q hh),if_neg (fun q=>q ⟨⟨hk.1,hk.2.1⟩,hk.2.2⟩),hf',hf];simp
 ·rintro _ S' ⟨hh,hk,hf,i,es,cl,hi,g1,rfl,rfl⟩;obtain⟨rfl,hB,hO⟩:=hd hh;obtain⟨f,hf'⟩:=jK hB hi;have hB':=Hq hB hi hf' g1 o.key o.value;have oi:=hO.2 _ _ hi;obtain⟨k1,k2⟩:=wK hI hw hl h1 h2 h3 h4 h5 (S':=⟨S.box,up S.acc i _⟩) rfl g.own hB' hO (fun j v e q=>by show lk (up _ _ _) _=_;rw[ae (fun q=>e (by rw[←q];exact oi))];exact q) (fun _ _=>rfl) fun j q=>⟨jy (hI.mU j q),.inl q⟩;exact⟨dP 0,_,_,by unfold mE cH cE;rw[el];simp only;rw[if_neg (fun q=>q hh),if_neg (fun q=>q ⟨⟨hk.1,hk.2.1⟩,hk.2.2⟩),hf',hf];rfl,jJ,k1,k2⟩
theorem VP(hI:MI S g N c μ)(hw:oL S g w own o full)(hq:∀e,iq μ o full= .inl e→AD w0 S g N c μ e):ab Tryz.prog w0 74 [bC w] S (mX S g (N+1) c (iq μ o full)):=by
 obtain⟨l,hl,b,ids,r,dr,h1,h2,h3,h4,h5,h6⟩:=hI.uQ hw.l;have el:=bB hl hw.p;obtain⟨d,idd,hd⟩:=s9 h6 hw.s;refine(WR w0 hw.k h1 (fun hh=>⟨(hd hh).1,(hd hh).2.1⟩) (fun hh=>(hq 35 ?_).er hI) (fun hh hi=>(hq 32 ?_).er hI) (fun hh hi hf=>(hq 37 ?_).er hI)).mono ?_
 ·unfold iq;rw[el];exact if_pos hh
 ·unfold iq;rw[el];simp only;rw[if_neg (fun q=>q hh),((hd hh).2.1.some_ _).1 hi];rfl
 ·obtain⟨i,hi⟩:=bF hi;obtain⟨f,hf'⟩:=jK (hd hh).2.1 hi;unfold iq;rw[el];simp only;rw[if_neg (fun q=>q hh),hf',hf];rfl
 ·rintro _ S' ⟨hh,hf,i,es,cl,hi,g1,rfl,rfl⟩;obtain⟨rfl,hB,hO⟩:=hd hh;obtain⟨f,hf'⟩:=jK hB hi;have hB':=(PE hB g1 o.bucket).le (abp N)
  obtain⟨k1,k2⟩:=wK hI hw hl h1 h2 h3 h4 h5 (S':=⟨S.box,up S.acc d _⟩) rfl g.own hB' ⟨hO.1,fun n j q=>by
   simp only at q;by_cases e:n=o.bucket
   ·rw[if_pos e]at q;cases q
   ·rw[if_neg e]at q;exact hO.2 n j q⟩ (fun j v e q=>by show lk (up _ _ _) _=_;rw[ae (fun q=>e (by rw[←q];exact hO.1))];exact q) (fun _ _=>rfl) fun j q=>⟨jy (hI.mU j q),.inl q⟩
  exact⟨dP 0,_,_,by unfold iq cE;rw[el];simp only;rw[if_neg (fun q=>q hh),hf',hf];rfl,jJ,k1,k2⟩
theorem NH(hI:MI S g N c μ)(hw:oL S g w own o full)(hq:∀e,cP μ o full= .inl e→AD w0 S g N c μ e):ab Tryz.prog w0 76 [bC w] S (mX S g (N+1) c (cP μ o full)):=by
 obtain⟨l,hl,b,ids,r,dr,h1,h2,h3,h4,h5,h6⟩:=hI.uQ hw.l;have el:=bB hl hw.p;obtain⟨d,idd,hd⟩:=s9 h6 hw.s;refine(MR w0 hw.k h1 (fun hh=>⟨(hd hh).1,(hd hh).2.1⟩) (fun hh=>(hq 35 ?_).er hI) (fun hh hi=>(hq 32 ?_).er hI) (fun hh f hf hv=>(hq 33 ?_).er hI) (fun hh f v hf hv hfl=>(hq 37 ?_).er hI)).mono ?_
 ·unfold cP;rw[el];exact if_pos hh
 ·unfold cP;rw[el];simp only;rw[if_neg (fun q=>q hh),((hd hh).2.1.some_ _).1 hi]
 ·unfold cP;rw[el];simp only;rw[if_neg (fun q=>q hh),hf];simp only;rw[hv];rfl
 ·unfold cP;rw[el];simp only;rw[if_neg (fun q=>q hh),hf];simp only;rw[hv,hfl];rfl
 ·rintro _ S' ⟨hh,hfl,i,es,cl,f,v,hi,hf,hv,g1,rfl,rfl⟩;obtain⟨rfl,hB,hO⟩:=hd hh;have hB':=(Er hB hi hf g1 o.key).le (abp N);have oi:=hO.2 _ _ hi;obtain⟨k1,k2⟩:=wK hI hw hl h1 h2 h3 h4 h5 (S':=⟨S.box,up S.acc i _⟩) rfl g.own hB' hO (fun j v e q=>by show lk (up _ _ _) _=_;rw[ae (fun q=>e (by rw[←q];exact oi))];exact q) (fun _ _=>rfl) fun j q=>⟨jy (hI.mU j q),.inl q⟩;exact⟨dP 0,_,_,by unfold cP cE;rw[el];simp only;rw[if_neg (fun q=>q hh),hf];simp only;rw[hv,hfl];rfl,jJ,k1,k2⟩
theorem Wm(hI:MI S g N c μ)(hw:oL S g w own o full)(hq:∀e,gY μ o full= .inl e→AD w0 S g N c μ e):ab Tryz.prog w0 73 [bC w] S (mX S g (N+1) c (gY μ o full)):=by
 obtain⟨l,hl,b,ids,r,dr,h1,h2,h3,h4,h5,h6⟩:=hI.uQ hw.l;have el:=bB hl hw.p;obtain⟨d,idd,hd⟩:=s9 h6 hw.s;refine(Vz w0 hw.k h1 (fun hh=>⟨(hd hh).1,(hd hh).2.1⟩) (fun hh=>(hq 35 ?_).er hI) (fun hh hk=>(hq 34 ?_).er hI) (fun hh hk hi=>(hq 38 ?_).er hI) (fun hh hk hi hf=>(hq 37 ?_).er hI)).mono ?_
 ·unfold gY;rw[el];exact if_pos hh
 ·unfold gY cH;rw[el];simp only;rw[if_neg (fun q=>q hh),if_pos hk]
 ·obtain⟨i,hi⟩:=bF hi;obtain⟨f,hf'⟩:=jK (hd hh).2.1 hi;unfold gY cH;rw[el];simp only;rw[if_neg (fun q=>q hh),if_neg (fun q=>q hk),hf'];rfl
 ·unfold gY cH;rw[el];simp only;rw[if_neg (fun q=>q hh),if_neg (fun q=>q hk),((hd hh).2.1.some_ _).1 hi,hf];rfl
 ·rintro _ S' ⟨hh,hk,hf,hi,ln,es,cl,g1,rfl,rfl⟩;obtain⟨rfl,hB,hO⟩:=hd hh;have hln:=ao ln;have hB':=MJ hB g1 o.bucket hln;have hno:g.own ln.n= .no:=abe.1 fun q=>hI.mU _ q hln
  obtain⟨k1,k2⟩:=wK hI hw hl h1 h2 h3 h4 h5 (S':=⟨S.box,(ln.n,.xo (.mp .str [] 0))::up S.acc d _⟩) rfl (fun i=>if i=ln.n then .d o.level.toNat else g.own i) hB' ⟨by
   simp only;rw[if_neg (fun e=>by rw[e,hln]at g1;cases g1)];exact hO.1,fun n j q=>by
   simp only at q ⊢;by_cases e:n=o.bucket
   ·rw[if_pos e]at q;cases q;rw[if_pos rfl]
   ·rw[if_neg e]at q;split
    ·rfl
    ·exact hO.2 n j q⟩ (fun j v e q=>by
     show lk (_::_) _=_;simp only[lk];rw[if_neg (fun r=>by rw[←r,hln]at q;cases q),ae (fun q=>e (by rw[←q];exact hO.1))];exact q) (fun i q=>by
     try simp only
     rw[if_neg (fun e=>q (by rw[e];exact hno))]) fun j q=>by
    by_cases e:j=ln.n
    ·refine⟨?_,.inr (by rw[e];exact hln)⟩;show lk (_::_) _≠none;rw[e];simp[lk]
    ·try simp only at q
     rw[if_neg e]at q;refine⟨?_,.inl q⟩;show lk (_::_) _≠none;simp only[lk];rw[if_neg (fun r=>e r.symm)];exact jy (hI.mU j q)
  refine⟨dP 0,_,_,?_,jJ,k1,k2⟩;unfold gY cH cE;rw[el];simp only;rw[if_neg (fun q=>q hh),if_neg (fun q=>q hk),(hB.some_ _).1 hi,hf];rfl
theorem Sx(hI:MI S g N c μ)(hN:N≤1048576)(hw:oL S g w own o full)(hq:∀e,ie μ o= .inl e→AD w0 S g N c μ e):ab Tryz.prog w0 70 [bC w] S (mX S g (N+1) c (ie μ o)):=by
 obtain⟨l,hl,b,ids,r,dr,h1,h2,h3,h4,h5,h6⟩:=hI.uQ hw.l;have el:=bB hl hw.p;refine(RR w0 hw.k h1 (eq_false hw.ne) h2 hN fun hh=>(hq 36 (by unfold ie;rw[el];exact if_pos hh)).er hI).mono ?_;rintro _ S' ⟨h0,d,idd,rfl,hB,hbx,hac,hd0,hid⟩;have hold:∀i,g.own i≠ .no→∃v,lk S.acc i=some v:=fun i q=>bF (hI.mU i q)
 have hE:∃own':Nat→Ow,(∀i,lk S.acc i=none→(i=d∨∃n,idd n=some i)→own' i= .d o.level.toNat)∧(∀i,g.own i≠ .no→own' i=g.own i)∧∀i,own' i≠ .no→g.own i≠ .no∨(lk S.acc i=none∧(i=d∨∃n,idd n=some i)):=by
  classical
  refine⟨fun i=>if lk S.acc i=none∧(i=d∨∃n,idd n=some i)then .d o.level.toNat else g.own i,fun i q1 q2=>if_pos ⟨q1,q2⟩,fun i q=>if_neg fun r=>?_,fun i q=>?_⟩
  ·exact hI.mU i q r.1
  ·simp only at q;split at q
   ·rename_i q2;exact .inr q2
   ·exact .inl q
 obtain⟨own',o1,o2,o3⟩:=hE;refine⟨dP 0,_,⟨g.m,g.ls,g.θ,g.sn,own'⟩,by unfold ie cE;rw[el];exact if_neg (fun q=>q h0),jJ,?_,?_⟩
 ·refine hI.D7 (by omega) hw.l own' {l with has:=o.az,D:=l.F} (fun i v q1 q2=>by rw[hbx,ae (abx q1)];exact q2) (fun i q _=>o2 i q) (fun i v _ _ q=>hac i v q) ⟨b,ids,r,.mp d,by rw[hbx];exact bd h1,(h2.mono fun i v _ q=>hac i v q).le (by omega),tS h3 fun i e=>(o2 i (by rw[e];simp)).trans e,h4.to fun v=>hac r v,(o2 r (by rw[h5];simp)).trans h5,fun _=>⟨d,idd,rfl,hB.le (by omega),o1 d hd0 (.inl rfl),fun n i q=>o1 i (hid n i q) (.inr ⟨n,q⟩)⟩⟩ fun i q=>?_;rcases o3 i q with q|⟨q1,rfl|⟨n,q2⟩⟩
  ·obtain⟨v,hv⟩:=hold i q;rw[hac i v hv];simp
  ·exact hB.lk
  ·obtain⟨f,hf⟩:=jK hB q2;exact(hB.low n i f q2 hf).lk
 ·exact .D7 hw.bx _ (fun i v q1 q2=>by rw[hbx,ae (abx q1)];exact q2) (fun i v _ q=>hac i v q) fun i q=>(o3 i q).imp id fun q=>q.1
end
end Go.Proofs.YtoepfmhnapedoaaGreatDoor
namespace Go.Proofs.YtoepfmhnapedoaaGreatDoor
open Aml Go Rn Lat Grs
theorem MI.UE{S S':St}{g:MG}{N M:Nat}{c:Cf}{μ:bM}(h:MI S g N c μ)(hNM:N≤M){θ':fI}{r':List RH}(hT:TI S' θ' r')(hF:yi S S' g.θ θ'):∃own',MI S' ⟨g.m,g.ls,θ',g.sn,own'⟩ M c ⟨μ.l,r',μ.sn⟩∧iO S S' g ⟨g.m,g.ls,θ',g.sn,own'⟩∧(∀i,g.own i≠ .tb→g.own i≠ .no→own' i=g.own i)∧∀i,g.own i= .tb∨g.own i= .no→own' i= .tb∨own' i= .no:=by
 classical
 have hnt:∀i,g.own i≠ .tb→g.own i≠ .no→i∉θ'.ax:=fun i q1 q2 q3=>by
  rcases hF.na i q3 with q|q
  ·exact q1 (h.xQ i q)
  ·exact h.mU i q2 q
 have hnt0:∀i,g.own i≠ .tb→i∉g.θ.ax:=fun i q1 q2=>q1 (h.xQ i q2);have hac:∀i v,g.own i≠ .tb→lk S.acc i=some v→lk S'.acc i=some v:=fun i v q=>hF.acc i v (hnt0 i q);have hb:∀i v,i∈g.m::g.ls→lk S.box i=some v→lk S'.box i=some v:=fun i v q=>hF.box i v fun r=>h.Cg i r q;let own':Nat→Ow:=fun i=>if i∈θ'.ax then .tb else if g.own i= .tb then .no else g.own i
 have ho:∀i,g.own i≠ .tb→g.own i≠ .no→own' i=g.own i:=fun i q1 q2=>by
  show(if _ then _ else _)=_;rw[if_neg (hnt i q1 q2),if_neg q1]
 have hno:∀i,own' i≠ .no→i∈θ'.ax∨(i∉θ'.ax∧g.own i≠ .tb∧g.own i≠ .no):=fun i q=>by
  have q:(if i∈θ'.ax then Ow.tb else if g.own i= .tb then .no else g.own i)≠ .no:=q;by_cases e:i∈θ'.ax
  ·exact .inl e
  ·rw[if_neg e]at q;by_cases e2:g.own i= .tb
   ·rw[if_pos e2]at q;exact absurd rfl q
   ·rw[if_neg e2]at q;exact .inr ⟨e,e2,q⟩
 refine⟨own',⟨?_,h.up,h.len,h.nd,?_,?_,hT,?_,?_,?_,?_⟩,⟨rfl,?_,?_,?_,?_⟩,ho,?_⟩
 ·show lk S'.box g.m=some (HL c g.ls θ'.t g.sn);rw[hF.t];exact hb _ _ (aaQ ..) h.md
 ·intro i hi q;rcases hF.nb i hi with r|r
  ·exact h.Cg i r q
  ·exact h.ny (i:=i) (by unfold MG.bx;exact acp _ q) r
 ·intro x bx l h1 h2;refine wM (h.lb x bx l h1 h2) hNM (fun v q=>hb bx v (aat _ (aaf h1)) q) (fun i q=>ho i ?_ ?_) fun i v q=>hac i v ?_
  ·intro r;rw[r]at q;exact q
  ·intro r;rw[r]at q;exact q
  ·intro r;rw[r]at q;exact q
 ·intro i hi;show(if _ then _ else _)=_;rw[if_pos hi]
 ·exact wa h.Fy hNM (fun i e=>(ho i (by rw[e];simp) (by rw[e];simp)).trans e) (fun i v e=>hac i v (by rw[e];simp)) fun v=>hac _ v (by rw[h.oO];simp)
 ·exact(ho _ (by rw[h.oO];simp) (by rw[h.oO];simp)).trans h.oO
 ·intro i q;rcases hno i q with r|⟨_,r1,r2⟩
  ·exact hT.xn i r
  ·obtain⟨v,hv⟩:=bF (h.mU i r2);rw[hac i v r1 hv];simp
 ·intro i v q;exact hF.box i v fun r=>q (by unfold MG.bx;exact ac0 _ r)
 ·intro i v q;exact hac i v (by rw[q];simp)
 ·intro i q;unfold MG.bx at q ⊢;rcases aaD.1 q with r|r
  ·exact .inl (acp _ r)
  ·exact(hF.nb i r).imp (fun q=>ac0 _ q) id
 ·intro i q;rcases hno i q with r|⟨_,_,r⟩
  ·exact(hF.na i r).imp (fun q=>by rw[h.xQ i q];simp) id
  ·exact .inl r
 ·intro i q;show(if _ then _ else _)=_∨(if _ then _ else _)=_;by_cases e:i∈θ'.ax
  ·rw[if_pos e];exact .inl rfl
  ·rw[if_neg e];right;rcases q with q|q
   ·rw[if_pos q]
   ·rw[if_neg (by rw[q];simp),q]
section
variable {w0:W0} {S:St} {g:MG} {N:Nat} {c:Cf} {μ:bM} {w own:Nat} {o:aV} {full:Bool}
theorem Sg(hI:MI S g N c μ)(hw:oL S g w own o full):ab Tryz.prog w0 69 [bC w] S (mX S g (N+1) c (jI μ o)):=by
 obtain⟨l,hl,b,ids,r,dr,h1,h2,h3,h4,h5,h6⟩:=hI.uQ hw.l;have el:=bB hl hw.p;have hm:own≠g.m:=fun e=>(aaV.1 hI.nd).1 (by rw[←e];exact aaf hw.l);have hθ:own∉g.θ.bx:=fun q=>hI.Cg own q (aat _ (aaf hw.l));refine(SF w0 hw.k h1 hI.md hI.tb (eq_false hw.ne) (eq_false hm) hθ).mono ?_;rintro _ S' ⟨rfl,hT,hF⟩
 have k1:=hI.D7 (S':=⟨up S.box own (oC b (.acc r l.au.length) (if l.has=o.az then 0 else l.has) dr),S.acc⟩) (abp N) hw.l g.own {l with has:=if l.has=o.az then 0 else l.has} (fun i v q1 q2=>by show lk (up _ _ _) _=_;rw[ae (abx q1)];exact q2) (fun _ _ _=>rfl) (fun i v _ _ q=>q) ⟨b,ids,r,dr,bd h1,kP (h2.le (abp N)) rfl,h3,h4,h5,fun q=>by
  simp only at q;split at q
  ·exact absurd rfl q
  ·obtain⟨d,idd,q1,q2,q3⟩:=h6 q;exact⟨d,idd,q1,kP (q2.le (abp N)) rfl,q3⟩⟩ hI.mU
 have k2:iO S ⟨up S.box own (oC b (.acc r l.au.length) (if l.has=o.az then 0 else l.has) dr),S.acc⟩ g ⟨g.m,g.ls,g.θ,g.sn,g.own⟩:= .D7 hw.bx _ (fun i v q1 q2=>by show lk (up _ _ _) _=_;rw[ae (abx q1)];exact q2) (fun i v _ q=>q) fun i q=> .inl q;obtain⟨own',k3,k4,_,_⟩:=k1.UE (aar _) hT hF;exact⟨dP 0,_,_,by unfold jI;rw[el],jJ,k3,k2.trans k4⟩
end
end Go.Proofs.YtoepfmhnapedoaaGreatDoor
namespace Go.Proofs.YtoepfmhnapedoaaGreatDoor
open Aml Go Rn Lat Grs
theorem T9(w0:W0)(l:List Int)(s:Int)(hl:l.length≤4611686018427387904)(S:St):ab Tryz.prog w0 182 [dL l,dI s] S (fun d S'=>∃i:Int,d=dI i∧(0≤i↔s∈l)∧S'=S):=by
 refine lO [] mx Tryz.func182 rfl rfl (by kernel_rfl) ?_;refine @aa _ (ah @Tryz.ntmps182 ?_);refine aQ [] l.length [0,1,7,8] (fun a=>[(8,dI a)]) (fun _=>S) (fun a=>s∉l.take a) mx (by kernel_rfl) ?_ ?_
 ·refine @aa _ (av ?_);exact aca
 ·intro a ha hA;refine @aa _ (av ?_);refine⟨fun hla=>⟨hla,fun x hx=>⟨fun e=>⟨a,rfl,⟨fun _=>by rw[e];exact aaf hx,fun _=>by omega⟩⟩,fun e=>⟨hla,fun hm=>?_,aJ (by omega)⟩⟩⟩,fun hge=>?_⟩
  ·rw[abY,hx]at hm;rcases aaD.1 hm with hm|hm
   ·exact hA hm
   ·simp only[ac4,aau]at hm;exact e hm
  ·rw[abf (by omega)]at hA;exact⟨-1,rfl,⟨fun h=>by omega,fun h=>absurd h hA⟩⟩
theorem F7(w0:W0)(l:List Int)(s:Int)(hl:l.length≤4611686018427387904)(S:St):ab Tryz.prog w0 154 [dL l,dI s] S (fun d S'=>d=dB (decide (s∈l))∧S'=S):=by
 refine bI [] mx Tryz.func154 rfl rfl (by kernel_rfl) ?_;refine @aa _ (ah @Tryz.ntmps154 ?_);refine aw (T9 _ l s hl _) ?_;rintro _ _ ⟨i,rfl,h,rfl⟩;refine @aa _ (av ?_);exact h
theorem SE(w0:W0)(l:List G)(g:G)(hl:l.length≤4611686018427387904)(S:St):ab Tryz.prog w0 186 [gL l,gD g] S (fun d S'=>∃i:Int,d=dI i∧(0≤i↔g∈l)∧S'=S):=by
 refine mh [] mx Tryz.func186 rfl rfl (by kernel_rfl) ?_;refine @aa _ (ah @Tryz.ntmps186 ?_);intro b;refine aQ [] l.length [0,3,7,8] (fun a=>[(8,dI a)]) (fun _=>⟨(b.n,[dI g.a,dI g.f,dI g.t])::S.box,S.acc⟩) (fun a=>g∉l.take a) mx (by kernel_rfl) ?_ ?_
 ·refine @aa _ (av ?_);exact aca
 ·intro a ha hA;refine @aa _ (av ?_)
  have key:∀x:G,(decide (g.a=x.a)&&decide (g.f=x.f)&&decide (g.t=x.t))=decide (g=x):=fun x=>by
   rw[Bool.eq_iff_iff];simp only[aak,decide_eq_true_eq];obtain⟨a,f,t⟩:=x;obtain⟨a',f',t'⟩:=g;simp only[G.mk.injEq,and_assoc]
  refine⟨fun hla=>⟨hla,fun x hx=>⟨fun q=>?_,fun q=>⟨hla,fun hm=>?_,aJ (by omega)⟩⟩⟩,fun hge=>?_⟩
  ·rw[key,decide_eq_true_eq]at q;exact⟨_,_,.refl _,(Sub.refl _).aN,a,rfl,⟨fun _=>by rw[q];exact aaf hx,fun _=>by omega⟩,rfl⟩
  ·rw[key,decide_eq_false_iff_not]at q;rw[abY,hx]at hm;rcases aaD.1 hm with hm|hm
   ·exact hA hm
   ·simp only[ac4,aau]at hm;exact q hm
  ·rw[abf (by omega)]at hA;exact⟨_,_,.refl _,(Sub.refl _).aN, -1,rfl,⟨fun h=>by omega,fun h=>absurd h hA⟩,rfl⟩
theorem Vi(w0:W0)(l:List G)(g:G)(hl:l.length≤4611686018427387904)(S:St):ab Tryz.prog w0 133 [gL l,gD g] S (fun d S'=>d=dB (decide (g∈l))∧S'=S):=by
 have hc:∀S,ab Tryz.prog w0 161 [gL l,gD g] S (fun d S'=>d=dB (decide (g∈l))∧S'=S):=fun S=>by
  refine bI [] mx Tryz.func161 rfl rfl (by kernel_rfl) ?_;refine @aa _ (ah @Tryz.ntmps161 ?_);intro b;refine aw (SE _ l g hl _) ?_;rintro _ _ ⟨i,rfl,h,rfl⟩;refine @aa _ (av ?_);exact h
 refine bI [] mx Tryz.func133 rfl rfl (by kernel_rfl) ?_;refine @aa _ (ah @Tryz.ntmps133 ?_)
 try intro b
 refine aq (hc _) ?_;exact @aa _ bY
theorem TM(a b:Nat)(h:a+b<2^62):IntKind.i64.wrap ((a:Int)+(b:Int))=((a+b:Nat):Int):=by rw[nJ (by omega) (by omega)];omega
def j0{α:Type}(rows:List (List α)):List α:=rows.flatten
theorem oP{α:Type}{rows:List (List α)}{k:Nat}{a:List α}(h:rows[k]? =some a):j0 (rows.take (k+1))=j0 (rows.take k)++a:=by
 unfold j0;rw[abY,h];simp
theorem xt{α:Type}(rows:List (List α))(k:Nat):(j0 (rows.take k)).length≤(j0 rows).length:=by
 have:j0 rows=j0 (rows.take k)++j0 (rows.drop k):=by
  unfold j0;rw[←List.flatten_append,adf]
 rw[this];simp
theorem eT{P:Program}{w0:W0}{f:FuncId}{args:List DV}{S:St}{r:DV}(h1:ab P w0 f args S (fun d S'=>pM S' d fun d S''=>Wk d r∧Aml.Sub S S'')):ab P w0 f args S (fun d S'=>d=r∧S'=S):=by
 intro g vs w k1 k2;refine(h1 g vs w k1 k2).mono ?_;rintro e w' (⟨v,g',d,S',q1,q2,q3,q4,q5⟩|hp)
 ·obtain⟨g2,d',S2,p1,p2,p3,p4,p5⟩:=Dp q3 q4 q5;exact .inl ⟨v,g2,r,S,q1,q2.trans p1,p2.forget p5.box p5.acc,p4 _ _ p3,rfl,rfl⟩
 ·exact .inr hp
theorem Rx(w0:W0)(n:Int)(S:St)(h0:0≤n)(h1:n≤109951162777):ab Tryz.prog w0 152 [.sl 0 true [],dI n] S (fun d S'=>∃l:FN S.acc,d= .acc l.n 0∧S'=⟨S.box,(l.n,.arr 3 [])::S.acc⟩):=by
 refine vd (K':=fun d S'=>(d= .sl 0 true []∧S'=S)∨∃l:FN S.acc,d= .acc l.n 0∧S'=⟨S.box,(l.n,.arr 3 [])::S.acc⟩) ?_ 3 (by omega) ?_
 ·refine lO [] mx Tryz.func152 rfl rfl (by kernel_rfl) ?_;refine @aa _ (ah @Tryz.ntmps152 ?_);have e1:IntKind.i64.wrap (0-0)=0:=nJ (by omega) (by omega);rw[e1,Int.sub_zero,nJ (by omega) (by omega)];refine⟨fun h=>by omega,fun h h2=>⟨by omega,by omega,by omega,fun l=> .inl ⟨⟨_,_,_,rfl⟩,by simp,fun l'=>⟨⟨l'.n,l'.h.2.2⟩,rfl,rfl⟩⟩⟩⟩
 ·rintro d S' (⟨rfl,rfl⟩|h)
  ·exact .inr ⟨⟨0,rfl⟩,fun l hl=>⟨⟨l,hl⟩,rfl,rfl⟩⟩
  ·exact .inl h
theorem LC(w0:W0)(rows:List (List dA))(S:St)(h0:rows.length≤1099511627776)(h1:(j0 rows).length≤104857600):
 ab Tryz.prog w0 123 [.sl 1 false (rows.map dD)] S (fun d S'=>d=dD (j0 rows)∧S'=S):=by
 refine bI [] mx Tryz.func123 rfl rfl (by kernel_rfl) ?_;refine @aa _ (ah @Tryz.ntmps123 ?_);refine aQ [] rows.length [0,3,9,10,11] (fun k=>[(3,dI (j0 (rows.take k)).length),(11,dI k)]) (fun _=>S) (fun k=>True) mx (by kernel_rfl) ?_ ?_
 ·refine @aa _ (av ?_);simp[j0]
 ·intro k hk _;refine @aa _ (av ?_);refine⟨fun hlt=>⟨hlt,fun a ha=>?_⟩,fun hge=>?_⟩
  ·have h2:=oP ha;have h3:=xt rows (k+1);rw[h2,aaK]at h3;rw[nJ (by omega) (by omega)];refine⟨fun h=>by omega,fun h=>⟨hlt,?_,nJ (by omega) (by omega)⟩⟩;rw[h2,aaK];omega
  ·rw[abf (by omega)];refine aw (Rx w0 (j0 rows).length S (by omega) (by omega)) ?_;rintro d S' ⟨l,rfl,rfl⟩;refine @aa _ (av ?_);refine aQ [] rows.length [6,25,26,27] (fun k=>[(6,.acc l.n (j0 (rows.take k)).length),(27,dI k)]) (fun k=>⟨S.box,(l.n,.arr 3 ((j0 (rows.take k)).map oR))::S.acc⟩) (fun k=>True) mx (by kernel_rfl) ?_ ?_
   ·refine @aa _ (av ?_);simp[j0,Wk.refl,Sub.refl]
   ·intro k hk _;refine @aa _ (av ?_);refine⟨fun hlt=>⟨hlt,fun a ha=>?_⟩,fun hge=>?_⟩
    ·have h2:=oP ha;have h3:=xt rows (k+1);rw[h2,aaK]at h3;refine⟨by omega,by unfold maxLen;omega,hlt,⟨?_,nJ (by omega) (by omega)⟩,?_⟩
     ·rw[h2,aaK];exact .refl _
     ·rw[h2,aaZ];exact .refl _
    ·rw[abf (by omega)];exact .full _ _ _
theorem N0(w0:W0)(l:List dA)(S:St)(h0:l.length≤1048576):ab Tryz.prog w0 156 [dD l] S fun d S'=>d=dD l∧S'=S:=by
 refine eT (ab.mono (K:=fun d S'=>∃b:FN S.acc,d= .acc b.n (l.map oR).length∧S'=⟨S.box,(b.n,.arr 3 (l.map oR))::S.acc⟩) ?_ ?_)
 ·refine AX 3 (by omega) ?_;refine lO [] mx Tryz.func156 rfl rfl (by kernel_rfl) ?_;refine @aa _ (ah @Tryz.ntmps156 ?_);intro b hb;refine⟨fun h1=> .inl ⟨abF fun hn=>?_,0,rfl⟩,fun h1=>⟨by omega,by unfold maxLen;omega,fun c=> .inr ⟨c,rfl,rfl⟩⟩⟩;rw[hb hn]at h1;cases h1
 ·rintro d S' ⟨b,rfl,rfl⟩;exact @aa _ bY
theorem DA(w0:W0)(l:List Cs)(S:St)(h0:l.length≤1048576):ab Tryz.prog w0 132 [.sl 6 false (l.map uA)] S fun d S'=>d= .sl 6 false (l.map uA)∧S'=S:=by
 refine eT (ab.mono (K:=fun d S'=>∃b:FN S.acc,d= .acc b.n (l.map uA).length∧S'=⟨S.box,(b.n,.arr 6 (l.map uA))::S.acc⟩) ?_ ?_)
 ·refine AX 6 (by omega) ?_;refine lO [] mx Tryz.func132 rfl rfl (by kernel_rfl) ?_;refine @aa _ (ah @Tryz.ntmps132 ?_);intro b hb;refine⟨fun h1=> .inl ⟨abF fun hn=>?_,0,rfl⟩,fun h1=>⟨by omega,by unfold maxLen;omega,fun c=> .inr ⟨c,rfl,rfl⟩⟩⟩;rw[hb hn]at h1;cases h1
 ·rintro d S' ⟨b,rfl,rfl⟩;exact @aa _ bY
theorem P8(w0:W0){S:St}{g:MG}{N:Nat}{c:Cf}{μ:bM}{w own:Nat}{o:aV}{full:Bool}(hI:MI S g N c μ)(hw:oL S g w own o full)(hs:o.snap≠0→∃Fs,μ.sn o.level o.az o.snap=some Fs∧Fs.length=μ.l.length){x:Nat}(hx:x<μ.l.length):
 ∃m ids,BM S m N ids (fO μ o x)∧∀T,Has S T→ab Tryz.prog w0 155 [bC w,dI x] T (fun d S'=>d= .mp m∧S'=T):=by
 have hbx:g.ls[x]? =some (g.ls[x]'(by rw[hI.len];exact hx)):=aac _;generalize g.ls[x]'(by rw[hI.len];exact hx)=bx at hbx;have hlen:=hI.len;obtain⟨l,hl,b,ids,r,dr,h1,h2,h3,h4,h5,h6⟩:=hI.uQ hbx;by_cases h0:o.snap=0
 case neg=>
  obtain⟨Fs,hF,hFl⟩:=hs h0;obtain⟨es,cl,s1,s2⟩:=hI.Fy;obtain⟨bs,s3,s4,s5⟩:=(s2 o.level o.az o.snap).2 Fs hF;have hbs:bs[x]? =some (bs[x]'(by omega)):=aac _;have hFs:Fs[x]? =some (Fs[x]'(by omega)):=aac _;generalize bs[x]'(by omega)=bj at hbs;generalize Fs[x]'(by omega)=Fj at hFs;obtain⟨idj,q1,q2⟩:=s5 x bj Fj hbs hFs;have e:fO μ o x=Fj:=by unfold fO;rw[if_pos h0,hF,acL,hFs];rfl
  rw[e];refine⟨bj,idj,q1,fun T hT=>?_⟩;have t1:=hT.box _ _ hw.k;have t2:=hT.box _ _ hI.md;have t3:=hT.acc _ _ s1;have e0:(o.snap=0)=False:=eq_false h0;unfold L7 at s3;refine bI [] mx Tryz.func155 rfl rfl (by kernel_rfl) ?_;refine @aa _ (aZ @Tryz.ntmps155 @t1 @t2 @e0 ?_);refine aR (fL w0 t1) (@aa _ (jL @t1 @t2 @t3 @s3 @e0 @hbs ?_));have hxb:x<bs.length:=(aad.1 hbs).1
  first|exact hxb|exact⟨hxb,hxb,.refl _⟩|skip
 have hs0:fO μ o x=if(x:Int)=o.level∧(aE μ o.level).has=o.az then(aE μ o.level).D else(aE μ x).F:=by unfold fO;rw[if_neg (fun q=>q h0)]
 have elx:aE μ (x:Int)=l:=bB (by simpa using hl) (by omega);by_cases hc:(x:Int)=o.level∧(aE μ o.level).has=o.az
 ·rw[hs0,if_pos hc];obtain⟨hc1,hc2⟩:=hc;rw[←hc1]at hc2 ⊢;rw[elx]at hc2 ⊢
  have hox:own=bx:=by
   have:=hw.l;rw[←hc1,acI,hbx]at this;exact(abR this).symm
  subst hox;obtain⟨d,idd,rfl,q2,q3⟩:=h6 (by rw[hc2];exact hw.s);refine⟨d,idd,q2,fun T hT=>?_⟩;have t1:=hT.box _ _ hw.k;have t2:=hT.box _ _ hI.md;have t3:=hT.box _ _ h1;have e0:(o.snap=0)=True:=eq_true h0;have e1:((x:Int)=o.level)=True:=eq_true hc1;refine bI [] mx Tryz.func155 rfl rfl (by kernel_rfl) ?_;refine @aa _ (eQ @Tryz.ntmps155 @t1 @t2 @e0 @e1 ?_);refine aq (wu w0 t1 t3) ?_;rw[decide_eq_true hc2];exact @aa _ (di @t1 @t3)
 ·rw[hs0,if_neg hc,elx];refine⟨b,ids,h2,fun T hT=>?_⟩;have t1:=hT.box _ _ hw.k;have t2:=hT.box _ _ hI.md;have t3:=hT.box _ _ h1;have hlx:x<g.ls.length:=by omega
  have e0:(o.snap=0)=True:=eq_true h0;by_cases hc1:(x:Int)=o.level
  ·have hox:own=bx:=by
    have:=hw.l;rw[←hc1,acI,hbx]at this;exact(abR this).symm
   subst hox;have hc2:¬l.has=o.az:=fun q=>hc ⟨hc1,by rw[←hc1,elx];exact q⟩;have e1:((x:Int)=o.level)=True:=eq_true hc1;refine bI [] mx Tryz.func155 rfl rfl (by kernel_rfl) ?_;refine @aa _ (eQ @Tryz.ntmps155 @t1 @t2 @e0 @e1 ?_);refine aq (wu w0 t1 t3) ?_;rw[decide_eq_false hc2];refine @aa _ (aZ @t1 @t2 @t3 @hbx ?_)
   first|exact hlx|exact⟨hlx,hlx,.refl _⟩|skip
  ·have e1:((x:Int)=o.level)=False:=eq_false hc1;refine bI [] mx Tryz.func155 rfl rfl (by kernel_rfl) ?_;refine @aa _ (kH @Tryz.ntmps155 @t1 @t2 @e0 @e1 @hbx @t3 ?_)
   first|exact hlx|exact⟨hlx,hlx,.refl _⟩|skip
theorem FB(w1:W0)(l b:Nat)(X:List (List UInt8)→St)(hb:∀pre,lk (X pre).box b=some [.v (.map none)]):
 ∀T,Has (X []) T→ab Tryz.prog w1 100 [.v (.func (.yield l) #[] #[]),.v (.pointer (some ⟨b,0,none⟩))] T fun _ T'=>∃V,V=[]∧Has (X V) T':=by
 intro T hT;have t1:lk T.box b=some [.v (.map none)]:=hT.box _ _ (hb []);refine lO [] mx Tryz.func100 rfl rfl (by kernel_rfl) ?_;simp only[Tryz.ntmps100,aaW,ab8,Nat.reduceAdd,Nat.reduceSub,List.reduceReplicate,acG,acR];refine @aa _ (cK @Tryz.ntmps100 @t1 ?_);intro li;have hnone:lk T.acc li.n=none:=ao li;refine fZ [] [0,5] (fun _:Unit=>[]) (fun _=>⟨T.box,(li.n,.xo .ni)::T.acc⟩) (fun _=>True) (fun _=>0) () mx (by kernel_rfl) ?_ ?_
 ·exact @aa _ bY
  try exact⟨trivial,.refl _⟩
 ·intro _ _;refine @aa _ (av ?_);refine⟨[],rfl,hT.box,fun l' o ho=>?_⟩;have:=hT.acc _ _ ho;show lk ((li.n,_)::T.acc) l'=_;simp only[lk];rw[if_neg (fun e=>by rw[e,this]at hnone;cases hnone)];exact this
theorem zM(w0:W0){b:Nat}{S:St}(hb:lk S.box b=some [.v (.map none)]):
 ab Tryz.prog w0 139 [.sl 0 true [],.v (.func (.func 100) #[] #[.pointer (some ⟨b,0,none⟩)])] S (fun d S'=>∃r:FN S.acc,d= .acc r.n 0∧S'=⟨S.box,(r.n,.arr 1 [])::S.acc⟩):=by
 refine mh [] mx Tryz.func139 rfl rfl (by kernel_rfl) ?_;refine @aa _ (ah @Tryz.ntmps139 ?_);intro s;refine fh s.n 0 1 (by omega) (ds:=[.sl 0 true []]) (by exact @aa _ bY) rfl fun lb=>?_;refine @aa _ (av ?_);refine wF [] (fun pre=>⟨(s.n,[.acc lb.n pre.length])::S.box,(lb.n,.arr 1 (pre.map gJ))::S.acc⟩) (fun x=>[gJ x]) (fun _=>False) (fun V=>V=[]) mx (by kernel_rfl) rfl rfl rfl (fun _=>rfl) (fun _=>rfl) (fun _=>rfl) ?_ ?_ ?_
 ·intro l w1 hy T hT;refine FB w1 l b _ (fun pre=>?_) T hT;have hsb:¬s.n=b:=fun e=>by have:=ao s;rw[e,hb]at this;cases this
  exact @aa _ (di @hsb @hb)
 ·intro pre x T hOk hT;exact hOk.elim
 ·rintro V rfl;refine @aa _ (av ?_);exact⟨_,_,.refl _,(Sub.refl _).aN,lb,rfl,rfl⟩
theorem KN(w0:W0){b:Nat}{S:St}(hb:lk S.box b=some [.v (.map none)]):
 ab Tryz.prog w0 52 [.v (.func (.func 100) #[] #[.pointer (some ⟨b,0,none⟩)])] S (fun d S'=>∃r:FN S.acc,d= .acc r.n 0∧S'=⟨S.box,(r.n,.arr 1 [])::S.acc⟩):=by
 have hcol:∀S,lk S.box b=some [.v (.map none)]→ab Tryz.prog w0 97 [.v (.func (.func 100) #[] #[.pointer (some ⟨b,0,none⟩)])] S (fun d S'=>∃r:FN S.acc,d= .acc r.n 0∧S'=⟨S.box,(r.n,.arr 1 [])::S.acc⟩):=fun S hb=>by
  refine lO [] mx Tryz.func97 rfl rfl (by kernel_rfl) ?_;refine @aa _ (ah @Tryz.ntmps97 ?_);refine aw (zM w0 hb) ?_;rintro _ _ ⟨r,rfl,rfl⟩;refine @aa _ (av ?_);exact⟨r,rfl,rfl⟩
 refine lO [] mx Tryz.func52 rfl rfl (by kernel_rfl) ?_;refine @aa _ (ah @Tryz.ntmps52 ?_);refine aw (hcol S hb) ?_;rintro _ _ ⟨r,rfl,rfl⟩;refine @aa _ (av ?_);refine .inl (aw (I8 w0 (l:=r.n) (zs:=[]) (S:=⟨S.box,(r.n,.arr 1 [])::S.acc⟩) (by simp[lk]) (by simp)) ?_);rintro _ _ ⟨rfl,rfl⟩;refine @aa _ (av ?_);have e0:mS []=[]:=by unfold mS;simp
 exact⟨r,rfl,by rw[e0];rfl⟩
theorem Sh(w0:W0)(S:St):ab Tryz.prog w0 54 [.v (.map none)] S (fun d S'=>∃b:FN S.box,d= .v (.func (.func 100) #[] #[.pointer (some ⟨b.n,0,none⟩)])∧S'=⟨(b.n,[.v (.map none)])::S.box,S.acc⟩):=by
 refine lO [] mx Tryz.func54 rfl rfl (by kernel_rfl) ?_;refine @aa _ (ah @Tryz.ntmps54 ?_);intro b;exact⟨b,rfl,rfl⟩
theorem C7{c:Cf}{μ:bM}{o:aV}{i:Nat}(h:gM c.up (i:Int) o.level=true):kc c μ o (i+1)=kc c μ o i++[i]:=by
 unfold kc;rw[adm,acK];simp[h]
theorem Dy{c:Cf}{μ:bM}{o:aV}{i:Nat}(h:gM c.up (i:Int) o.level=false):kc c μ o (i+1)=kc c μ o i:=by
 unfold kc;rw[adm,acK];simp[h]
theorem E5(c:Cf)(μ:bM)(o:aV)(i:Nat):(kc c μ o i).length≤i:=by
 unfold kc;have:=acz (fun x:Nat=>gM c.up (x:Int) o.level) (List.range i);simpa using this
theorem jV(c:Cf)(μ:bM)(o:aV)(p:List UInt8→Bool)(i:Nat):(bl c μ o p i).length≤i:=by
 unfold bl;rw[abI];exact E5 c μ o i
noncomputable def qi(x:Nat)(p:List UInt8→Bool)(f:List UInt8→Option (List UInt8))(j:Nat):List dA:=(((dp f).take j).filter p).map fun k=>⟨k,x,(f k).getD []⟩
theorem Uq{x:Nat}{p:List UInt8→Bool}{f:List UInt8→Option (List UInt8)}{j:Nat}{k v:List UInt8}(hk:(dp f)[j]? =some k)(hv:f k=some v)(h:p k=true):qi x p f (j+1)=qi x p f j++[⟨k,x,v⟩]:=by
 unfold qi;rw[abY,hk,acK,aaZ];simp[h,hv]
theorem Rk{x:Nat}{p:List UInt8→Bool}{f:List UInt8→Option (List UInt8)}{j:Nat}{k:List UInt8}(hk:(dp f)[j]? =some k)(h:p k=false):qi x p f (j+1)=qi x p f j:=by
 unfold qi;rw[abY,hk,acK,aaZ];simp[h]
theorem HU(x:Nat)(p:List UInt8→Bool)(f:List UInt8→Option (List UInt8)):qi x p f (dp f).length=kr x p (some f):=by
 unfold qi kr;rw[abf (aar _)]
theorem JC(x:Nat)(p:List UInt8→Bool)(f:List UInt8→Option (List UInt8))(j:Nat):(qi x p f j).length≤j:=by
 unfold qi;rw[abI];have h1:=acz p ((dp f).take j);have h2:=List.length_take_le j (dp f);omega
theorem P9(w0:W0){S:St}{g:MG}{N:Nat}{c:Cf}{μ:bM}{w own:Nat}{o:aV}{full:Bool}(hI:MI S g N c μ)(hw:oL S g w own o full)(hN:N≤10000)(hn:μ.l.length≤64){k0:Int}(hk:rK μ.r k0)(hk2:k0≤10000)
 (hs:o.snap≠0→o.snap∈lL μ.r o.level o.az→∃Fs,μ.sn o.level o.az o.snap=some Fs∧Fs.length=μ.l.length) (p:List UInt8→Bool) (fn:FuncId) (bx:Nat) (hok:okF Tryz.prog fn=true)
 (hp:∀k T,Has S T→ab Tryz.prog w0 fn [dS (tx k),bC bx] T (fun d S'=>d=dB (p k)∧S'=T))
 (q39:gz μ o→pD w0 S 39) (q32:¬gz μ o→gT c μ o μ.l.length=false→pD w0 S 32):
 ab Tryz.prog w0 124 [bC w,.v (.func (.func fn) #[] #[.pointer (some ⟨bx,0,none⟩)])] S (fun d S'=>¬gz μ o∧gT c μ o μ.l.length=true∧∃lo:FN S.acc,d= .acc lo.n (bl c μ o p μ.l.length).length∧S'=⟨S.box,(lo.n,.arr 1 ((bl c μ o p μ.l.length).map dD))::S.acc⟩):=by
 have hwk:=hw.k;have hmd:=hI.md
 have hsl:(lL μ.r o.level o.az).length≤4611686018427387904:=by
  unfold lL;split
  ·rename_i s hs';have:=xp hI.tb hk (aaf hs');omega
  ·simp
 have hlen:=hI.len;refine mh [2] mx Tryz.func124 rfl rfl (by kernel_rfl) ?_;refine @aa _ (ah @Tryz.ntmps124 ?_);refine @aa _ (cK @hwk @hmd ?_);refine aR (fL w0 hwk) (@aa _ (av ?_));refine aR (Sn w0 hI.tb hk (by omega) o.level o.az) (@aa _ (av ?_));refine oN (σ:=Unit) [] [0,1] (fun _=>[]) (fun _=>S) (fun _=>¬gz μ o) mx (by kernel_rfl) ?_ ?_
 ·by_cases h0:o.snap=0
  ·have hns:¬gz μ o:=fun q=>q.1 h0;have e0:(o.snap=0)=True:=eq_true h0;refine @aa _ (cL @hwk @hmd @e0 ?_);refine aw (aI w0 true 39 _ fun h=>by cases h) ?_;rintro _ _ ⟨_,rfl,rfl⟩;refine @aa _ (av ?_);exact⟨(),hns⟩
  ·have e0:(o.snap=0)=False:=eq_false h0;refine @aa _ (cL @hwk @hmd @e0 ?_);refine aq (F7 w0 _ _ hsl _) ?_;by_cases hm:o.snap∈lL μ.r o.level o.az
   ·rw[decide_eq_true hm];refine @aa _ (av ?_);refine aw (aI w0 true 39 _ fun h=>by cases h) ?_;rintro _ _ ⟨_,rfl,rfl⟩;refine @aa _ (av ?_);exact⟨(),fun q=>q.2 hm⟩
   ·rw[decide_eq_false hm];refine @aa _ (av ?_);refine aw (aI w0 false 39 _ fun _=>q39 ⟨h0,hm⟩) ?_;rintro _ _ ⟨q,_⟩;cases q
 rintro _ hns;refine @aa _ (cK @hwk @hmd ?_);refine jr 7 1 rfl (by omega) fun lo=>?_;have hlo:lk S.acc lo.n=none:=ao lo;have hH:∀X:Ob,Has S ⟨S.box,(lo.n,X)::S.acc⟩:=fun X=>⟨fun _ _ q=>q,fun l x q=>ai hlo q⟩;refine aQ [10,18] μ.l.length [0,1,6,7,47,48] (fun i=>[(6,dB (gT c μ o i)),(7,.acc lo.n (bl c μ o p i).length),(47,dI μ.l.length),(48,dI i)]) (fun i=>⟨S.box,(lo.n,.arr 1 ((bl c μ o p i).map dD))::S.acc⟩) (fun _=>True) mx (by kernel_rfl) ?_ ?_
 ·refine @aa _ (ah @hlen ?_);exact⟨⟨rfl,.refl _⟩,.refl _⟩
 ·intro i hi _;have hil':=jV c μ o p i;by_cases hil:i<μ.l.length
  ·have e1:IntKind.i64.wrap ((i:Int)+1)=((i+1:Nat):Int):=aJ (by omega);refine @aa _ (ah @e1 ?_);refine⟨fun _=>?_,fun h=>absurd hil h⟩;refine aq (qn w0 (S:=⟨S.box,(lo.n,.arr 1 ((bl c μ o p i).map dD))::S.acc⟩) hwk hmd hI.up (i:Int)) ?_
   cases hle:gM c.up (i:Int) o.level with
   |false=>
    have r1:bl c μ o p (i+1)=bl c μ o p i:=by unfold bl;rw[Dy hle]
    have r2:gT c μ o (i+1)=gT c μ o i:=by unfold gT;rw[Dy hle]
    refine @aa _ (ah @e1 ?_);rw[r1,r2];exact⟨hil,⟨rfl,.refl _⟩,.refl _⟩
   |true=>
    have r1:bl c μ o p (i+1)=bl c μ o p i++[kr i p (fO μ o i o.bucket)]:=by unfold bl;rw[C7 hle,aaZ];rfl
    have r2:gT c μ o (i+1)=(gT c μ o i||(fO μ o i o.bucket).isSome):=by unfold gT;rw[C7 hle,List.any_append];simp
    obtain⟨m,ids,hB,hsee⟩:=P8 w0 hI hw (fun q=>hs q (abe.1 fun r=>hns ⟨q,r⟩)) hil;obtain⟨et,ct,u1,u2,u3⟩:=hB.top;have u3b:=u3 o.bucket;unfold kT at u3b;have hlm:(lo.n=m)=False:=eq_false fun e=>by rw[e,u1]at hlo;cases hlo
    refine @aa _ (av ?_);refine aR (hsee _ (hH _)) ?_
    cases hid:ids o.bucket with
    |none=>
     rw[hid]at u3b;rw[(hB.some_ _).1 hid]at r1 r2;refine @aa _ (aZ @hlm @u1 @u3b @hwk ?_);refine oN (σ:=Unit) [] [0,1,6,7,8,9,47,48] (fun _=>[(6,dB (gT c μ o (i+1)))]) (fun _=>⟨S.box,(lo.n,.arr 1 ((bl c μ o p i).map dD))::S.acc⟩) (fun _=>True) mx (by kernel_rfl) ?_ ?_
     ·rw[r2];refine @aa _ (av ?_);exact⟨fun h=>⟨(),h.symm⟩,fun h=>⟨(),h.symm⟩⟩
     rintro _ _;refine @aa _ (av ?_);refine aw (Sh w0 _) ?_;rintro _ _ ⟨bk,rfl,rfl⟩;refine @aa _ (av ?_);refine aw (KN w0 (b:=bk.n) (by simp[lk])) ?_;rintro _ _ ⟨r2,rfl,rfl⟩;refine @aa _ (av ?_);refine jr 11 3 rfl (by omega) fun l2=>?_;have n1:=an l2 r2.n (by exact @aa _ bY);have n2:=an l2 lo.n (by exact @aa _ (ft @n1));have n3:=an r2 lo.n (by exact @aa _ bY);refine aQ [18] 0 [0,1,6,7,8,9,11,47,48,73,74,75] (fun j=>[(11,.acc l2.n 0),(73,.acc r2.n 0),(74,dI 0),(75,dI j)]) (fun j=>⟨(bk.n,[.v (.map none)])::S.box,(l2.n,.arr 3 [])::(r2.n,.arr 1 [])::(lo.n,.arr 1 ((bl c μ o p i).map dD))::S.acc⟩) (fun _=>True) mx (by kernel_rfl) ?_ ?_
     ·exact @aa _ (tI @n1 @n2 @n3)
     ·intro j hj _;have hj0:j=0:=by omega
      subst hj0;refine @aa _ (cL @n1 @n2 @n3 ?_);refine HX [] [11] mx (by kernel_rfl) ?_;refine @aa _ (aZ @n1 @n2 @n3 @e1 ?_);rw[r1];refine⟨by omega,by unfold maxLen;omega,hil,?_,?_⟩
      ·rw[aaK];exact .refl _
      ·rw[aaZ];exact .aN (.nq (.nq (.refl _)))
    |some id=>
     rw[hid]at u3b;obtain⟨f,hf⟩:=jK hB hid;obtain⟨esi,ci,i1,i2,i3⟩:=hB.low _ id f hid hf;rw[hf]at r1 r2;refine @aa _ (aZ @hlm @u1 @u3b @hwk ?_);refine oN (σ:=Unit) [] [0,1,6,7,8,9,47,48] (fun _=>[(6,dB (gT c μ o (i+1)))]) (fun _=>⟨S.box,(lo.n,.arr 1 ((bl c μ o p i).map dD))::S.acc⟩) (fun _=>True) mx (by kernel_rfl) ?_ ?_
     ·rw[r2];refine @aa _ (av ?_);exact⟨fun _=>⟨(),trivial⟩,fun _=>⟨(),trivial⟩⟩
     rintro _ _;have hli:(lo.n=id)=False:=eq_false fun e=>by rw[e,i1]at hlo;cases hlo
     refine @aa _ (av ?_);refine aw (Dv w0 (m:=id) _) ?_;rintro _ _ ⟨bk,rfl,rfl⟩;refine @aa _ (av ?_);have hIM:IM ⟨(bk.n,[.mp id])::S.box,(lo.n,.arr 1 ((bl c μ o p i).map dD))::S.acc⟩ id N f:=⟨esi,ci,by exact @aa _ (di @hli @i1),i2,i3⟩;refine aw (IX w0 (b:=bk.n) (by simp[lk]) hIM (by omega)) ?_;rintro _ _ ⟨r2,rfl,hkf,rfl⟩;refine @aa _ (av ?_);refine jr 11 3 rfl (by omega) fun l2=>?_;have n1:=an l2 r2.n (by exact @aa _ bY);have n2:=an l2 lo.n (by exact @aa _ (ft @n1));have n3:=an r2 lo.n (by exact @aa _ bY);have n4:(r2.n=id)=False:=an r2 id (by exact @aa _ (tI @n3 @i1 @hli));have n5:(l2.n=id)=False:=an l2 id (by exact @aa _ (YE @n3 @n1 @n2 @i1 @hli));refine aQ [18] (dp f).length [0,1,6,7,8,9,11,47,48,73,74,75] (fun j=>[(11,.acc l2.n (qi i p f j).length),(73,.acc r2.n (dp f).length),(74,dI (dp f).length),(75,dI j)]) (fun j=>⟨(bk.n,[.mp id])::S.box,(l2.n,.arr 3 ((qi i p f j).map oR))::(r2.n,.arr 1 ((dp f).map gJ))::(lo.n,.arr 1 ((bl c μ o p i).map dD))::S.acc⟩) (fun _=>True) mx (by kernel_rfl) ?_ ?_
     ·refine @aa _ (cL @n1 @n2 @n3 ?_);exact⟨.refl _,.refl _⟩
     ·intro j hj _;have hjn:=JC i p f j;by_cases hjl:j<(dp f).length
      ·have e2:IntKind.i64.wrap ((j:Int)+1)=((j+1:Nat):Int):=aJ (by omega);have hy:(dp f)[j]? =some (dp f)[j]:=aac hjl;generalize (dp f)[j]=k at hy;obtain⟨v,hv⟩:=abr.1 (sa (aaf hy));have i3k:=i3 k;rw[hv]at i3k;unfold kT at i3k
       have hT:Has S ⟨(bk.n,[.mp id])::S.box,(l2.n,.arr 3 ((qi i p f j).map oR))::(r2.n,.arr 1 ((dp f).map gJ))::(lo.n,.arr 1 ((bl c μ o p i).map dD))::S.acc⟩:=⟨fun b x q=>ai (ao bk) q,fun a x q=>by
        simp only[lk];have q0:¬lo.n=a:=fun e=>by rw[←e,hlo]at q;cases q
        have z1:=ao r2;have z2:=ao l2;simp only[lk]at z1 z2;rw[if_neg (fun e=>by rw[←n3];exact e.symm)]at z1;rw[if_neg (fun e=>by rw[←n1];exact e.symm),if_neg (fun e=>by rw[←n2];exact e.symm)]at z2;rw[if_neg (fun e=>by rw[←e,z2]at q;cases q),if_neg (fun e=>by rw[←e,z1]at q;cases q),if_neg q0];exact q⟩
       have hm8:maxLen=9223372036854775807:=rfl;refine @aa _ (jL @hy @e2 @n1 @n2 @n3 @hok ?_);refine⟨fun _=>⟨hjl,hjl,?_⟩,fun h=>absurd hjl h⟩;refine aq (hp k _ hT) ?_
       cases hpk:p k with
       |true=>
        have hrj:=Uq (x:=i) hy hv hpk;refine @aa _ (bz @hy @e2 @n1 @n2 @n3 @n4 @n5 (And.intro @hli (And.intro @i1 (And.intro @i3k @hm8))) ?_);rw[hrj];refine⟨by omega,by omega,hjl,?_,?_⟩
        ·rw[aaK];exact .refl _
        ·rw[aaZ];exact .refl _
       |false=>
        have hrj:=Rk (x:=i) (p:=p) hy hpk;refine @aa _ (eQ @hy @e2 @n1 @n2 @n3 ?_);rw[hrj];exact⟨hjl,.refl _,.refl _⟩
      ·have hje:j=(dp f).length:=by omega
       subst hje;rw[HU];refine @aa _ (cL @n1 @n2 @n3 ?_);refine⟨fun h=>absurd h hjl,fun _=>?_⟩;refine HX [] [11] mx (by kernel_rfl) ?_;refine @aa _ (aZ @n1 @n2 @n3 @e1 ?_);rw[r1];refine⟨by omega,by unfold maxLen;omega,hil,?_,?_⟩
       ·rw[aaK];exact .refl _
       ·rw[aaZ];exact .aN (.nq (.nq (.refl _)))
  ·have hie:i=μ.l.length:=by omega
   subst hie;refine @aa _ (av ?_);refine⟨fun h=>absurd h hil,fun _=>?_⟩
   cases hso:gT c μ o μ.l.length with
   |false=>
    refine aw (aI w0 false 32 _ fun _=>(q32 hns hso).to (hH _)) ?_;rintro _ _ ⟨q,_⟩;cases q
   |true=>
    refine aw (aI w0 true 32 _ fun h=>by cases h) ?_;rintro _ _ ⟨_,rfl,rfl⟩;refine @aa _ (av ?_);exact⟨_,_,.refl _,.refl _,hns,lo,rfl,rfl⟩
end Go.Proofs.YtoepfmhnapedoaaGreatDoor
namespace Aml
open Go Go.RowKit
section
variable {P:Program} {w0:W0}
theorem Rel.Sc{g:Gh}{S:St}{w:World}(h:Rel w0 g S w):Rel ⟨w0.w,g,w0.pq⟩ g S w:=⟨⟨h.below.base,h.below.obj,Gh.sub.refl g⟩,h.aY,h.nb,h.na,h.eU,h.fresh,h.top,h.own⟩
theorem Rel.TP{g0 g:Gh}{S:St}{w:World}(h:Rel ⟨w0.w,g0,w0.pq⟩ g S w)(k:w0.gh.sub g):Rel w0 g S w:=⟨⟨h.below.base,h.below.obj,k⟩,h.aY,h.nb,h.na,h.eU,h.fresh,h.top,h.own⟩
theorem BU{g:Gh}{s:Nat}{f:Bool}{xs:List DV}{u:Value}(r:aG g (.sl s f xs) u):u.oneCell'=true:=by
 generalize hd:DV.sl s f xs=d at r;cases r <;>first|(cases hd;done)|rfl|skip
 all_goals first|assumption|rfl|skip
theorem KG(i:Nat){s:Nat}{f:Bool}{xs:List DV}{c:Code}{fr:List DV}{S:St}{Q:Exit→List DV→St→Prop}(hi:fr[i]? =some (.sl s f xs))
 (h:∀(w1:W0) (u:Value),w1.w=w0.w→w1.pq=w0.pq→w0.gh.sub w1.gh→u.oneCell'=true→(∀g',w1.gh.sub g'→aG g' (.sl s f xs) u)→fV P w1 c (fr.set i (.v u)) S Q):fV P w0 c fr S Q:=by
 intro g a w h1 h2 h3;have hlt:i<fr.length:=(aad.1 hi).1;obtain⟨u,hu⟩:∃u,a.tmps.toList[i]? =some u:=⟨_,aac (by rw[←h2.len];exact hlt)⟩;have hr:=h2.at_ i _ u hi hu;have ho:=BU hr
 have h2':af g (fr.set i (.v u)) a.tmps.toList:=by
  have:=h2.set i (d:= .v u) (u:=u) (.v u ho)
  have e:a.tmps.toList.set i u=a.tmps.toList:=by
   refine acy fun j=>?_;by_cases q:i=j
   ·subst q;rw[abZ (aad.1 hu).1,hu]
   ·rw[ab5 q]
  rw[e]at this;exact this
 have hsub:∀g',g.le g'→w0.gh.sub g':=fun g' k=>h1.below.fx.le k;have h3':Dk ⟨w0.w,g,w0.pq⟩ g a w:=h3;refine bg (h ⟨w0.w,g,w0.pq⟩ u rfl rfl h1.below.fx ho (fun g' k=>hr.of k.aY k.acc) g a w h1.Sc h2' h3') ?_;rintro e a' w' ⟨hd,g',fr',S',k1,k2,k3,k4⟩;exact⟨hd,g',fr',S',k1,k2.TP (hsub g' k1),k3,by cases e <;>exact k4⟩
theorem Aq{f:FuncId}{u:Value}{d:DV}{ds:List DV}{S:St}{K:DV→St→Prop}(hu:∀g',w0.gh.sub g'→aG g' d u)(h:ab P w0 f (d::ds) S K):ab P w0 f (.v u::ds) S K:=by
 intro g vs w h1 h2;refine h g vs w h1 ⟨h2.len,fun i d' u' q1 q2=>?_⟩
 cases i with
 |zero=>
  simp only[List.getElem?_cons_zero,abg]at q1;subst q1;have:=h2.at_ 0 (.v u) u' rfl q2;rw[ay this];exact hu g h1.below.fx
 |succ i=>exact h2.at_ (i+1) d' u' q1 q2
end
end Aml
namespace Go.Proofs.YtoepfmhnapedoaaGreatDoor
open Aml Go Rn Lat Grs
theorem Lm(m:List dA):jU [] m=m:=by rw[jU]
theorem JM(l:List dA):jU l []=l:=by
 cases l with
 |nil=>rw[jU]
 |cons a l=>rw[jU];intro h;cases h
theorem BZ(a b:dA)(l m:List dA):jU (a::l) (b::m)=if cX b a then b::jU (a::l) m else a::jU l (b::m):=by rw[jU]
theorem xO:∀(n:Nat) (l m:List dA),l.length+m.length≤n→(jU l m).length=l.length+m.length
 |_,[],m,_=>by rw[Lm];simp
 |_,a::l,[],_=>by rw[JM];simp
 |0,a::l,b::m,h=>by simp at h
 |n+1,a::l,b::m,h=>by
  rw[BZ];simp only[aaW]at h;split
  ·rw[aaW,xO n (a::l) m (by simp only[aaW];omega)];simp only[aaW];omega
  ·rw[aaW,xO n l (b::m) (by simp only[aaW];omega)];simp only[aaW];omega
theorem ml(B:List (Nat×List DV))(A:List (Nat×Ob)):Has ⟨B,[]⟩ ⟨B,A⟩:=⟨fun _ _ q=>q,fun l o q=>by cases q⟩
theorem QM(w0:W0)(l m:List dA)(h0:l.length+m.length≤104857600)(S:St):ab Tryz.prog w0 160 [dD l,dD m] S (fun d S'=>d=dD (jU l m)∧S'=S):=by
 refine bI [8] mx Tryz.func160 rfl rfl (by kernel_rfl) ?_;refine @aa _ (ah @Tryz.ntmps160 ?_);intro b2 b3;have n1:=an b3 b2.n (by exact @aa _ bY);have n1':(b2.n=b3.n)=False:=by rw[←n1];exact propext eq_comm
 have e0:=TM l.length m.length (by omega);refine @aa _ (cL @n1 @n1' @e0 ?_);refine⟨by omega,by omega,fun lo=>?_⟩;refine fZ [8] [2,3,5] (σ:=List dA×List dA×List dA) (fun s=>[(5,.acc lo.n s.1.length)]) (fun s=>⟨(b3.n,[dD s.2.2])::(b2.n,[dD s.2.1])::S.box,(lo.n,.arr 3 (s.1.map oR))::S.acc⟩) (fun s=>s.1++jU s.2.1 s.2.2=jU l m∧s.1.length+s.2.1.length+s.2.2.length=l.length+m.length) (fun s=>s.2.1.length+s.2.2.length) ([],l,m) mx (by kernel_rfl) ⟨by simp,?_⟩ ?_
 ·exact @aa _ bY
 ·rintro⟨o,l',m'⟩ ⟨h1,h2⟩;simp only at h1 h2;have hm8:maxLen=9223372036854775807:=rfl;have z0:((0:Int)>0)=False:=by simp
  have zp:∀n:Nat,(((n+1:Nat):Int)>0)=True:=fun n=>eq_true (by omega);rcases l' with _|⟨a,l'⟩
  ·rw[Lm]at h1;simp only[ab8]at h2;refine @aa _ (cL @n1 @n1' @z0 ?_)
   try refine⟨fun h=>by omega,fun _=>?_⟩
   refine Y.VB ⟨(b3.n,[dD m'])::(b2.n,[dD []])::S.box,[]⟩ ⟨[],[]⟩ [2,4] [] [0,1,3,2,4,5] mx (by kernel_rfl) (fun T _=>Y.kQ T) ?_;refine @aa _ (cL @n1 @n1' @hm8 ?_);refine⟨ml _ _,ml _ _,by omega,by omega,ml _ _,by omega,by omega,ml _ _,?_⟩;rw[h1];exact .refl _
  ·rcases m' with _|⟨b,m'⟩
   ·rw[JM]at h1;simp only[ab8,aaW]at h2;refine @aa _ (aZ @n1 @n1' @z0 (zp l'.length) ?_);refine Y.VB ⟨(b3.n,[dD []])::(b2.n,[dD (a::l')])::S.box,[]⟩ ⟨[],[]⟩ [2,4] [] [0,1,3,2,4,5] mx (by kernel_rfl) (fun T _=>Y.kQ T) ?_;refine @aa _ (cL @n1 @n1' @hm8 ?_);refine⟨ml _ _,ml _ _,by omega,by omega,ml _ _,by omega,by omega,ml _ _,?_⟩;rw[←h1];simp only[aaZ,abB];exact .refl _
   ·simp only[aaW]at h2;refine @aa _ (aZ @n1 @n1' (zp l'.length) (zp m'.length) ?_);refine aR (NV _ b a _) ?_
    cases hlt:cX b a with
    |true=>
     refine @aa _ (cL @n1 @n1' @hm8 ?_);rw[BZ,if_pos hlt]at h1;refine⟨by omega,by omega,by omega,by omega,⟨o++[b],a::l',m'⟩,⟨by simpa using h1,by simp only[aaK,aaW,ab8];omega⟩,by simp only[aaW];omega,by simp only[aaK,acQ];exact .refl _,by simp only[aaZ];exact .refl _⟩
    |false=>
     refine @aa _ (cL @n1 @n1' @hm8 ?_);rw[BZ,if_neg (by rw[hlt];simp)]at h1;refine⟨by omega,by omega,by omega,by omega,⟨o++[a],l',b::m'⟩,⟨by simpa using h1,by simp only[aaK,aaW,ab8];omega⟩,by simp only[aaW];omega,by simp only[aaK,acQ];exact .refl _,by simp only[aaZ];exact .refl _⟩
theorem OE(rows:List (List dA)):(rows.foldl jU []).length=(j0 rows).length:=by
 have key:∀(rows:List (List dA)) (x:List dA),(rows.foldl jU x).length=x.length+(j0 rows).length:=by
  intro rows
  induction rows with
  |nil=>intro x;simp[j0]
  |cons r rows ih=>
   intro x;rw[List.foldl_cons,ih,xO _ _ _ (aar _)];simp[j0];omega
 rw[key];simp
theorem JD{rows:List (List dA)}{k:Nat}{a:List dA}(h:rows[k]? =some a):(rows.take (k+1)).foldl jU []=jU ((rows.take k).foldl jU []) a:=by
 rw[abY,h,ac9];rfl
theorem Ni(w0:W0)(rows:List (List dA))(most:Int)(h0:rows.length≤1048576)(h1:(j0 rows).length≤1048576)(hs:∀l,l∈rows→∀i x y,l[i]? =some x→l[i+1]? =some y→cX y x=false)(S:St):
 ab Tryz.prog w0 126 [.sl 1 false (rows.map dD),dI most] S (fun d S'=>d=dD (Q8 rows most)∧S'=S):=by
 refine bI [] mx Tryz.func126 rfl rfl (by kernel_rfl) ?_;refine @aa _ (ah @Tryz.ntmps126 ?_);refine aQ [1001] rows.length [1,5,10,11,12] (fun i=>[(5,dD ((rows.take i).foldl jU [])),(12,dI i)]) (fun _=>S) (fun _=>True) mx (by kernel_rfl) ?_ ?_
 ·refine @aa _ (av ?_);exact .VD _ _ _
 ·intro i hi _;by_cases hil:i<rows.length
  ·have e1:IntKind.i64.wrap ((i:Int)+1)=((i+1:Nat):Int):=aJ (by omega);have hx:rows[i]? =some rows[i]:=aac hil;have hus:=JD hx;have hfs:=oP hx;have hfl:=xt rows (i+1);have hsi:=hs _ (acH hil);have hul:=OE (rows.take i);generalize rows[i]=l at hx hus hfs hsi;rw[hfs,aaK]at hfl;refine @aa _ (cK @hx @e1 ?_);refine⟨fun _=>?_,fun h=>absurd hil h⟩;refine KG 5 rfl fun w1 u hw1 hp1 hs1 ho hu=>G0 [] mx (by kernel_rfl) ?_;refine @aa _ (cK @hx @e1 ?_);refine⟨hil,?_⟩;refine aq (N0 w1 l _ (by omega)) (@aa _ (av ?_));refine aq (It w1 l (by omega) hsi _) (@aa _ (ah @ho ?_));refine⟨ho,aq (Aq hu (QM w1 ((rows.take i).foldl jU []) l (by omega) _)) ?_⟩;rw[hus];refine @aa _ (ah @e1 ?_);exact hil
  ·have hie:i=rows.length:=by omega
   subst hie;rw[abf (aar _)];refine @aa _ (av ?_);refine⟨fun h=>absurd h hil,fun _=>?_⟩
   have hmin:(if((rows.foldl jU []).length:Int)<if most<0 then 0 else most then((rows.foldl jU []).length:Int)else if most<0 then 0 else most).toNat=min most.toNat (rows.foldl jU []).length:=by
    split <;>split at* <;>omega
   have hmin2:0≤(if((rows.foldl jU []).length:Int)<if most<0 then 0 else most then((rows.foldl jU []).length:Int)else if most<0 then 0 else most)∧(if((rows.foldl jU []).length:Int)<if most<0 then 0 else most then((rows.foldl jU []).length:Int)else if most<0 then 0 else most)≤((rows.foldl jU []).length:Int):=by
    split <;>split at* <;>omega
   rw[hmin];refine⟨hmin2.1,hmin2.2,?_⟩
   have e:Q8 rows most=(rows.foldl jU []).take (min most.toNat (rows.foldl jU []).length):=by
    unfold Q8;rw[←List.take_take,List.take_length]
   rw[e];exact .refl _
end Go.Proofs.YtoepfmhnapedoaaGreatDoor
namespace Go.Proofs.YtoepfmhnapedoaaGreatDoor
open Aml Go Rn Lat Grs
def xR(F:eZ):Prop:=∀n f,F n=some f→n.length≤1000∧∀k v,f k=some v→k.length≤1000∧v.length≤1000
structure ij(N:Nat)(c:Cf)(μ:bM):Prop where
 n:μ.l.length≤64
 nl:μ.l.length=c.up.length
 r:μ.r.length≤N
 la:rK μ.r N
 CA:mH μ.r
 sp:∀lv n k,k∈lL μ.r lv n→∃Fs,μ.sn lv n k=some Fs∧Fs.length=μ.l.length
 au:∀l,l∈μ.l→l.au.length≤N
 sz:∀l,l∈μ.l→xR l.F∧xR l.D
theorem sj(a b:List UInt8):zg a b=decide (a<b):=Go.Proofs.bytesLess_eq a b
theorem tH{α:Type}(f:List UInt8→Option α):(dp f).Pairwise (·≤·):=by
 unfold dp;split
 ·exact lR _
 ·exact .nil
theorem HV{es:List (Value×DV×Nat)}{α:Type}{d:α→DV}{f:List UInt8→Option α}(h:∀k,aT es (kT k)=(f k).map d):(dp f).length≤es.length:=by
 unfold dp;split
 ·rename_i hx;rw[mI];have h1:((hx.choose).map kT).Nodup:=aX (fun x y h=>fF h) hx.choose_spec.1
  have h2:(hx.choose).map kT⊆es.map (·.1):=fun u hu=>by
   obtain⟨v,hv,rfl⟩:=aaT.1 hu;have h3:=(hx.choose_spec.2 v).1 hv;obtain⟨x,hx'⟩:=abr.1 h3;have h4:=h v;rw[hx']at h4;obtain⟨b,hm⟩:=oW h4;exact aaT.2 ⟨_,hm,rfl⟩
  have:=cu h1 h2;simpa using this
 ·simp
theorem yR(x:Nat)(p:List UInt8→Bool)(f:Option (List UInt8→Option (List UInt8))):∀i a b,(kr x p f)[i]? =some a→(kr x p f)[i+1]? =some b→cX b a=false:=by
 intro i a b h1 h2;unfold kr at h1 h2
 cases f with
 |none=>simp at h1
 |some f=>
  simp only[aaE,aay]at h1 h2;obtain⟨k1,q1,rfl⟩:=h1;obtain⟨k2,q2,rfl⟩:=h2;have hp:=(tH f).sublist (List.filter_sublist (p:=p) (l:=dp f));obtain⟨l1,e1⟩:=aad.1 q1;obtain⟨l2,e2⟩:=aad.1 q2;have:=(acY.1 hp) i (i+1) l1 l2 (by omega);rw[e1,e2]at this;unfold cX;simp only[sj,Bool.or_eq_false_iff,decide_eq_false_iff_not,Bool.and_eq_false_iff];exact⟨List.not_lt.2 this,.inr (by omega)⟩
section
variable {w0:W0} {S:St} {g:MG} {N:Nat} {c:Cf} {μ:bM} {w own:Nat} {o:aV} {full:Bool}
theorem oL.has{T:St}(h:oL S g w own o full)(k:Has S T):oL T g w own o full:=⟨k.box _ _ h.k,h.l,h.p,h.f,h.s⟩
theorem LY(w0:W0)(hI:MI S g N c μ)(hw:oL S g w own o full)(hs:o.snap≠0→∃Fs,μ.sn o.level o.az o.snap=some Fs∧Fs.length=μ.l.length){x:Nat}(hx:x<μ.l.length)(p:List UInt8→Bool):(kr x p (fO μ o x o.bucket)).length≤N:=by
 obtain⟨m,ids,hB,_⟩:=P8 w0 hI hw hs hx;unfold kr
 cases hf:fO μ o x o.bucket with
 |none=>simp
 |some f=>
  obtain⟨i,hi⟩:=bF (fun q=>by rw[(hB.some_ _).1 q]at hf;cases hf);obtain⟨es,cl,g1,g2,g3⟩:=hB.low _ i f hi hf;simp only[abI];have h1:=acz p (dp f);have h2:=HV g3;omega
theorem mQ{α:Type}{rows:List (List α)}{n:Nat}(h:∀r,r∈rows→r.length≤n):(j0 rows).length≤rows.length*n:=by
 induction rows with
 |nil=>simp[j0]
 |cons r rows ih=>
  have h1:=ih fun q hq=>h q (aat _ hq);have h2:=h r aaQ;simp only[j0,List.flatten_cons,aaK,aaW]at h1 ⊢;rw[acA];omega
theorem qL(w0:W0)(hI:MI S g N c μ)(hM:ij N c μ)(hN:N≤10000)(hw:oL S g w own o full)(hs:o.snap≠0→∃Fs,μ.sn o.level o.az o.snap=some Fs∧Fs.length=μ.l.length)(p:List UInt8→Bool):(j0 (bl c μ o p μ.l.length)).length≤640000:=by
 have h1:=mQ (rows:=bl c μ o p μ.l.length) (n:=N) fun r hr=>by
  unfold bl at hr;obtain⟨x,hx,rfl⟩:=aaT.1 hr;unfold kc at hx;exact LY w0 hI hw hs (ace.1 (abO.1 hx).1) p
 have h2:=jV c μ o p μ.l.length;have h3:=hM.n;have h4:(bl c μ o p μ.l.length).length*N≤64*10000:=Nat.mul_le_mul (by omega) hN;omega
theorem xl(p:List UInt8→Bool):∀l,l∈bl c μ o p μ.l.length→∀i x y,l[i]? =some x→l[i+1]? =some y→cX y x=false:=fun l hl=>by
 unfold bl at hl;obtain⟨x,hx,rfl⟩:=aaT.1 hl;exact yR x p _
theorem Dt(R:List dA):Wk (.agg [dI 0,dI 0,dD R,dI 0,dI 0,dI 0,dI 0,.sl 0 true []]) (uM ⟨0,0,R,[]⟩):= .agg ⟨.refl _,.refl _,.refl _,.refl _,.refl _,.refl _,.refl _,.nil _ _ _,trivial⟩
theorem ZW(hI:MI S g N c μ)(hM:ij N c μ)(hN:N≤10000)(hw:oL S g w own o full)(hq:∀e,getM c μ o= .inl e→AD w0 S g N c μ e):ab Tryz.prog w0 77 [bC w] S (mX S g (N+1) c (getM c μ o)):=by
 have hwk:=hw.k;have hn:=hM.n;refine mh [] mx Tryz.func77 rfl rfl (by kernel_rfl) ?_;refine @aa _ (ah @Tryz.ntmps77 ?_);intro b1 b2;have n1:=an b2 b1.n (by exact @aa _ bY);have hH:Has S ⟨(b2.n,[dI 0,dI 0,.sl 0 true [],dI 0,dI 0,dI 0,dI 0,.sl 0 true []])::(b1.n,[bC w])::S.box,S.acc⟩:=⟨fun b x q=>ai (ao b2) (ai (ao b1) q),fun _ _ q=>q⟩;refine aw (P9 w0 (hI.has hH) (hw.has hH) hN hn hM.la (by omega) (fun h1 h2=>hM.sp _ _ _ h2) (fun k=>decide (k=o.key)) 125 b1.n (by kernel_rfl) (fun k T hT=>Zg w0 (hT.box _ _ (by exact @aa _ (ft @n1))) (hT.box _ _ (hH.box _ _ hwk)) k) (fun h=>((hq 39 (by unfold getM;rw[if_pos h])).er hI).to hH) (fun h1 h2=>((hq 32 (by unfold getM;rw[if_neg h1,if_pos h2])).er hI).to hH)) ?_;rintro _ _ ⟨hns,hso,lo,rfl,rfl⟩;have hs:o.snap≠0→∃Fs,μ.sn o.level o.az o.snap=some Fs∧Fs.length=μ.l.length:=fun h=>hM.sp _ _ _ (abe.1 fun q=>hns ⟨h,q⟩);have hb:=qL w0 hI hM hN hw hs (fun k=>decide (k=o.key));have hrl:=jV c μ o (fun k=>decide (k=o.key)) μ.l.length;refine @aa _ (av ?_);refine .inr (aq (LC w0 (bl c μ o (fun k=>decide (k=o.key)) μ.l.length) _ (by omega) (by omega)) ?_);generalize hR:j0 (bl c μ o (fun k=>decide (k=o.key)) μ.l.length)=R at hb
 have hg:getM c μ o=if R=[]then .inl 33 else .inr (⟨0,0,R,[]⟩,μ):=by
  unfold getM;rw[if_neg hns,if_neg (by rw[hso];simp)];simp only[←hR,j0]
 cases R with
 |nil=>
  refine @aa _ (ah @n1 ?_);refine aw (aI w0 false 33 _ fun _=>(((hq 33 (by rw[hg];rfl)).er hI).to hH).to ⟨fun _ _ q=>q,fun l x q=>ai (ao lo) q⟩) ?_;rintro _ _ ⟨q,_⟩;cases q
 |cons a R=>
  have zp:∀n:Nat,(((n+1:Nat):Int)>0)=True:=fun n=>eq_true (by omega);refine @aa _ (cK @n1 (zp R.length) ?_);refine aw (aI w0 true 33 _ fun h=>by cases h) ?_;rintro _ _ ⟨_,rfl,rfl⟩;refine @aa _ (ah @n1 ?_);exact⟨_,_,.refl _,.aN (.aN (.nq (.refl _))),⟨0,0,a::R,[]⟩,μ,g,by rw[hg];exact if_neg (by simp),Dt (a::R),hI.le (abp N),.refl _ _⟩
theorem Vk(hI:MI S g N c μ)(hM:ij N c μ)(hN:N≤10000)(hw:oL S g w own o full)(hq:∀e,iZ c μ o= .inl e→AD w0 S g N c μ e):ab Tryz.prog w0 78 [bC w] S (mX S g (N+1) c (iZ c μ o)):=by
 have hwk:=hw.k;have hn:=hM.n;refine mh [1] mx Tryz.func78 rfl rfl (by kernel_rfl) ?_;refine @aa _ (ah @Tryz.ntmps78 ?_);intro b1 b2;have n1:=an b2 b1.n (by exact @aa _ bY);have hw1:(b1.n=w)=False:=eq_false fun e=>by have:=ao b1;rw[e,hwk]at this;cases this
 have hw2:(b2.n=w)=False:=an b2 w (by exact @aa _ (di @hw1 @hwk));have hH:Has S ⟨(b2.n,[dI 0,dI 0,.sl 0 true [],dI 0,dI 0,dI 0,dI 0,.sl 0 true []])::(b1.n,[bC w])::S.box,S.acc⟩:=⟨fun b x q=>ai (ao b2) (ai (ao b1) q),fun _ _ q=>q⟩;refine Y.jZ [2,9] [11] [1,0,3,4,5,6,7,2,8,9,10,11] mx (by kernel_rfl) ?_;refine @aa _ (aZ @n1 @hwk @hw1 @hw2 ?_);refine aw (P9 w0 (hI.has hH) (hw.has hH) hN hn hM.la (by omega) (fun h1 h2=>hM.sp _ _ _ h2) (fun k=>!zg k o.key) 127 b1.n (by kernel_rfl) (fun k T hT=>Xe w0 (hT.box _ _ (by exact @aa _ (ft @n1))) (hT.box _ _ (hH.box _ _ hwk)) k) (fun h=>((hq 39 (by unfold iZ;rw[if_pos h])).er hI).to hH) (fun h1 h2=>((hq 32 (by unfold iZ;rw[if_neg h1,if_pos h2])).er hI).to hH)) ?_;rintro _ _ ⟨hns,hso,lo,rfl,rfl⟩;have hs:o.snap≠0→∃Fs,μ.sn o.level o.az o.snap=some Fs∧Fs.length=μ.l.length:=fun h=>hM.sp _ _ _ (abe.1 fun q=>hns ⟨h,q⟩);have hb:=qL w0 hI hM hN hw hs (fun k=>!zg k o.key);have hrl:=jV c μ o (fun k=>!zg k o.key) μ.l.length;have hsrt:=xl (c:=c) (μ:=μ) (o:=o) (fun k=>!zg k o.key);refine @aa _ (aZ @n1 @hwk @hw1 @hw2 ?_);refine Y.nS (fun T hT=>WQ _ o.n T) ?_;refine @aa _ (aZ @n1 @hwk @hw1 @hw2 ?_);refine .inr (aq (Ni w0 (bl c μ o (fun k=>!zg k o.key) μ.l.length) (nC o.n) (by omega) (by omega) hsrt _) ?_);refine @aa _ (aZ @n1 @hwk @hw1 @hw2 ?_);exact⟨_,_,.refl _,.aN (.aN (.nq (.refl _))),_,μ,g,by unfold iZ;rw[if_neg hns,if_neg (by rw[hso];simp)],Dt _,hI.le (abp N),.refl _ _⟩
end
end Go.Proofs.YtoepfmhnapedoaaGreatDoor
