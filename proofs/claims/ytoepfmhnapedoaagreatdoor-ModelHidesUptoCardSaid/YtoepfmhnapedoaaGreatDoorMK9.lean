/-
  Part 9 of the proof that the last text ends: from 'Small functions of reading; rows compared: walked' to 'A value's digest: walked'. By an AI agent.
-/
import Derived.Test.YtoepfmhnapedoaaGreatDoorMK8
import Derived.Test.YtoepfmhnapedoaaGreatDoorMK5
import Derived.Sort.Walk0
set_option linter.unusedVariables false
set_option linter.unusedSimpArgs false
set_option maxRecDepth 100000
set_option maxHeartbeats 16000000
namespace Go.Proofs.YtoepfmhnapedoaaGreatDoor
open Aml Go Rn Lat Grs
theorem TB(w0:W0){S:St}{bx w m own:Nat}{o:bp}{full:Bool}(hb:lk S.box bx=some [bz w])(hw:lk S.box w=some (qS m own o full))(k:List UInt8):
 aa Tryz.prog w0 125 [dS (tx k),bz bx] S (fun d S'=>d=dB (decide (k=o.key))∧S'=S):=by
 have htx:(tx k=tx o.key)=(k=o.key):=propext ⟨Hc,fun h=>by rw[h]⟩;refine bW [] mx Tryz.func125 rfl rfl (by kernel_rfl) ?_;simp only[Tryz.ntmps125,Xi,XK,Nat.reduceAdd,Nat.reduceSub,List.reduceReplicate,Yc,Yr];simp(maxDischargeDepth:=12) (maxSteps:=1000000) -implicitDefEqProofs only[Tryz.ntmps125,go_sem,Nat.reduceAdd,Nat.reduceSub,Nat.reduceMul,Nat.reduceLeDiff,Nat.reduceEqDiff,Nat.reduceGT,Nat.reduceBEq,reduceCtorEq,↓reduceIte,Int.reduceToNat,Int.reduceLE,Int.reduceLT,Int.reduceNe,Int.reduceEq,hb,hw]
def ry(n:Int):Int:=if n<0 then 0 else if n>50 then 50 else n
theorem Q2(w0:W0)(n:Int)(S:St):aa Tryz.prog w0 128 [dI n] S (fun d S'=>d=dI (ry n)∧S'=S):=by
 refine bW [] mx Tryz.func128 rfl rfl (by kernel_rfl) ?_;simp(maxDischargeDepth:=12) (maxSteps:=1000000) -implicitDefEqProofs only[Tryz.ntmps128,go_sem,Nat.reduceAdd,Nat.reduceSub,Nat.reduceMul,Nat.reduceLeDiff,Nat.reduceEqDiff,Nat.reduceGT,Nat.reduceBEq,reduceCtorEq,↓reduceIte,Int.reduceToNat,Int.reduceLE,Int.reduceLT,Int.reduceNe,Int.reduceEq];unfold ry
 (repeat' split) <;>omega
@[go_sem] def dA (l:List iq):DV:= .sl 3 false (l.map qT)
theorem Du(w0:W0)(l m:List iq)(h0:l.length≤4611686018427387904)(S:St):aa Tryz.prog w0 16 [dA l,dA m] S (fun d S'=>d=dB (pB (l=m))∧S'=S):=by
 refine bW [] mx Tryz.func16 rfl rfl (by kernel_rfl) ?_;simp(maxDischargeDepth:=12) (maxSteps:=1000000) -implicitDefEqProofs only[Tryz.ntmps16,go_sem,Nat.reduceAdd,Nat.reduceSub,Nat.reduceMul,Nat.reduceLeDiff,Nat.reduceEqDiff,Nat.reduceGT,Nat.reduceBEq,reduceCtorEq,↓reduceIte,Int.reduceToNat,Int.reduceLE,Int.reduceLT,Int.reduceNe,Int.reduceEq];refine⟨fun h1 h2=>h1 (congrArg List.length h2),fun h=>?_⟩;have h:l.length=m.length:=by omega
 refine aX [] l.length [0,1,5] (fun i=>[(5,dI i)]) (fun i=>S) (fun i=>∀j,j<i→l[j]? =m[j]?) mx (by kernel_rfl) ?_ ?_
 ·simp(maxDischargeDepth:=12) (maxSteps:=1000000) -implicitDefEqProofs only[go_sem,Nat.reduceAdd,Nat.reduceSub,Nat.reduceMul,Nat.reduceLeDiff,Nat.reduceEqDiff,Nat.reduceGT,Nat.reduceBEq,reduceCtorEq,↓reduceIte,Int.reduceToNat,Int.reduceLE,Int.reduceLT,Int.reduceNe,Int.reduceEq];intro j hj;omega
 ·intro i hi hinv;have e1:i<4611686018427387904→IntKind.i64.wrap ((i:Int)+1)=((i+1:Nat):Int):=fun h=>aI (by omega);by_cases hil:i<l.length
  ·have e1:=e1 (by omega);have hx:l[i]? =some l[i]:=W5 hil;have hy:m[i]? =some (m[i]'(by omega)):=W5 (by omega);generalize l[i]=x at hx;generalize m[i]'(by omega)=y at hy;simp(maxDischargeDepth:=12) (maxSteps:=1000000) -implicitDefEqProofs only[go_sem,Nat.reduceAdd,Nat.reduceSub,Nat.reduceMul,Nat.reduceLeDiff,Nat.reduceEqDiff,Nat.reduceGT,Nat.reduceBEq,reduceCtorEq,↓reduceIte,Int.reduceToNat,Int.reduceLE,Int.reduceLT,Int.reduceNe,Int.reduceEq,hx,hy,e1];refine⟨fun _=>⟨hil,by omega,fun he=>⟨hil,fun j hj=>?_⟩,fun hne e=>?_⟩,fun h=>absurd hil h⟩
   ·by_cases e:j=i
    ·subst e;simp only[W8,decide_eq_true_eq]at he;obtain⟨⟨q1,q2⟩,q3⟩:=he;rw[hx,hy];cases x;cases y;simp at q1 q2 q3;rw[q1,q2,q3]
    ·exact hinv j (by omega)
   ·rw[e,hy]at hx;have:=XG hx;subst this;simp at hne
  ·simp(maxDischargeDepth:=12) (maxSteps:=1000000) -implicitDefEqProofs only[go_sem,Nat.reduceAdd,Nat.reduceSub,Nat.reduceMul,Nat.reduceLeDiff,Nat.reduceEqDiff,Nat.reduceGT,Nat.reduceBEq,reduceCtorEq,↓reduceIte,Int.reduceToNat,Int.reduceLE,Int.reduceLT,Int.reduceNe,Int.reduceEq];refine⟨fun h=>absurd h hil,fun _=>?_⟩;refine X4 fun j=>?_;by_cases hj:j<l.length
   ·exact hinv j (by omega)
   ·rw[Xe (by omega),Xe (by omega)]
def yy(a b:List UInt8):Bool:=Op.bytesLess a b
@[go_sem] theorem UC (a b:List UInt8) (K:DV→Prop):gl .lss (tx a) (tx b) K=K (.v (.bool (yy a b))):=by
 show K (.v (.bool (Op.bytesLess (tx a).data.toList (tx b).data.toList)))=_;rw[dV,dV];rfl
@[go_sem] theorem UH (a b:List UInt8) (K:DV→Prop):gl .geq (tx a) (tx b) K=K (.v (.bool (!yy a b))):=by
 show K (.v (.bool (!Op.bytesLess (tx a).data.toList (tx b).data.toList)))=_;rw[dV,dV];rfl
@[go_sem] theorem UA (a b:List UInt8) (K:DV→Prop):gl .gtr (tx a) (tx b) K=K (.v (.bool (!(yy a b||decide (a=b))))):=by
 show K (.v (.bool (!(Op.bytesLess (tx a).data.toList (tx b).data.toList||decide ((tx a).data.toList=(tx b).data.toList)))))=_;rw[dV,dV];rfl
theorem P5(w0:W0){S:St}{bx w m own:Nat}{o:bp}{full:Bool}(hb:lk S.box bx=some [bz w])(hw:lk S.box w=some (qS m own o full))(k:List UInt8):
 aa Tryz.prog w0 127 [dS (tx k),bz bx] S (fun d S'=>d=dB (!yy k o.key)∧S'=S):=by
 refine bW [] mx Tryz.func127 rfl rfl (by kernel_rfl) ?_;simp only[Tryz.ntmps127,Xi,XK,Nat.reduceAdd,Nat.reduceSub,List.reduceReplicate,Yc,Yr];simp(maxDischargeDepth:=12) (maxSteps:=1000000) -implicitDefEqProofs only[Tryz.ntmps127,go_sem,Nat.reduceAdd,Nat.reduceSub,Nat.reduceMul,Nat.reduceLeDiff,Nat.reduceEqDiff,Nat.reduceGT,Nat.reduceBEq,reduceCtorEq,↓reduceIte,Int.reduceToNat,Int.reduceLE,Int.reduceLT,Int.reduceNe,Int.reduceEq,hb,hw]
theorem Ew(w0:W0)(x:List UInt8)(S:St):aa Tryz.prog w0 193 [dS (tx x)] S (fun d S'=>d=dB false∧S'=S):=by
 refine bW [] mx Tryz.func193 rfl rfl (by kernel_rfl) ?_;simp(maxDischargeDepth:=12) (maxSteps:=1000000) -implicitDefEqProofs only[Tryz.ntmps193,go_sem,Nat.reduceAdd,Nat.reduceSub,Nat.reduceMul,Nat.reduceLeDiff,Nat.reduceEqDiff,Nat.reduceGT,Nat.reduceBEq,reduceCtorEq,↓reduceIte,Int.reduceToNat,Int.reduceLE,Int.reduceLT,Int.reduceNe,Int.reduceEq]
def Bq(x y:List UInt8):Int:=if yy x y then -1 else if x=y then 0 else 1
theorem PG(w0:W0)(x y:List UInt8)(S:St):aa Tryz.prog w0 183 [dS (tx x),dS (tx y)] S (fun d S'=>d=dI (Bq x y)∧S'=S):=by
 refine bW [] mx Tryz.func183 rfl rfl (by kernel_rfl) ?_;simp(maxDischargeDepth:=12) (maxSteps:=1000000) -implicitDefEqProofs only[Tryz.ntmps183,go_sem,Nat.reduceAdd,Nat.reduceSub,Nat.reduceMul,Nat.reduceLeDiff,Nat.reduceEqDiff,Nat.reduceGT,Nat.reduceBEq,reduceCtorEq,↓reduceIte,Int.reduceToNat,Int.reduceLE,Int.reduceLT,Int.reduceNe,Int.reduceEq];refine ao (Ew _ x _) ?_;simp(maxDischargeDepth:=12) (maxSteps:=1000000) -implicitDefEqProofs only[go_sem,Nat.reduceAdd,Nat.reduceSub,Nat.reduceMul,Nat.reduceLeDiff,Nat.reduceEqDiff,Nat.reduceGT,Nat.reduceBEq,reduceCtorEq,↓reduceIte,Int.reduceToNat,Int.reduceLE,Int.reduceLT,Int.reduceNe,Int.reduceEq];refine ao (Ew _ y _) ?_;simp(maxDischargeDepth:=12) (maxSteps:=1000000) -implicitDefEqProofs only[go_sem,Nat.reduceAdd,Nat.reduceSub,Nat.reduceMul,Nat.reduceLeDiff,Nat.reduceEqDiff,Nat.reduceGT,Nat.reduceBEq,reduceCtorEq,↓reduceIte,Int.reduceToNat,Int.reduceLE,Int.reduceLT,Int.reduceNe,Int.reduceEq];unfold Bq;refine⟨fun h=>by rw[if_pos h],fun h=>⟨fun h2=>?_,fun h2=>?_⟩⟩
 ·rw[h,YE,decide_eq_true_iff]at h2;rw[if_neg (by rw[h];simp),if_pos h2]
 ·rw[h,YE,decide_eq_false_iff_not]at h2;rw[if_neg (by rw[h];simp),if_neg h2]
def pM(a b:iq):Bool:=yy a.key b.key||(decide (a.key=b.key)&&decide (a.vU<b.vU))
theorem Ts(w0:W0)(x y:Int)(S:St):aa Tryz.prog w0 177 [.sl 1 false [dI x,dI y]] S (fun d S'=>d=dI (if x≠0 then x else y)∧S'=S):=by
 refine bW [] mx Tryz.func177 rfl rfl (by kernel_rfl) ?_;simp(maxDischargeDepth:=12) (maxSteps:=1000000) -implicitDefEqProofs only[Tryz.ntmps177,go_sem,Nat.reduceAdd,Nat.reduceSub,Nat.reduceMul,Nat.reduceLeDiff,Nat.reduceEqDiff,Nat.reduceGT,Nat.reduceBEq,reduceCtorEq,↓reduceIte,Int.reduceToNat,Int.reduceLE,Int.reduceLT,Int.reduceNe,Int.reduceEq];refine aX [] 2 [3,6,7,8] (fun a=>[(8,dI a)]) (fun _=>S) (fun a=>(1≤a→x=0)∧(2≤a→y=0)) mx (by kernel_rfl) ?_ ?_
 ·simp(maxDischargeDepth:=12) (maxSteps:=1000000) -implicitDefEqProofs only[go_sem,Nat.reduceAdd,Nat.reduceSub,Nat.reduceMul,Nat.reduceLeDiff,Nat.reduceEqDiff,Nat.reduceGT,Nat.reduceBEq,reduceCtorEq,↓reduceIte,Int.reduceToNat,Int.reduceLE,Int.reduceLT,Int.reduceNe,Int.reduceEq]
 ·intro a ha hA;obtain rfl|rfl|rfl:a=0∨a=1∨a=2:=by omega
  ·simp(maxDischargeDepth:=12) (maxSteps:=1000000) -implicitDefEqProofs only[go_sem,Nat.reduceAdd,Nat.reduceSub,Nat.reduceMul,Nat.reduceLeDiff,Nat.reduceEqDiff,Nat.reduceGT,Nat.reduceBEq,reduceCtorEq,↓reduceIte,Int.reduceToNat,Int.reduceLE,Int.reduceLT,Int.reduceNe,Int.reduceEq];refine⟨fun h=>by rw[if_pos h],fun h=>⟨Xp.1 h,by rfl⟩⟩
  ·simp(maxDischargeDepth:=12) (maxSteps:=1000000) -implicitDefEqProofs only[go_sem,Nat.reduceAdd,Nat.reduceSub,Nat.reduceMul,Nat.reduceLeDiff,Nat.reduceEqDiff,Nat.reduceGT,Nat.reduceBEq,reduceCtorEq,↓reduceIte,Int.reduceToNat,Int.reduceLE,Int.reduceLT,Int.reduceNe,Int.reduceEq];have h0:=hA.1 (by omega);refine⟨fun h=>by rw[if_neg (by omega)],fun h=>⟨⟨h0,Xp.1 h⟩,by rfl⟩⟩
  ·simp(maxDischargeDepth:=12) (maxSteps:=1000000) -implicitDefEqProofs only[go_sem,Nat.reduceAdd,Nat.reduceSub,Nat.reduceMul,Nat.reduceLeDiff,Nat.reduceEqDiff,Nat.reduceGT,Nat.reduceBEq,reduceCtorEq,↓reduceIte,Int.reduceToNat,Int.reduceLE,Int.reduceLT,Int.reduceNe,Int.reduceEq];have h0:=hA.1 (by omega);have h1:=hA.2 (by omega);rw[if_neg (by omega),h1]
def uE(a b:iq):Int:=if Bq a.key b.key≠0 then Bq a.key b.key else pA a.vU b.vU
theorem rW(w0:W0)(a b:iq)(S:St):aa Tryz.prog w0 158 [qT a,qT b] S (fun d S'=>d=dI (uE a b)∧S'=S):=by
 refine bW [] mx Tryz.func158 rfl rfl (by kernel_rfl) ?_;simp(maxDischargeDepth:=12) (maxSteps:=1000000) -implicitDefEqProofs only[Tryz.ntmps158,go_sem,Nat.reduceAdd,Nat.reduceSub,Nat.reduceMul,Nat.reduceLeDiff,Nat.reduceEqDiff,Nat.reduceGT,Nat.reduceBEq,reduceCtorEq,↓reduceIte,Int.reduceToNat,Int.reduceLE,Int.reduceLT,Int.reduceNe,Int.reduceEq];intro b1 b2;have eb:=aw b2 b1.n (by simp(maxDischargeDepth:=12) (maxSteps:=1000000) -implicitDefEqProofs only[go_sem,Nat.reduceAdd,Nat.reduceSub,Nat.reduceMul,Nat.reduceLeDiff,Nat.reduceEqDiff,Nat.reduceGT,Nat.reduceBEq,reduceCtorEq,↓reduceIte,Int.reduceToNat,Int.reduceLE,Int.reduceLT,Int.reduceNe,Int.reduceEq]);refine eu (PG _ a.key b.key _) ?_;simp(maxDischargeDepth:=12) (maxSteps:=1000000) -implicitDefEqProofs only[go_sem,Nat.reduceAdd,Nat.reduceSub,Nat.reduceMul,Nat.reduceLeDiff,Nat.reduceEqDiff,Nat.reduceGT,Nat.reduceBEq,reduceCtorEq,↓reduceIte,Int.reduceToNat,Int.reduceLE,Int.reduceLT,Int.reduceNe,Int.reduceEq,eb];refine eu (l8 _ a.vU b.vU _) ?_;simp(maxDischargeDepth:=12) (maxSteps:=1000000) -implicitDefEqProofs only[go_sem,Nat.reduceAdd,Nat.reduceSub,Nat.reduceMul,Nat.reduceLeDiff,Nat.reduceEqDiff,Nat.reduceGT,Nat.reduceBEq,reduceCtorEq,↓reduceIte,Int.reduceToNat,Int.reduceLE,Int.reduceLT,Int.reduceNe,Int.reduceEq,eb];refine eu (Ts _ (Bq a.key b.key) (pA a.vU b.vU) _) ?_ ⟨.full _ _ _,trivial⟩;simp(maxDischargeDepth:=12) (maxSteps:=1000000) -implicitDefEqProofs only[go_sem,Nat.reduceAdd,Nat.reduceSub,Nat.reduceMul,Nat.reduceLeDiff,Nat.reduceEqDiff,Nat.reduceGT,Nat.reduceBEq,reduceCtorEq,↓reduceIte,Int.reduceToNat,Int.reduceLE,Int.reduceLT,Int.reduceNe,Int.reduceEq];unfold uE;rfl
theorem rD(a b:iq):uE a b<0↔pM a b=true:=by
 unfold uE pM Bq pA
 cases h:yy a.key b.key with
 |true=>simp
 |false=>
  by_cases e:a.key=b.key
  ·simp only[e,if_true,XM,if_false,ne_eq,not_true_eq_false,decide_true,Yw,YE,decide_eq_true_eq];split
   ·simp;assumption
   ·split <;>simp <;>omega
  ·simp[e]
theorem Ir(w0:W0)(a b:iq)(S:St):aa Tryz.prog w0 185 [qT a,qT b] S (fun d S'=>d=dB (pM a b)∧S'=S):=by
 refine bW [] mx Tryz.func185 rfl rfl (by kernel_rfl) ?_;simp(maxDischargeDepth:=12) (maxSteps:=1000000) -implicitDefEqProofs only[Tryz.ntmps185,go_sem,Nat.reduceAdd,Nat.reduceSub,Nat.reduceMul,Nat.reduceLeDiff,Nat.reduceEqDiff,Nat.reduceGT,Nat.reduceBEq,reduceCtorEq,↓reduceIte,Int.reduceToNat,Int.reduceLE,Int.reduceLT,Int.reduceNe,Int.reduceEq];intro b1 b2;refine ao (rW _ a b _) ?_;simp(maxDischargeDepth:=12) (maxSteps:=1000000) -implicitDefEqProofs only[go_sem,Nat.reduceAdd,Nat.reduceSub,Nat.reduceMul,Nat.reduceLeDiff,Nat.reduceEqDiff,Nat.reduceGT,Nat.reduceBEq,reduceCtorEq,↓reduceIte,Int.reduceToNat,Int.reduceLE,Int.reduceLT,Int.reduceNe,Int.reduceEq];exact Bool.eq_iff_iff.2 (decide_eq_true_iff.trans (rD a b))
theorem Gu(w0:W0)(l:List iq)(hl:l.length≤1048576)(ho:∀i x y,l[i]? =some x→l[i+1]? =some y→pM y x=false)(S:St):aa Tryz.prog w0 157 [dA l,.v (.func (.func 158) #[] #[])] S (fun d S'=>d=dB true∧S'=S):=by
 have e0:IntKind.i64.wrap ((l.length:Int)-1)=(l.length:Int)-1:=oD (by omega) (by omega);refine bW [] mx Tryz.func157 rfl rfl (by kernel_rfl) ?_;simp(maxDischargeDepth:=12) (maxSteps:=1000000) -implicitDefEqProofs only[Tryz.ntmps157,go_sem,Nat.reduceAdd,Nat.reduceSub,Nat.reduceMul,Nat.reduceLeDiff,Nat.reduceEqDiff,Nat.reduceGT,Nat.reduceBEq,reduceCtorEq,↓reduceIte,Int.reduceToNat,Int.reduceLE,Int.reduceLT,Int.reduceNe,Int.reduceEq,e0];refine fc [] [0,1,5] (σ:=Nat) (fun i=>[(5,dI ((i:Int)-1))]) (fun _=>S) (fun i=>i≤l.length) (fun i=>i) l.length mx (by kernel_rfl) ⟨Xa _,?_⟩ fun i hi=>?_
 ·simp(maxDischargeDepth:=12) (maxSteps:=1000000) -implicitDefEqProofs only[go_sem,Nat.reduceAdd,Nat.reduceSub,Nat.reduceMul,Nat.reduceLeDiff,Nat.reduceEqDiff,Nat.reduceGT,Nat.reduceBEq,reduceCtorEq,↓reduceIte,Int.reduceToNat,Int.reduceLE,Int.reduceLT,Int.reduceNe,Int.reduceEq]
 ·have e1:IntKind.i64.wrap ((i:Int)-1-1)=(i:Int)-1-1:=oD (by omega) (by omega);simp(maxDischargeDepth:=12) (maxSteps:=1000000) -implicitDefEqProofs only[go_sem,Nat.reduceAdd,Nat.reduceSub,Nat.reduceMul,Nat.reduceLeDiff,Nat.reduceEqDiff,Nat.reduceGT,Nat.reduceBEq,reduceCtorEq,↓reduceIte,Int.reduceToNat,Int.reduceLE,Int.reduceLT,Int.reduceNe,Int.reduceEq,e1];intro hi1;refine⟨by omega,by omega,fun y hy=>⟨by omega,by omega,fun x hx=>?_⟩⟩;have hord:=ho (i-2) x y (by rw[show i-2=((i:Int)-1-1).toNat by omega];exact hx) (by rw[show i-2+1=((i:Int)-1).toNat by omega];exact hy);have hc:¬uE y x<0:=fun h=>by rw[(rD y x).1 h]at hord;cases hord
  refine eu (rW _ y x _) ?_;simp(maxDischargeDepth:=12) (maxSteps:=1000000) -implicitDefEqProofs only[go_sem,Nat.reduceAdd,Nat.reduceSub,Nat.reduceMul,Nat.reduceLeDiff,Nat.reduceEqDiff,Nat.reduceGT,Nat.reduceBEq,reduceCtorEq,↓reduceIte,Int.reduceToNat,Int.reduceLE,Int.reduceLT,Int.reduceNe,Int.reduceEq,e1];exact⟨hc,fun _=>⟨i-1,by omega,by omega,by omega⟩⟩
structure C0 where
 act:Int
 UX:Int
 dQ:Int
 bucket:List UInt8
 key:List UInt8
 VQ:Int
@[go_sem] def sx (r:C0):DV:= .agg [dI r.act,dI r.UX,dI r.dQ,dS (tx r.bucket),dS (tx r.key),.v (.int .u32 r.VQ)]
structure C3 where
 e:Int
 n:Int
 rows:List iq
 om:List C0
@[go_sem] def HC (r:C3):DV:= .agg [dI r.e,dI r.n,.sl 3 false (r.rows.map qT),dI 0,dI 0,dI 0,dI 0,.sl 6 false (r.om.map sx)]
structure tC where
 F:ir
 au:List C0
 has:Int
 D:ir
structure bq where
 l:List tC
 r:List RH
 sn:Int→Int→Int→Option (List ir)
inductive Ow where
 |no|tb|sm|sp
 |b (x:Nat)
 |d (x:Nat)
 |au (x:Nat)
def Ow.own(x:Nat):Ow→Prop
 | .b y=>y=x
 | .d y=>y=x
 | .au y=>y=x
 |_=>False
structure MG where
 m:Nat
 ls:List Nat
 θ:eG
 sn:Nat
 own:Nat→Ow
def MG.bx(g:MG):List Nat:=g.m::g.ls++g.θ.bx
def FZ(own:Nat→Ow)(o:Ow)(l:Nat)(ids:List UInt8→Option Nat):Prop:=own l=o∧∀n i,ids n=some i→own i=o
def OZ(S:St)(r:Nat)(au:List C0):Prop:=lk S.acc r=some (.arr 6 (au.map sx))∨lk S.acc r=some (.tl 6 (au.map sx))
theorem OZ.to{S S':St}{r:Nat}{au:List C0}(h:OZ S r au)(k:∀v,lk S.acc r=some v→lk S'.acc r=some v):OZ S' r au:=h.imp (k _) (k _)
def L7(S:St)(own:Nat→Ow)(N x bx:Nat)(l:tC):Prop:=∃b ids r dr,lk S.box bx=some (lK b (.acc r l.au.length) l.has dr)∧BM S b N ids l.F∧FZ own (.b x) b ids∧OZ S r l.au∧own r= .au x∧(l.has≠0→∃d idd,dr= .mp d∧BM S d N idd l.D∧FZ own (.d x) d idd)
def Hz(lv n k:Int):Value:= .agg [Value.int .i64 lv,.int .i64 n,.int .i64 k].toArray
def Sf(S:St)(own:Nat→Ow)(N:Nat)(bs:List Nat)(Fs:List ir):Prop:=bs.length=Fs.length∧∀(j:Nat) b F,bs[j]? =some b→Fs[j]? =some F→∃ids,BM S b N ids F∧FZ own .sp b ids
def Rw(S:St)(own:Nat→Ow)(N sm:Nat)(sn:Int→Int→Int→Option (List ir)):Prop:=∃es c,lk S.acc sm=some (.xo (.mp (.st [.i64,.i64,.i64]) es c))∧∀lv n k,(sn lv n k=none→aJ es (Hz lv n k)=none)∧∀Fs,sn lv n k=some Fs→∃bs:List Nat,aJ es (Hz lv n k)=some (.sl 1 false (bs.map DV.mp))∧Sf S own N bs Fs
structure MI(S:St)(g:MG)(N:Nat)(c:Cf)(μ:bq):Prop where
 md:lk S.box g.m=some (Dm c g.ls g.θ.t g.sn)
 up:di c.up
 len:g.ls.length=μ.l.length
 nd:(g.m::g.ls).Nodup
 yE:∀i,i∈g.θ.bx→i∉g.m::g.ls
 lb:∀(x:Nat) bx l,g.ls[x]? =some bx→μ.l[x]? =some l→L7 S g.own N x bx l
 tb:TI S g.θ μ.r
 uf:∀i,i∈g.θ.ax→g.own i= .tb
 Bv:Rw S g.own N g.sn μ.sn
 lS:g.own g.sn= .sm
 lx:∀i,g.own i≠ .no→lk S.acc i≠none
theorem Aa{a b c a' b' c':Int}(h:Hz a b c=Hz a' b' c'):a=a'∧b=b'∧c=c':=by
 unfold Hz at h;have h:=congrArg Array.toList (Value.agg.inj h);simp at h;exact h
theorem iO{S S':St}{own:Nat→Ow}{o:Ow}{l N:Nat}{ids:List UInt8→Option Nat}{F:ir}(h:BM S l N ids F)(ho:FZ own o l ids)(ha:∀i x,own i=o→lk S.acc i=some x→lk S'.acc i=some x):BM S' l N ids F:=
 h.mono fun c x hc hx=>ha c x (hc.elim (fun e=>by rw[e];exact ho.1) fun⟨n,hn⟩=>ho.2 n c hn) hx
theorem BM.le{S:St}{l N M:Nat}{ids:List UInt8→Option Nat}{F:ir}(h:BM S l N ids F)(k:N≤M):BM S l M ids F:=by
 obtain⟨es,c,h1,h2,h3⟩:=h.top;exact⟨⟨es,c,h1,by omega,h3⟩,h.some_,fun n i f q1 q2=>(h.low n i f q1 q2).le k,h.inj,h.ne⟩
theorem pP{own own':Nat→Ow}{o:Ow}{l:Nat}{ids:List UInt8→Option Nat}(h:FZ own o l ids)(k:∀i,own i=o→own' i=o):FZ own' o l ids:=⟨k _ h.1,fun n i q=>k _ (h.2 n i q)⟩
theorem sH{S S':St}{own own':Nat→Ow}{N M x bx:Nat}{l:tC}(h:L7 S own N x bx l)(hNM:N≤M)(hb:∀v,lk S.box bx=some v→lk S'.box bx=some v)(ho:∀i,(own i).own x→own' i=own i)(ha:∀i v,(own i).own x→lk S.acc i=some v→lk S'.acc i=some v):L7 S' own' M x bx l:=by
 obtain⟨b,ids,r,dr,h1,h2,h3,h4,h5,h6⟩:=h;have e1:∀i,own i= .b x→(own i).own x:=fun i e=>by rw[e];exact rfl
 have e2:∀i,own i= .d x→(own i).own x:=fun i e=>by rw[e];exact rfl
 have e3:∀i,own i= .au x→(own i).own x:=fun i e=>by rw[e];exact rfl
 refine⟨b,ids,r,dr,hb _ h1,(iO h2 h3 fun i v e=>ha i v (e1 i e)).le hNM,pP h3 fun i e=>(ho i (e1 i e)).trans e,h4.to fun v=>ha r v (e3 r h5),(ho r (e3 r h5)).trans h5,fun h=>?_⟩;obtain⟨d,idd,q1,q2,q3⟩:=h6 h;exact⟨d,idd,q1,(iO q2 q3 fun i v e=>ha i v (e2 i e)).le hNM,pP q3 fun i e=>(ho i (e2 i e)).trans e⟩
theorem xM{S S':St}{own own':Nat→Ow}{N M:Nat}{bs:List Nat}{Fs:List ir}(h:Sf S own N bs Fs)(hNM:N≤M)(ho:∀i,own i= .sp→own' i= .sp)(ha:∀i v,own i= .sp→lk S.acc i=some v→lk S'.acc i=some v):Sf S' own' M bs Fs:=
 ⟨h.1,fun j b F q1 q2=>let⟨ids,q3,q4⟩:=h.2 j b F q1 q2;⟨ids,(iO q3 q4 fun i v e=>ha i v e).le hNM,pP q4 ho⟩⟩
theorem tO{S S':St}{own own':Nat→Ow}{N M sm:Nat}{sn:Int→Int→Int→Option (List ir)}(h:Rw S own N sm sn)(hNM:N≤M)(ho:∀i,own i= .sp→own' i= .sp)(ha:∀i v,own i= .sp→lk S.acc i=some v→lk S'.acc i=some v)(hs:∀v,lk S.acc sm=some v→lk S'.acc sm=some v):Rw S' own' M sm sn:=by
 obtain⟨es,c,h1,h2⟩:=h;refine⟨es,c,hs _ h1,fun lv n k=>⟨(h2 lv n k).1,fun Fs hF=>?_⟩⟩;obtain⟨bs,q1,q2⟩:=(h2 lv n k).2 Fs hF;exact⟨bs,q1,xM q2 hNM ho ha⟩
theorem MI.ri{S:St}{g:MG}{N:Nat}{c:Cf}{μ:bq}(h:MI S g N c μ){x bx:Nat}(hx:g.ls[x]? =some bx):∃l,μ.l[x]? =some l∧L7 S g.own N x bx l:=by
 have hlt:=(W6.1 hx).1;rw[h.len]at hlt;exact⟨_,W5 hlt,h.lb x bx _ hx (W5 hlt)⟩
theorem cE{α:Type}{L:List (Nat×α)}{b:Nat}{x v:α}(h:lk L b=some x):lk (up L b v) b=some v:=by rw[aE,h];rfl
theorem aZ{α:Type}{o:Option α}(h:o≠none):∃x,o=some x:=XD.1 h
theorem MI.to{S S':St}{g:MG}{N M:Nat}{c:Cf}{μ:bq}(h:MI S g N c μ)(hNM:N≤M)(hb:∀i v,i∈g.bx→lk S.box i=some v→lk S'.box i=some v)(ha:∀i v,g.own i≠ .no→lk S.acc i=some v→lk S'.acc i=some v):MI S' g M c μ where
 md:=hb _ _ (by simp[MG.bx]) h.md
 up:=h.up
 len:=h.len
 nd:=h.nd
 yE:=h.yE
 lb:=fun x bx l h1 h2=>sH (h.lb x bx l h1 h2) hNM (fun v q=>hb bx v (by have:=W7 h1;simp[MG.bx,this]) q) (fun _ _=>rfl) fun i v q=>ha i v (fun e=>by rw[e]at q;exact q)
 tb:=h.tb.mono (fun i v q=>hb i v (by simp[MG.bx,q])) fun i v q=>ha i v (by rw[h.uf i q];simp)
 uf:=h.uf
 Bv:=tO h.Bv hNM (fun _ e=>e) (fun i v e=>ha i v (by rw[e];simp)) fun v=>ha _ v (by rw[h.lS];simp)
 lS:=h.lS
 lx:=fun i q=>by
  obtain⟨x,hx⟩:=aZ (h.lx i q);rw[ha i x q hx];simp
theorem MI.le{S:St}{g:MG}{N M:Nat}{c:Cf}{μ:bq}(h:MI S g N c μ)(hNM:N≤M):MI S g M c μ:=h.to hNM (fun _ _ _ q=>q) fun _ _ _ q=>q
theorem MI.lL{S:St}{g:MG}{N:Nat}{c:Cf}{μ:bq}(h:MI S g N c μ){i:Nat}(hi:i∈g.bx):lk S.box i≠none:=by
 unfold MG.bx at hi;rcases Xh.1 hi with q|q
 ·rcases Xm.1 q with q|q
  ·rw[q,h.md];simp
  ·obtain⟨x,hx⟩:=XI.1 q;obtain⟨l,_,b,ids,r,dr,h1,_⟩:=h.ri hx;rw[h1];simp
 ·exact h.tb.lL i q
structure gF(S S':St)(g g':MG):Prop where
 m:g'.m=g.m
 box:∀i v,i∉g.bx→lk S.box i=some v→lk S'.box i=some v
 acc:∀i v,g.own i= .no→lk S.acc i=some v→lk S'.acc i=some v
 nb:∀i,i∈g'.bx→i∈g.bx∨lk S.box i=none
 na:∀i,g'.own i≠ .no→g.own i≠ .no∨lk S.acc i=none
theorem gF.refl(S:St)(g:MG):gF S S g g:=⟨rfl,fun _ _ _ q=>q,fun _ _ _ q=>q,fun _ q=> .inl q,fun _ q=> .inl q⟩
theorem gF.trans{S T U:St}{g h k:MG}(a:gF S T g h)(b:gF T U h k):gF S U g k:=by
 have kb:∀i v,i∉g.bx→lk S.box i=some v→i∉h.bx:=fun i v q1 q2 q3=>by
  rcases a.nb i q3 with q|q
  ·exact q1 q
  ·rw[q2]at q;cases q
 have ka:∀i v,g.own i= .no→lk S.acc i=some v→h.own i= .no:=fun i v q1 q2=>by
  refine Xp.1 fun q3=>?_;rcases a.na i q3 with q|q
  ·exact q q1
  ·rw[q2]at q;cases q
 refine⟨b.m.trans a.m,fun i v q1 q2=>b.box i v (kb i v q1 q2) (a.box i v q1 q2),fun i v q1 q2=>b.acc i v (ka i v q1 q2) (a.acc i v q1 q2),fun i q=>?_,fun i q=>?_⟩
 ·rcases b.nb i q with r|r
  ·exact a.nb i r
  ·refine(Zl (i∈g.bx)).imp id fun q1=>?_
   cases hx:lk S.box i with
   |none=>rfl
   |some v=>rw[a.box i v q1 hx]at r;cases r
 ·rcases b.na i q with r|r
  ·exact a.na i r
  ·refine(Zl (g.own i≠ .no)).imp id fun q1=>?_;have q1:=Xp.1 q1
   cases hx:lk S.acc i with
   |none=>rfl
   |some v=>rw[a.acc i v q1 hx]at r;cases r
theorem gF.has{S T:St}{g:MG}(h:Has S T):gF S T g g:=⟨rfl,fun i v _ q=>h.box i v q,fun i v _ q=>h.acc i v q,fun _ q=> .inl q,fun _ q=> .inl q⟩
theorem MI.has{S T:St}{g:MG}{N:Nat}{c:Cf}{μ:bq}(h:MI S g N c μ)(k:Has S T):MI T g N c μ:=h.to (Xa _) (fun i v _ q=>k.box i v q) fun i v _ q=>k.acc i v q
def wG(w0:W0)(S:St)(g:MG)(N:Nat)(c:Cf)(μ:bq)(e:Int):Prop:=∀T g',MI T g' (N+1) c μ→gF S T g g'→w0.pq (.im 33 (dI e)) T
theorem wG.er{w0:W0}{S:St}{g:MG}{N:Nat}{c:Cf}{μ:bq}{e:Int}(h:wG w0 S g N c μ e)(hI:MI S g N c μ):mu w0 S e:=fun T hT=>h T g ((hI.has hT).le (XA N)) (.has hT)
theorem MI.BA{S S':St}{g:MG}{N M:Nat}{c:Cf}{μ:bq}(h:MI S g N c μ)(hNM:N≤M){x bx:Nat}(hx:g.ls[x]? =some bx)(own':Nat→Ow)(l':tC)
 (hb:∀i v,i≠bx→lk S.box i=some v→lk S'.box i=some v)
 (ho:∀i,g.own i≠ .no→¬(g.own i).own x→own' i=g.own i)
 (ha:∀i v,g.own i≠ .no→¬(g.own i).own x→lk S.acc i=some v→lk S'.acc i=some v)
 (hl:L7 S' own' M x bx l') (hlv:∀i,own' i≠ .no→lk S'.acc i≠none):MI S' ⟨g.m,g.ls,g.θ,g.sn,own'⟩ M c ⟨μ.l.set x l',μ.r,μ.sn⟩ where
 md:=hb _ _ (fun e=>(Xo.1 h.nd).1 (e▸W7 hx)) h.md
 up:=h.up
 len:=by simp[h.len]
 nd:=h.nd
 yE:=h.yE
 lb:=fun y by_ l h1 h2=>by
  simp only at h1 h2;by_cases e:x=y
  ·subst e;rw[hx]at h1;cases h1;rw[X7 (by rw[←h.len];exact(W6.1 hx).1)]at h2;cases h2;exact hl
  ·rw[X8 e]at h2
   have hnx:∀i,(g.own i).own y→g.own i≠ .no∧¬(g.own i).own x:=fun i q=>⟨fun r=>by rw[r]at q;exact q,fun r=>by
    cases hw:g.own i <;>rw[hw]at q r <;>simp only[Ow.own]at q r <;>omega⟩
   have hbne:by_≠bx:=fun r=>by
    have hnd:=(Xo.1 h.nd).2;rw[r]at h1;exact e ((List.getElem?_inj (W6.1 hx).1 hnd).1 (by rw[hx,h1]))
   exact sH (h.lb y by_ l h1 h2) hNM (fun v q=>hb by_ v hbne q) (fun i q=>ho i (hnx i q).1 (hnx i q).2) fun i v q=>ha i v (hnx i q).1 (hnx i q).2
 tb:=h.tb.mono (fun i v q=>hb i v fun e=>h.yE i q (by rw[e];exact Xc _ (W7 hx))) fun i v q=>ha i v (by rw[h.uf i q];simp) (by rw[h.uf i q];exact id)
 uf:=fun i q=>by
  have:=h.uf i q;exact(ho i (by rw[this];simp) (by rw[this];exact id)).trans this
 Bv:=tO h.Bv hNM (fun i e=>(ho i (by rw[e];simp) (by rw[e];exact id)).trans e) (fun i v e=>ha i v (by rw[e];simp) (by rw[e];exact id)) fun v=>ha _ v (by rw[h.lS];simp) (by rw[h.lS];exact id)
 lS:=(ho _ (by rw[h.lS];simp) (by rw[h.lS];exact id)).trans h.lS
 lx:=hlv
def kU(e:Int):C3:=⟨e,0,[],[]⟩
def C1(n:Int):C3:=⟨0,n,[],[]⟩
abbrev gv:=Int ⊕ (C3×bq)
def bF(μ:bq)(o:bp)(l:tC):gv:= .inr (kU 0,⟨μ.l.set o.level.toNat l,μ.r,μ.sn⟩)
def aO(μ:bq)(x:Int):tC:=(if 0≤x then μ.l[x.toNat]? else none).getD ⟨fun _=>none,[],0,fun _=>none⟩
def fu(μ:bq)(o:bp):gv:=let l:=aO μ o.level
 .inr (kU 0,⟨μ.l.set o.level.toNat {l with has:=if l.has=o.aC then 0 else l.has},(nO μ.r o.level o.aC).1,μ.sn⟩)
def ej(μ:bq)(o:bp):gv:=let l:=aO μ o.level
 if l.has≠0 then .inl 36 else bF μ o {l with has:=o.aC,D:=l.F}
def cP(μ:bq)(o:bp):gv:=let l:=aO μ o.level
 if l.has≠o.aC then .inl 35 else bF μ o {l with has:=0,F:=l.D}
def bH(μ:bq)(o:bp):gv:=let l:=aO μ o.level
 if l.has≠o.aC then .inl 35 else bF μ o {l with has:=0}
def fx(s:List UInt8)(m:Int):Prop:=s≠[]∧(s.length:Int)≤m
instance (s:List UInt8) (m:Int):Decidable (fx s m):=by unfold fx;infer_instance
def xf{α:Type}(f:List UInt8→Option α)(k:List UInt8):List UInt8→Option α:=fun j=>if j=k then none else f j
def fh(μ:bq)(o:bp)(full:Bool):gv:=let l:=aO μ o.level
 if l.has≠o.aC then .inl 35 else if¬fx o.bucket 15 then .inl 34 else if(l.D o.bucket).isSome then .inl 38 else if full then .inl 37 else bF μ o {l with D:=fM l.D o.bucket fun _=>none}
def fE(μ:bq)(o:bp)(full:Bool):gv:=let l:=aO μ o.level
 if l.has≠o.aC then .inl 35 else if(l.D o.bucket).isNone then .inl 32 else if full then .inl 37 else bF μ o {l with D:=xf l.D o.bucket}
def jw(μ:bq)(o:bp)(full:Bool):gv:=let l:=aO μ o.level
 if l.has≠o.aC then .inl 35 else if¬(fx o.key 16∧o.value.length≤400)then .inl 34 else
 match l.D o.bucket with
 |none=> .inl 32
 |some f=>if full then .inl 37 else bF μ o {l with D:=fM l.D o.bucket fun j=>if j=o.key then some o.value else f j}
def bZ(μ:bq)(o:bp)(full:Bool):gv:=let l:=aO μ o.level
 if l.has≠o.aC then .inl 35 else
 match l.D o.bucket with
 |none=> .inl 32
 |some f=>if(f o.key).isNone then .inl 33 else if full then .inl 37 else bF μ o {l with D:=fM l.D o.bucket (xf f o.key)}
def dc(μ:bq)(o:bp)(x:Nat):ir:=if o.snap≠0 then(((μ.sn o.level o.aC o.snap).getD [])[x]?).getD fun _=>none else if(x:Int)=o.level∧(aO μ o.level).has=o.aC then(aO μ o.level).D else(aO μ x).F
noncomputable def oh(x:Nat)(p:List UInt8→Bool)(f:Option (List UInt8→Option (List UInt8))):List iq:=match f with
 |none=>[]
 |some f=>((cL f).filter p).map fun k=>⟨k,x,(f k).getD []⟩
def gx(c:Cf)(μ:bq)(o:bp)(i:Nat):List Nat:=(List.range i).filter fun x:Nat=>cR c.up (x:Int) o.level
noncomputable def bg(c:Cf)(μ:bq)(o:bp)(p:List UInt8→Bool)(i:Nat):List (List iq):=(gx c μ o i).map fun x=>oh x p (dc μ o x o.bucket)
def eJ(c:Cf)(μ:bq)(o:bp)(i:Nat):Bool:=(gx c μ o i).any fun x=>(dc μ o x o.bucket).isSome
def kH:List iq→List iq→List iq
 |[],m=>m
 |l,[]=>l
 |a::l,b::m=>if pM b a then b::kH (a::l) m else a::kH l (b::m)
termination_by l m=>l.length+m.length
def Qz(rows:List (List iq))(most:Int):List iq:=(rows.foldl kH []).take most.toNat
def eQ(μ:bq)(o:bp):Prop:=o.snap≠0∧o.snap∉Bk μ.r o.level o.aC
instance (μ:bq) (o:bp):Decidable (eQ μ o):=by unfold eQ;infer_instance
noncomputable def getM(c:Cf)(μ:bq)(o:bp):gv:=
 if eQ μ o then .inl 39 else if eJ c μ o μ.l.length=false then .inl 32 else
 let rows:=(bg c μ o (fun k=>decide (k=o.key)) μ.l.length).flatten
 if rows=[]then .inl 33 else .inr (⟨0,0,rows,[]⟩,μ)
noncomputable def gy(c:Cf)(μ:bq)(o:bp):gv:=
 if eQ μ o then .inl 39 else if eJ c μ o μ.l.length=false then .inl 32 else
 .inr (⟨0,0,Qz (bg c μ o (fun k=>!yy k o.key) μ.l.length) (ry o.n),[]⟩,μ)
def n9(sn:Int→Int→Int→Option (List ir))(lv n k:Int)(v:Option (List ir)):Int→Int→Int→Option (List ir):=fun a b d=>if a=lv∧b=n∧d=k then v else sn a b d
def jk(μ:bq)(o:bp):gv:= .inr (C1 (qw μ.r o.level o.aC).2,⟨μ.l,(qw μ.r o.level o.aC).1,n9 μ.sn o.level o.aC (qw μ.r o.level o.aC).2 (some (μ.l.map tC.F))⟩)
def cN(μ:bq)(o:bp):gv:=if(oy μ.r o.level o.aC o.snap).2=false then .inl 39 else .inr (kU 0,⟨μ.l,(oy μ.r o.level o.aC o.snap).1,n9 μ.sn o.level o.aC o.snap none⟩)
def eD(c:Cf)(μ:bq)(o:bp):gv:=if cR c.up o.label o.level=false then .inl 31 else .inr (kU 0,μ)
def dn(c:Cf)(μ:bq)(o:bp):gv:=if cR c.up o.label o.level=false then .inl 31 else .inr (⟨0,0,[],(((aO μ o.label).au).drop o.n.toNat).take 50⟩,μ)
def ey(dg:List UInt8→Int)(c:Cf)(μ:bq)(o:bp)(full:Bool):gv:=
 if¬(cR c.up o.label o.level=true∧cR c.up o.dQ o.level=true∧(⟨o.level,o.label,o.dQ⟩:G)∈c.gr)then .inl 31 else
 let t:=aO μ o.dQ
 if t.has≠0 then .inl 36 else
 match(aO μ o.label).F o.bucket with
 |none=> .inl 32
 |some f=>match f o.key with
  |none=> .inl 33
  |some v=>match t.F o.bucket with
   |none=> .inl 32
   |some g=>if full then .inl 37 else .inr (C1 t.au.length,⟨μ.l.set o.dQ.toNat {t with F:=fM t.F o.bucket (fun j=>if j=o.key then some v else g j),au:=t.au++[⟨o.level,o.label,o.dQ,o.bucket,o.key,dg v⟩]},μ.r,μ.sn⟩)
def bL(μ:bq)(o:bp)(full:Bool):bq:=⟨(List.range μ.l.length).map fun x:Nat=>let l:=aO μ x
 {l with has:=0,F:=if(x:Int)=o.level∧0<o.aC∧l.has=o.aC∧full=false then l.D else l.F},[],fun _ _ _=>none⟩
noncomputable def bC(dg:List UInt8→Int)(c:Cf)(μ:bq)(o:bp)(full:Bool):gv:=
 if o.kind=1 then fu μ o else if o.kind=2 then ej μ o else if o.kind=3 then cP μ o else if o.kind=4 then bH μ o else if o.kind=5 then fh μ o full else if o.kind=6 then fE μ o full else
 if o.kind=7 then jw μ o full else if o.kind=8 then bZ μ o full else if o.kind=9 then getM c μ o else if o.kind=10 then gy c μ o else if o.kind=11 then jk μ o else if o.kind=12 then cN μ o else
 if o.kind=13 then eD c μ o else if o.kind=14 then dn c μ o else ey dg c μ o full
def Gp(μ:bq):gv→C3×bq
 | .inl e=>(kU e,μ)
 | .inr p=>p
noncomputable def dF(dg:List UInt8→Int)(c:Cf)(μ:bq)(o:bp)(full:Bool):C3×bq:=
 if pX μ.l.length o=false then(kU 40,μ)else if o.kind=0 then(C1 (lM μ.r o.level).2,⟨μ.l,(lM μ.r o.level).1,μ.sn⟩)else if o.kind=16 then(kU 0,bL μ o full)else
 if¬dm μ.r o.level o.aC<μ.r.length then(kU 30,μ)else Gp μ (bC dg c μ o full)
end Go.Proofs.YtoepfmhnapedoaaGreatDoor
namespace Go.Proofs.YtoepfmhnapedoaaGreatDoor
open Aml Go Rn Lat Grs
structure lY(S:St)(g:MG)(w own:Nat)(o:bp)(full:Bool):Prop where
 k:lk S.box w=some (qS g.m own o full)
 l:g.ls[o.level.toNat]? =some own
 p:0≤o.level
 f:w∉g.bx
 s:o.aC≠0
def kG(S:St)(g:MG)(M:Nat)(c:Cf)(out:gv)(d:DV)(S':St):Prop:=∃r μ' g',out= .inr (r,μ')∧Wk d (HC r)∧MI S' g' M c μ'∧gF S S' g g'
theorem ie:Wk HJ (HC (kU 0)):= .agg ⟨.refl _,.refl _,.nil _ _ _,.refl _,.refl _,.refl _,.refl _,.nil _ _ _,trivial⟩
theorem bh{μ:bq}{x:Int}{l:tC}(h:μ.l[x.toNat]? =some l)(hp:0≤x):aO μ x=l:=by unfold aO;rw[if_pos hp,h];rfl
theorem lY.bx{S:St}{g:MG}{w own:Nat}{o:bp}{full:Bool}(h:lY S g w own o full):own∈g.bx:=by
 have:=W7 h.l;simp[MG.bx,this]
theorem lY.ne{S:St}{g:MG}{w own:Nat}{o:bp}{full:Bool}(h:lY S g w own o full):own≠w:=fun e=>h.f (e▸h.bx)
theorem gF.BA{S S':St}{g:MG}{bx:Nat}(hx:bx∈g.bx)(own':Nat→Ow)(hb:∀i v,i≠bx→lk S.box i=some v→lk S'.box i=some v)(ha:∀i v,g.own i= .no→lk S.acc i=some v→lk S'.acc i=some v)(na:∀i,own' i≠ .no→g.own i≠ .no∨lk S.acc i=none):gF S S' g ⟨g.m,g.ls,g.θ,g.sn,own'⟩:=
 ⟨rfl,fun i v q1 q2=>hb i v (fun e=>q1 (e▸hx)) q2,ha,fun i q=> .inl q,na⟩
theorem jd{S S':St}{l N:Nat}{ids:List UInt8→Option Nat}{F:ir}(h:BM S l N ids F)(e:S'.acc=S.acc):BM S' l N ids F:=h.mono fun c x _ q=>by rw[e];exact q
theorem qG{S:St}{own:Nat→Ow}{N x:Nat}{l:tC}{dr:DV}{aC:Int}(h6:l.has≠0→∃d idd,dr= .mp d∧BM S d N idd l.D∧FZ own (.d x) d idd)(hs:aC≠0):∃d idd,l.has=aC→dr= .mp d∧BM S d N idd l.D∧FZ own (.d x) d idd:=by
 by_cases e:l.has=aC
 ·obtain⟨d,idd,h⟩:=h6 (by rw[e];exact hs);exact⟨d,idd,fun _=>h⟩
 ·exact⟨0,fun _=>none,fun q=>absurd q e⟩
theorem ij{S:St}{l N:Nat}{ids:List UInt8→Option Nat}{F:ir}(h:BM S l N ids F){n:List UInt8}{i:Nat}(hi:ids n=some i):∃f,F n=some f:=aZ fun q=>by rw[(h.some_ n).2 q]at hi;cases hi
section
variable {w0:W0} {S:St} {g:MG} {N:Nat} {c:Cf} {μ:bq} {w own:Nat} {o:bp} {full:Bool}
theorem Bp(hI:MI S g N c μ)(hw:lY S g w own o full)(hq:∀e,bH μ o= .inl e→wG w0 S g N c μ e):aa Tryz.prog w0 72 [bz w] S (kG S g (N+1) c (bH μ o)):=by
 obtain⟨l,hl,b,ids,r,dr,h1,h2,h3,h4,h5,h6⟩:=hI.ri hw.l;have el:=bh hl hw.p;refine(Ba w0 hw.k h1 fun hh=>(hq 35 (by unfold bH;rw[el];exact if_pos hh)).er hI).mono ?_;rintro d S' ⟨hh,rfl,rfl⟩;refine⟨kU 0,_,⟨g.m,g.ls,g.θ,g.sn,g.own⟩,by unfold bH bF;rw[el];exact if_neg (fun q=>q hh),ie,?_,?_⟩
 ·refine hI.BA (by omega) hw.l g.own {l with has:=0} (fun i v q1 q2=>by show lk (up _ _ _) _=_;rw[ab (Yd q1)];exact q2) (fun _ _ _=>rfl) (fun i v _ _ q=>q) ⟨b,ids,r,dr,cE h1,jd (h2.le (XA N)) rfl,h3,h4,h5,fun q=>absurd rfl q⟩ hI.lx
 ·exact .BA hw.bx _ (fun i v q1 q2=>by show lk (up _ _ _) _=_;rw[ab (Yd q1)];exact q2) (fun i v _ q=>q) fun i q=> .inl q
def yV(x:Nat)(own:Nat→Ow):Nat→Ow:=fun i=>match own i with
 | .d y=>if y=x then .b x else .d y
 |o=>o
theorem gL{x:Nat}{own:Nat→Ow}{i:Nat}(h:own i≠ .d x):yV x own i=own i:=by
 unfold yV;cases hi:own i <;>try rfl
 rename_i y;simp only;rw[if_neg];rintro rfl;exact h hi
theorem o5{x:Nat}{own:Nat→Ow}{i:Nat}(h:own i= .d x):yV x own i= .b x:=by unfold yV;rw[h];simp
theorem tN{x:Nat}{own:Nat→Ow}{i:Nat}:yV x own i≠ .no↔own i≠ .no:=by
 by_cases h:own i= .d x
 ·rw[o5 h,h];simp
 ·rw[gL h]
theorem JZ(hI:MI S g N c μ)(hw:lY S g w own o full)(hq:∀e,cP μ o= .inl e→wG w0 S g N c μ e):aa Tryz.prog w0 71 [bz w] S (kG S g (N+1) c (cP μ o)):=by
 obtain⟨l,hl,b,ids,r,dr,h1,h2,h3,h4,h5,h6⟩:=hI.ri hw.l;have el:=bh hl hw.p;obtain⟨d,idd,hd⟩:=qG h6 hw.s;refine(Je w0 hw.k h1 (fun hh=>(hd hh).1) (eq_false hw.ne) fun hh=>(hq 35 (by unfold cP;rw[el];exact if_pos hh)).er hI).mono ?_;rintro _ S' ⟨hh,rfl,rfl⟩;obtain⟨rfl,hB,hO⟩:=hd hh;refine⟨kU 0,_,⟨g.m,g.ls,g.θ,g.sn,yV o.level.toNat g.own⟩,by unfold cP bF;rw[el];exact if_neg (fun q=>q hh),ie,?_,?_⟩
 ·refine hI.BA (by omega) hw.l _ {l with has:=0,F:=l.D} (fun i v q1 q2=>by show lk (up _ _ _) _=_;rw[ab (Yd q1)];exact q2) (fun i _ q=>gL fun e=>q (by rw[e];exact rfl)) (fun i v _ _ q=>q) ⟨d,idd,r,.mp d,cE h1,jd (hB.le (XA N)) rfl,⟨o5 hO.1,fun n i q=>o5 (hO.2 n i q)⟩,h4,(gL (by rw[h5];simp)).trans h5,fun q=>absurd rfl q⟩ fun i q=>hI.lx i (tN.1 q)
 ·exact .BA hw.bx _ (fun i v q1 q2=>by show lk (up _ _ _) _=_;rw[ab (Yd q1)];exact q2) (fun i v _ q=>q) fun i q=> .inl (tN.1 q)
theorem sE(hI:MI S g N c μ)(hw:lY S g w own o full){l:tC}(hl:μ.l[o.level.toNat]? =some l){b r d:Nat}{ids:List UInt8→Option Nat}(h1:lk S.box own=some (lK b (.acc r l.au.length) l.has (.mp d)))(h2:BM S b N ids l.F)(h3:FZ g.own (.b o.level.toNat) b ids)(h4:OZ S r l.au)(h5:g.own r= .au o.level.toNat)
 {S':St} (hbx:S'.box=S.box) (own':Nat→Ow) {D:ir} {idd:List UInt8→Option Nat} (hB:BM S' d (N+1) idd D) (hO:FZ own' (.d o.level.toNat) d idd)
 (hk:∀i v,g.own i≠ .d o.level.toNat→lk S.acc i=some v→lk S'.acc i=some v) (ho:∀i,g.own i≠ .no→own' i=g.own i) (hn:∀i,own' i≠ .no→lk S'.acc i≠none∧(g.own i≠ .no∨lk S.acc i=none)):MI S' ⟨g.m,g.ls,g.θ,g.sn,own'⟩ (N+1) c ⟨μ.l.set o.level.toNat {l with D:=D},μ.r,μ.sn⟩∧gF S S' g ⟨g.m,g.ls,g.θ,g.sn,own'⟩:=by
 refine⟨?_,?_⟩
 ·refine hI.BA (by omega) hw.l own' {l with D:=D} (fun i v _ q2=>by rw[hbx];exact q2) (fun i q _=>ho i q) (fun i v _ q1 q2=>hk i v (fun e=>q1 (by rw[e];exact rfl)) q2) ⟨b,ids,r,.mp d,by rw[hbx];exact h1,(iO h2 h3 fun i v e q=>hk i v (by rw[e];simp) q).le (by omega),pP h3 fun i e=>(ho i (by rw[e];simp)).trans e,h4.to fun v=>hk r v (by rw[h5];simp),(ho r (by rw[h5];simp)).trans h5,fun _=>⟨d,idd,rfl,hB,hO⟩⟩ fun i q=>(hn i q).1
 ·exact .BA hw.bx _ (fun i v _ q2=>by rw[hbx];exact q2) (fun i v e q=>hk i v (by rw[e];simp) q) fun i q=>(hn i q).2
theorem gU{S:St}{i j:Nat}{o:Ob}(h:lk S.acc j≠none):lk (up S.acc i o) j≠none:=eO h
theorem Sk(hI:MI S g N c μ)(hw:lY S g w own o full)(hq:∀e,jw μ o full= .inl e→wG w0 S g N c μ e):aa Tryz.prog w0 75 [bz w] S (kG S g (N+1) c (jw μ o full)):=by
 obtain⟨l,hl,b,ids,r,dr,h1,h2,h3,h4,h5,h6⟩:=hI.ri hw.l;have el:=bh hl hw.p;obtain⟨d,idd,hd⟩:=qG h6 hw.s;refine(O9 w0 hw.k h1 (fun hh=>⟨(hd hh).1,(hd hh).2.1⟩) (fun hh=>(hq 35 ?_).er hI) (fun hh hk=>(hq 34 ?_).er hI) (fun hh hk hi=>(hq 32 ?_).er hI) (fun hh hk hi hf=>(hq 37 ?_).er hI)).mono ?_
 ·unfold jw;rw[el];exact if_pos hh
 ·unfold jw fx;rw[el];simp only;rw[if_neg (fun q=>q hh),if_pos (fun q=>hk ⟨q.1.1,q.1.2,q.2⟩)]
 ·unfold jw fx;rw[el];simp only;rw[if_neg (fun q=>q hh),if_neg (fun q=>q ⟨⟨hk.1,hk.2.1⟩,hk.2.2⟩),((hd hh).2.1.some_ _).1 hi]
 ·obtain⟨i,hi⟩:=aZ hi;obtain⟨f,hf'⟩:=ij (hd hh).2.1 hi;unfold jw fx;rw[el];simp only;rw[if_neg (fun q=>q hh),if_neg (fun q=>q ⟨⟨hk.1,hk.2.1⟩,hk.2.2⟩),hf',hf];simp
 ·rintro _ S' ⟨hh,hk,hf,i,es,cl,hi,g1,rfl,rfl⟩;obtain⟨rfl,hB,hO⟩:=hd hh;obtain⟨f,hf'⟩:=ij hB hi;have hB':=FH hB hi hf' g1 o.key o.value;have oi:=hO.2 _ _ hi;obtain⟨k1,k2⟩:=sE hI hw hl h1 h2 h3 h4 h5 (S':=⟨S.box,up S.acc i _⟩) rfl g.own hB' hO (fun j v e q=>by show lk (up _ _ _) _=_;rw[ab (fun q=>e (by rw[←q];exact oi))];exact q) (fun _ _=>rfl) fun j q=>⟨gU (hI.lx j q),.inl q⟩;exact⟨kU 0,_,_,by unfold jw fx bF;rw[el];simp only;rw[if_neg (fun q=>q hh),if_neg (fun q=>q ⟨⟨hk.1,hk.2.1⟩,hk.2.2⟩),hf',hf];rfl,ie,k1,k2⟩
theorem Pt(hI:MI S g N c μ)(hw:lY S g w own o full)(hq:∀e,fE μ o full= .inl e→wG w0 S g N c μ e):aa Tryz.prog w0 74 [bz w] S (kG S g (N+1) c (fE μ o full)):=by
 obtain⟨l,hl,b,ids,r,dr,h1,h2,h3,h4,h5,h6⟩:=hI.ri hw.l;have el:=bh hl hw.p;obtain⟨d,idd,hd⟩:=qG h6 hw.s;refine(Pv w0 hw.k h1 (fun hh=>⟨(hd hh).1,(hd hh).2.1⟩) (fun hh=>(hq 35 ?_).er hI) (fun hh hi=>(hq 32 ?_).er hI) (fun hh hi hf=>(hq 37 ?_).er hI)).mono ?_
 ·unfold fE;rw[el];exact if_pos hh
 ·unfold fE;rw[el];simp only;rw[if_neg (fun q=>q hh),((hd hh).2.1.some_ _).1 hi];rfl
 ·obtain⟨i,hi⟩:=aZ hi;obtain⟨f,hf'⟩:=ij (hd hh).2.1 hi;unfold fE;rw[el];simp only;rw[if_neg (fun q=>q hh),hf',hf];rfl
 ·rintro _ S' ⟨hh,hf,i,es,cl,hi,g1,rfl,rfl⟩;obtain⟨rfl,hB,hO⟩:=hd hh;obtain⟨f,hf'⟩:=ij hB hi;have hB':=(I1 hB g1 o.bucket).le (XA N)
  obtain⟨k1,k2⟩:=sE hI hw hl h1 h2 h3 h4 h5 (S':=⟨S.box,up S.acc d _⟩) rfl g.own hB' ⟨hO.1,fun n j q=>by
   simp only at q;by_cases e:n=o.bucket
   ·rw[if_pos e]at q;cases q
   ·rw[if_neg e]at q;exact hO.2 n j q⟩ (fun j v e q=>by show lk (up _ _ _) _=_;rw[ab (fun q=>e (by rw[←q];exact hO.1))];exact q) (fun _ _=>rfl) fun j q=>⟨gU (hI.lx j q),.inl q⟩
  exact⟨kU 0,_,_,by unfold fE bF;rw[el];simp only;rw[if_neg (fun q=>q hh),hf',hf];rfl,ie,k1,k2⟩
theorem J0(hI:MI S g N c μ)(hw:lY S g w own o full)(hq:∀e,bZ μ o full= .inl e→wG w0 S g N c μ e):aa Tryz.prog w0 76 [bz w] S (kG S g (N+1) c (bZ μ o full)):=by
 obtain⟨l,hl,b,ids,r,dr,h1,h2,h3,h4,h5,h6⟩:=hI.ri hw.l;have el:=bh hl hw.p;obtain⟨d,idd,hd⟩:=qG h6 hw.s;refine(JP w0 hw.k h1 (fun hh=>⟨(hd hh).1,(hd hh).2.1⟩) (fun hh=>(hq 35 ?_).er hI) (fun hh hi=>(hq 32 ?_).er hI) (fun hh f hf hv=>(hq 33 ?_).er hI) (fun hh f v hf hv hfl=>(hq 37 ?_).er hI)).mono ?_
 ·unfold bZ;rw[el];exact if_pos hh
 ·unfold bZ;rw[el];simp only;rw[if_neg (fun q=>q hh),((hd hh).2.1.some_ _).1 hi]
 ·unfold bZ;rw[el];simp only;rw[if_neg (fun q=>q hh),hf];simp only;rw[hv];rfl
 ·unfold bZ;rw[el];simp only;rw[if_neg (fun q=>q hh),hf];simp only;rw[hv,hfl];rfl
 ·rintro _ S' ⟨hh,hfl,i,es,cl,f,v,hi,hf,hv,g1,rfl,rfl⟩;obtain⟨rfl,hB,hO⟩:=hd hh;have hB':=(CV hB hi hf g1 o.key).le (XA N);have oi:=hO.2 _ _ hi;obtain⟨k1,k2⟩:=sE hI hw hl h1 h2 h3 h4 h5 (S':=⟨S.box,up S.acc i _⟩) rfl g.own hB' hO (fun j v e q=>by show lk (up _ _ _) _=_;rw[ab (fun q=>e (by rw[←q];exact oi))];exact q) (fun _ _=>rfl) fun j q=>⟨gU (hI.lx j q),.inl q⟩;exact⟨kU 0,_,_,by unfold bZ bF;rw[el];simp only;rw[if_neg (fun q=>q hh),hf];simp only;rw[hv,hfl];rfl,ie,k1,k2⟩
theorem Rh(hI:MI S g N c μ)(hw:lY S g w own o full)(hq:∀e,fh μ o full= .inl e→wG w0 S g N c μ e):aa Tryz.prog w0 73 [bz w] S (kG S g (N+1) c (fh μ o full)):=by
 obtain⟨l,hl,b,ids,r,dr,h1,h2,h3,h4,h5,h6⟩:=hI.ri hw.l;have el:=bh hl hw.p;obtain⟨d,idd,hd⟩:=qG h6 hw.s;refine(PT w0 hw.k h1 (fun hh=>⟨(hd hh).1,(hd hh).2.1⟩) (fun hh=>(hq 35 ?_).er hI) (fun hh hk=>(hq 34 ?_).er hI) (fun hh hk hi=>(hq 38 ?_).er hI) (fun hh hk hi hf=>(hq 37 ?_).er hI)).mono ?_
 ·unfold fh;rw[el];exact if_pos hh
 ·unfold fh fx;rw[el];simp only;rw[if_neg (fun q=>q hh),if_pos hk]
 ·obtain⟨i,hi⟩:=aZ hi;obtain⟨f,hf'⟩:=ij (hd hh).2.1 hi;unfold fh fx;rw[el];simp only;rw[if_neg (fun q=>q hh),if_neg (fun q=>q hk),hf'];rfl
 ·unfold fh fx;rw[el];simp only;rw[if_neg (fun q=>q hh),if_neg (fun q=>q hk),((hd hh).2.1.some_ _).1 hi,hf];rfl
 ·rintro _ S' ⟨hh,hk,hf,hi,ln,es,cl,g1,rfl,rfl⟩;obtain⟨rfl,hB,hO⟩:=hd hh;have hln:=ak ln;have hB':=Jp hB g1 o.bucket hln;have hno:g.own ln.n= .no:=Xp.1 fun q=>hI.lx _ q hln
  obtain⟨k1,k2⟩:=sE hI hw hl h1 h2 h3 h4 h5 (S':=⟨S.box,(ln.n,.xo (.mp .str [] 0))::up S.acc d _⟩) rfl (fun i=>if i=ln.n then .d o.level.toNat else g.own i) hB' ⟨by
   simp only;rw[if_neg (fun e=>by rw[e,hln]at g1;cases g1)];exact hO.1,fun n j q=>by
   simp only at q ⊢;by_cases e:n=o.bucket
   ·rw[if_pos e]at q;cases q;rw[if_pos rfl]
   ·rw[if_neg e]at q;split
    ·rfl
    ·exact hO.2 n j q⟩ (fun j v e q=>by
     show lk (_::_) _=_;simp only[lk];rw[if_neg (fun r=>by rw[←r,hln]at q;cases q),ab (fun q=>e (by rw[←q];exact hO.1))];exact q) (fun i q=>by
     try simp only
     rw[if_neg (fun e=>q (by rw[e];exact hno))]) fun j q=>by
    by_cases e:j=ln.n
    ·refine⟨?_,.inr (by rw[e];exact hln)⟩;show lk (_::_) _≠none;rw[e];simp[lk]
    ·try simp only at q
     rw[if_neg e]at q;refine⟨?_,.inl q⟩;show lk (_::_) _≠none;simp only[lk];rw[if_neg (fun r=>e r.symm)];exact gU (hI.lx j q)
  refine⟨kU 0,_,_,?_,ie,k1,k2⟩;unfold fh fx bF;rw[el];simp only;rw[if_neg (fun q=>q hh),if_neg (fun q=>q hk),(hB.some_ _).1 hi,hf];rfl
theorem LR(hI:MI S g N c μ)(hN:N≤1048576)(hw:lY S g w own o full)(hq:∀e,ej μ o= .inl e→wG w0 S g N c μ e):aa Tryz.prog w0 70 [bz w] S (kG S g (N+1) c (ej μ o)):=by
 obtain⟨l,hl,b,ids,r,dr,h1,h2,h3,h4,h5,h6⟩:=hI.ri hw.l;have el:=bh hl hw.p;refine(NU w0 hw.k h1 (eq_false hw.ne) h2 hN fun hh=>(hq 36 (by unfold ej;rw[el];exact if_pos hh)).er hI).mono ?_;rintro _ S' ⟨h0,d,idd,rfl,hB,hbx,hac,hd0,hid⟩;have hold:∀i,g.own i≠ .no→∃v,lk S.acc i=some v:=fun i q=>aZ (hI.lx i q)
 have hE:∃own':Nat→Ow,(∀i,lk S.acc i=none→(i=d∨∃n,idd n=some i)→own' i= .d o.level.toNat)∧(∀i,g.own i≠ .no→own' i=g.own i)∧∀i,own' i≠ .no→g.own i≠ .no∨(lk S.acc i=none∧(i=d∨∃n,idd n=some i)):=by
  classical
  refine⟨fun i=>if lk S.acc i=none∧(i=d∨∃n,idd n=some i)then .d o.level.toNat else g.own i,fun i q1 q2=>if_pos ⟨q1,q2⟩,fun i q=>if_neg fun r=>?_,fun i q=>?_⟩
  ·exact hI.lx i q r.1
  ·simp only at q;split at q
   ·rename_i q2;exact .inr q2
   ·exact .inl q
 obtain⟨own',o1,o2,o3⟩:=hE;refine⟨kU 0,_,⟨g.m,g.ls,g.θ,g.sn,own'⟩,by unfold ej bF;rw[el];exact if_neg (fun q=>q h0),ie,?_,?_⟩
 ·refine hI.BA (by omega) hw.l own' {l with has:=o.aC,D:=l.F} (fun i v q1 q2=>by rw[hbx,ab (Yd q1)];exact q2) (fun i q _=>o2 i q) (fun i v _ _ q=>hac i v q) ⟨b,ids,r,.mp d,by rw[hbx];exact cE h1,(h2.mono fun i v _ q=>hac i v q).le (by omega),pP h3 fun i e=>(o2 i (by rw[e];simp)).trans e,h4.to fun v=>hac r v,(o2 r (by rw[h5];simp)).trans h5,fun _=>⟨d,idd,rfl,hB.le (by omega),o1 d hd0 (.inl rfl),fun n i q=>o1 i (hid n i q) (.inr ⟨n,q⟩)⟩⟩ fun i q=>?_;rcases o3 i q with q|⟨q1,rfl|⟨n,q2⟩⟩
  ·obtain⟨v,hv⟩:=hold i q;rw[hac i v hv];simp
  ·exact hB.lk
  ·obtain⟨f,hf⟩:=ij hB q2;exact(hB.low n i f q2 hf).lk
 ·exact .BA hw.bx _ (fun i v q1 q2=>by rw[hbx,ab (Yd q1)];exact q2) (fun i v _ q=>hac i v q) fun i q=>(o3 i q).imp id fun q=>q.1
end
end Go.Proofs.YtoepfmhnapedoaaGreatDoor
namespace Go.Proofs.YtoepfmhnapedoaaGreatDoor
open Aml Go Rn Lat Grs
theorem MI.ON{S S':St}{g:MG}{N M:Nat}{c:Cf}{μ:bq}(h:MI S g N c μ)(hNM:N≤M){θ':eG}{r':List RH}(hT:TI S' θ' r')(hF:vN S S' g.θ θ'):∃own',MI S' ⟨g.m,g.ls,θ',g.sn,own'⟩ M c ⟨μ.l,r',μ.sn⟩∧gF S S' g ⟨g.m,g.ls,θ',g.sn,own'⟩∧(∀i,g.own i≠ .tb→g.own i≠ .no→own' i=g.own i)∧∀i,g.own i= .tb∨g.own i= .no→own' i= .tb∨own' i= .no:=by
 classical
 have hnt:∀i,g.own i≠ .tb→g.own i≠ .no→i∉θ'.ax:=fun i q1 q2 q3=>by
  rcases hF.na i q3 with q|q
  ·exact q1 (h.uf i q)
  ·exact h.lx i q2 q
 have hnt0:∀i,g.own i≠ .tb→i∉g.θ.ax:=fun i q1 q2=>q1 (h.uf i q2);have hac:∀i v,g.own i≠ .tb→lk S.acc i=some v→lk S'.acc i=some v:=fun i v q=>hF.acc i v (hnt0 i q);have hb:∀i v,i∈g.m::g.ls→lk S.box i=some v→lk S'.box i=some v:=fun i v q=>hF.box i v fun r=>h.yE i r q;let own':Nat→Ow:=fun i=>if i∈θ'.ax then .tb else if g.own i= .tb then .no else g.own i
 have ho:∀i,g.own i≠ .tb→g.own i≠ .no→own' i=g.own i:=fun i q1 q2=>by
  show(if _ then _ else _)=_;rw[if_neg (hnt i q1 q2),if_neg q1]
 have hno:∀i,own' i≠ .no→i∈θ'.ax∨(i∉θ'.ax∧g.own i≠ .tb∧g.own i≠ .no):=fun i q=>by
  have q:(if i∈θ'.ax then Ow.tb else if g.own i= .tb then .no else g.own i)≠ .no:=q;by_cases e:i∈θ'.ax
  ·exact .inl e
  ·rw[if_neg e]at q;by_cases e2:g.own i= .tb
   ·rw[if_pos e2]at q;exact absurd rfl q
   ·rw[if_neg e2]at q;exact .inr ⟨e,e2,q⟩
 refine⟨own',⟨?_,h.up,h.len,h.nd,?_,?_,hT,?_,?_,?_,?_⟩,⟨rfl,?_,?_,?_,?_⟩,ho,?_⟩
 ·show lk S'.box g.m=some (Dm c g.ls θ'.t g.sn);rw[hF.t];exact hb _ _ (Xf ..) h.md
 ·intro i hi q;rcases hF.nb i hi with r|r
  ·exact h.yE i r q
  ·exact h.lL (i:=i) (by unfold MG.bx;exact XS _ q) r
 ·intro x bx l h1 h2;refine sH (h.lb x bx l h1 h2) hNM (fun v q=>hb bx v (Xc _ (W7 h1)) q) (fun i q=>ho i ?_ ?_) fun i v q=>hac i v ?_
  ·intro r;rw[r]at q;exact q
  ·intro r;rw[r]at q;exact q
  ·intro r;rw[r]at q;exact q
 ·intro i hi;show(if _ then _ else _)=_;rw[if_pos hi]
 ·exact tO h.Bv hNM (fun i e=>(ho i (by rw[e];simp) (by rw[e];simp)).trans e) (fun i v e=>hac i v (by rw[e];simp)) fun v=>hac _ v (by rw[h.lS];simp)
 ·exact(ho _ (by rw[h.lS];simp) (by rw[h.lS];simp)).trans h.lS
 ·intro i q;rcases hno i q with r|⟨_,r1,r2⟩
  ·exact hT.vo i r
  ·obtain⟨v,hv⟩:=aZ (h.lx i r2);rw[hac i v r1 hv];simp
 ·intro i v q;exact hF.box i v fun r=>q (by unfold MG.bx;exact Ys _ r)
 ·intro i v q;exact hac i v (by rw[q];simp)
 ·intro i q;unfold MG.bx at q ⊢;rcases Xh.1 q with r|r
  ·exact .inl (XS _ r)
  ·exact(hF.nb i r).imp (fun q=>Ys _ q) id
 ·intro i q;rcases hno i q with r|⟨_,_,r⟩
  ·exact(hF.na i r).imp (fun q=>by rw[h.uf i q];simp) id
  ·exact .inl r
 ·intro i q;show(if _ then _ else _)=_∨(if _ then _ else _)=_;by_cases e:i∈θ'.ax
  ·rw[if_pos e];exact .inl rfl
  ·rw[if_neg e];right;rcases q with q|q
   ·rw[if_pos q]
   ·rw[if_neg (by rw[q];simp),q]
section
variable {w0:W0} {S:St} {g:MG} {N:Nat} {c:Cf} {μ:bq} {w own:Nat} {o:bp} {full:Bool}
theorem Mt(hI:MI S g N c μ)(hw:lY S g w own o full):aa Tryz.prog w0 69 [bz w] S (kG S g (N+1) c (fu μ o)):=by
 obtain⟨l,hl,b,ids,r,dr,h1,h2,h3,h4,h5,h6⟩:=hI.ri hw.l;have el:=bh hl hw.p;have hm:own≠g.m:=fun e=>(Xo.1 hI.nd).1 (by rw[←e];exact W7 hw.l);have hθ:own∉g.θ.bx:=fun q=>hI.yE own q (Xc _ (W7 hw.l));refine(Mp w0 hw.k h1 hI.md hI.tb (eq_false hw.ne) (eq_false hm) hθ).mono ?_;rintro _ S' ⟨rfl,hT,hF⟩
 have k1:=hI.BA (S':=⟨up S.box own (lK b (.acc r l.au.length) (if l.has=o.aC then 0 else l.has) dr),S.acc⟩) (XA N) hw.l g.own {l with has:=if l.has=o.aC then 0 else l.has} (fun i v q1 q2=>by show lk (up _ _ _) _=_;rw[ab (Yd q1)];exact q2) (fun _ _ _=>rfl) (fun i v _ _ q=>q) ⟨b,ids,r,dr,cE h1,jd (h2.le (XA N)) rfl,h3,h4,h5,fun q=>by
  simp only at q;split at q
  ·exact absurd rfl q
  ·obtain⟨d,idd,q1,q2,q3⟩:=h6 q;exact⟨d,idd,q1,jd (q2.le (XA N)) rfl,q3⟩⟩ hI.lx
 have k2:gF S ⟨up S.box own (lK b (.acc r l.au.length) (if l.has=o.aC then 0 else l.has) dr),S.acc⟩ g ⟨g.m,g.ls,g.θ,g.sn,g.own⟩:= .BA hw.bx _ (fun i v q1 q2=>by show lk (up _ _ _) _=_;rw[ab (Yd q1)];exact q2) (fun i v _ q=>q) fun i q=> .inl q;obtain⟨own',k3,k4,_,_⟩:=k1.ON (Xa _) hT hF;exact⟨kU 0,_,_,by unfold fu;rw[el],ie,k3,k2.trans k4⟩
end
end Go.Proofs.YtoepfmhnapedoaaGreatDoor
namespace Go.Proofs.YtoepfmhnapedoaaGreatDoor
open Aml Go Rn Lat Grs
theorem Nj(w0:W0)(l:List Int)(s:Int)(hl:l.length≤4611686018427387904)(S:St):aa Tryz.prog w0 182 [dL l,dI s] S (fun d S'=>∃i:Int,d=dI i∧(0≤i↔s∈l)∧S'=S):=by
 refine kj [] mx Tryz.func182 rfl rfl (by kernel_rfl) ?_;simp(maxDischargeDepth:=12) (maxSteps:=1000000) -implicitDefEqProofs only[Tryz.ntmps182,go_sem,Nat.reduceAdd,Nat.reduceSub,Nat.reduceMul,Nat.reduceLeDiff,Nat.reduceEqDiff,Nat.reduceGT,Nat.reduceBEq,reduceCtorEq,↓reduceIte,Int.reduceToNat,Int.reduceLE,Int.reduceLT,Int.reduceNe,Int.reduceEq];refine aX [] l.length [0,1,7,8] (fun a=>[(8,dI a)]) (fun _=>S) (fun a=>s∉l.take a) mx (by kernel_rfl) ?_ ?_
 ·simp(maxDischargeDepth:=12) (maxSteps:=1000000) -implicitDefEqProofs only[go_sem,Nat.reduceAdd,Nat.reduceSub,Nat.reduceMul,Nat.reduceLeDiff,Nat.reduceEqDiff,Nat.reduceGT,Nat.reduceBEq,reduceCtorEq,↓reduceIte,Int.reduceToNat,Int.reduceLE,Int.reduceLT,Int.reduceNe,Int.reduceEq];exact Yv
 ·intro a ha hA;simp(maxDischargeDepth:=12) (maxSteps:=1000000) -implicitDefEqProofs only[go_sem,Nat.reduceAdd,Nat.reduceSub,Nat.reduceMul,Nat.reduceLeDiff,Nat.reduceEqDiff,Nat.reduceGT,Nat.reduceBEq,reduceCtorEq,↓reduceIte,Int.reduceToNat,Int.reduceLE,Int.reduceLT,Int.reduceNe,Int.reduceEq];refine⟨fun hla=>⟨hla,fun x hx=>⟨fun e=>⟨a,rfl,⟨fun _=>by rw[e];exact W7 hx,fun _=>by omega⟩⟩,fun e=>⟨hla,fun hm=>?_,aI (by omega)⟩⟩⟩,fun hge=>?_⟩
  ·rw[XZ,hx]at hm;rcases Xh.1 hm with hm|hm
   ·exact hA hm
   ·simp only[YQ,Xg]at hm;exact e hm
  ·rw[XF (by omega)]at hA;exact⟨-1,rfl,⟨fun h=>by omega,fun h=>absurd h hA⟩⟩
theorem Cs(w0:W0)(l:List Int)(s:Int)(hl:l.length≤4611686018427387904)(S:St):aa Tryz.prog w0 154 [dL l,dI s] S (fun d S'=>d=dB (decide (s∈l))∧S'=S):=by
 refine bW [] mx Tryz.func154 rfl rfl (by kernel_rfl) ?_;simp(maxDischargeDepth:=12) (maxSteps:=1000000) -implicitDefEqProofs only[Tryz.ntmps154,go_sem,Nat.reduceAdd,Nat.reduceSub,Nat.reduceMul,Nat.reduceLeDiff,Nat.reduceEqDiff,Nat.reduceGT,Nat.reduceBEq,reduceCtorEq,↓reduceIte,Int.reduceToNat,Int.reduceLE,Int.reduceLT,Int.reduceNe,Int.reduceEq];refine an (Nj _ l s hl _) ?_;rintro _ _ ⟨i,rfl,h,rfl⟩;simp(maxDischargeDepth:=12) (maxSteps:=1000000) -implicitDefEqProofs only[go_sem,Nat.reduceAdd,Nat.reduceSub,Nat.reduceMul,Nat.reduceLeDiff,Nat.reduceEqDiff,Nat.reduceGT,Nat.reduceBEq,reduceCtorEq,↓reduceIte,Int.reduceToNat,Int.reduceLE,Int.reduceLT,Int.reduceNe,Int.reduceEq];exact h
theorem Ls(w0:W0)(l:List G)(g:G)(hl:l.length≤4611686018427387904)(S:St):aa Tryz.prog w0 186 [jN l,gD g] S (fun d S'=>∃i:Int,d=dI i∧(0≤i↔g∈l)∧S'=S):=by
 refine mv [] mx Tryz.func186 rfl rfl (by kernel_rfl) ?_;simp(maxDischargeDepth:=12) (maxSteps:=1000000) -implicitDefEqProofs only[Tryz.ntmps186,go_sem,Nat.reduceAdd,Nat.reduceSub,Nat.reduceMul,Nat.reduceLeDiff,Nat.reduceEqDiff,Nat.reduceGT,Nat.reduceBEq,reduceCtorEq,↓reduceIte,Int.reduceToNat,Int.reduceLE,Int.reduceLT,Int.reduceNe,Int.reduceEq];intro b;refine aX [] l.length [0,3,7,8] (fun a=>[(8,dI a)]) (fun _=>⟨(b.n,[dI g.a,dI g.f,dI g.t])::S.box,S.acc⟩) (fun a=>g∉l.take a) mx (by kernel_rfl) ?_ ?_
 ·simp(maxDischargeDepth:=12) (maxSteps:=1000000) -implicitDefEqProofs only[go_sem,Nat.reduceAdd,Nat.reduceSub,Nat.reduceMul,Nat.reduceLeDiff,Nat.reduceEqDiff,Nat.reduceGT,Nat.reduceBEq,reduceCtorEq,↓reduceIte,Int.reduceToNat,Int.reduceLE,Int.reduceLT,Int.reduceNe,Int.reduceEq];exact Yv
 ·intro a ha hA;simp(maxDischargeDepth:=12) (maxSteps:=1000000) -implicitDefEqProofs only[go_sem,Nat.reduceAdd,Nat.reduceSub,Nat.reduceMul,Nat.reduceLeDiff,Nat.reduceEqDiff,Nat.reduceGT,Nat.reduceBEq,reduceCtorEq,↓reduceIte,Int.reduceToNat,Int.reduceLE,Int.reduceLT,Int.reduceNe,Int.reduceEq]
  have key:∀x:G,(decide (g.a=x.a)&&decide (g.f=x.f)&&decide (g.t=x.t))=decide (g=x):=fun x=>by
   rw[Bool.eq_iff_iff];simp only[W8,decide_eq_true_eq];obtain⟨a,f,t⟩:=x;obtain⟨a',f',t'⟩:=g;simp only[G.mk.injEq,and_assoc]
  refine⟨fun hla=>⟨hla,fun x hx=>⟨fun q=>?_,fun q=>⟨hla,fun hm=>?_,aI (by omega)⟩⟩⟩,fun hge=>?_⟩
  ·rw[key,decide_eq_true_eq]at q;exact⟨_,_,.refl _,(Sub.refl _).aP,a,rfl,⟨fun _=>by rw[q];exact W7 hx,fun _=>by omega⟩,rfl⟩
  ·rw[key,decide_eq_false_iff_not]at q;rw[XZ,hx]at hm;rcases Xh.1 hm with hm|hm
   ·exact hA hm
   ·simp only[YQ,Xg]at hm;exact q hm
  ·rw[XF (by omega)]at hA;exact⟨_,_,.refl _,(Sub.refl _).aP, -1,rfl,⟨fun h=>by omega,fun h=>absurd h hA⟩,rfl⟩
theorem Rj(w0:W0)(l:List G)(g:G)(hl:l.length≤4611686018427387904)(S:St):aa Tryz.prog w0 133 [jN l,gD g] S (fun d S'=>d=dB (decide (g∈l))∧S'=S):=by
 have hc:∀S,aa Tryz.prog w0 161 [jN l,gD g] S (fun d S'=>d=dB (decide (g∈l))∧S'=S):=fun S=>by
  refine bW [] mx Tryz.func161 rfl rfl (by kernel_rfl) ?_;simp(maxDischargeDepth:=12) (maxSteps:=1000000) -implicitDefEqProofs only[Tryz.ntmps161,go_sem,Nat.reduceAdd,Nat.reduceSub,Nat.reduceMul,Nat.reduceLeDiff,Nat.reduceEqDiff,Nat.reduceGT,Nat.reduceBEq,reduceCtorEq,↓reduceIte,Int.reduceToNat,Int.reduceLE,Int.reduceLT,Int.reduceNe,Int.reduceEq];intro b;refine an (Ls _ l g hl _) ?_;rintro _ _ ⟨i,rfl,h,rfl⟩;simp(maxDischargeDepth:=12) (maxSteps:=1000000) -implicitDefEqProofs only[go_sem,Nat.reduceAdd,Nat.reduceSub,Nat.reduceMul,Nat.reduceLeDiff,Nat.reduceEqDiff,Nat.reduceGT,Nat.reduceBEq,reduceCtorEq,↓reduceIte,Int.reduceToNat,Int.reduceLE,Int.reduceLT,Int.reduceNe,Int.reduceEq];exact h
 refine bW [] mx Tryz.func133 rfl rfl (by kernel_rfl) ?_;simp(maxDischargeDepth:=12) (maxSteps:=1000000) -implicitDefEqProofs only[Tryz.ntmps133,go_sem,Nat.reduceAdd,Nat.reduceSub,Nat.reduceMul,Nat.reduceLeDiff,Nat.reduceEqDiff,Nat.reduceGT,Nat.reduceBEq,reduceCtorEq,↓reduceIte,Int.reduceToNat,Int.reduceLE,Int.reduceLT,Int.reduceNe,Int.reduceEq]
 try intro b
 refine ao (hc _) ?_;simp(maxDischargeDepth:=12) (maxSteps:=1000000) -implicitDefEqProofs only[go_sem,Nat.reduceAdd,Nat.reduceSub,Nat.reduceMul,Nat.reduceLeDiff,Nat.reduceEqDiff,Nat.reduceGT,Nat.reduceBEq,reduceCtorEq,↓reduceIte,Int.reduceToNat,Int.reduceLE,Int.reduceLT,Int.reduceNe,Int.reduceEq]
theorem MR(a b:Nat)(h:a+b<2^62):IntKind.i64.wrap ((a:Int)+(b:Int))=((a+b:Nat):Int):=by rw[oD (by omega) (by omega)];omega
def lC{α:Type}(rows:List (List α)):List α:=rows.flatten
theorem pv{α:Type}{rows:List (List α)}{k:Nat}{a:List α}(h:rows[k]? =some a):lC (rows.take (k+1))=lC (rows.take k)++a:=by
 unfold lC;rw[XZ,h];simp
theorem ya{α:Type}(rows:List (List α))(k:Nat):(lC (rows.take k)).length≤(lC rows).length:=by
 have:lC rows=lC (rows.take k)++lC (rows.drop k):=by
  unfold lC;rw[←List.flatten_append,YX]
 rw[this];simp
theorem eU{P:Program}{w0:W0}{f:FuncId}{args:List DV}{S:St}{r:DV}(h1:aa P w0 f args S (fun d S'=>ot S' d fun d S''=>Wk d r∧Aml.Sub S S'')):aa P w0 f args S (fun d S'=>d=r∧S'=S):=by
 intro g vs w k1 k2;refine(h1 g vs w k1 k2).mono ?_;rintro e w' (⟨v,g',d,S',q1,q2,q3,q4,q5⟩|hp)
 ·obtain⟨g2,d',S2,p1,p2,p3,p4,p5⟩:=Ac q3 q4 q5;exact .inl ⟨v,g2,r,S,q1,q2.trans p1,p2.forget p5.box p5.acc,p4 _ _ p3,rfl,rfl⟩
 ·exact .inr hp
theorem N7(w0:W0)(n:Int)(S:St)(h0:0≤n)(h1:n≤109951162777):aa Tryz.prog w0 152 [.sl 0 true [],dI n] S (fun d S'=>∃l:FN S.acc,d= .acc l.n 0∧S'=⟨S.box,(l.n,.arr 3 [])::S.acc⟩):=by
 refine rC (K':=fun d S'=>(d= .sl 0 true []∧S'=S)∨∃l:FN S.acc,d= .acc l.n 0∧S'=⟨S.box,(l.n,.arr 3 [])::S.acc⟩) ?_ 3 (by omega) ?_
 ·refine kj [] mx Tryz.func152 rfl rfl (by kernel_rfl) ?_;simp(maxDischargeDepth:=12) (maxSteps:=1000000) -implicitDefEqProofs only[Tryz.ntmps152,go_sem,Nat.reduceAdd,Nat.reduceSub,Nat.reduceMul,Nat.reduceLeDiff,Nat.reduceEqDiff,Nat.reduceGT,Nat.reduceBEq,reduceCtorEq,↓reduceIte,Int.reduceToNat,Int.reduceLE,Int.reduceLT,Int.reduceNe,Int.reduceEq];have e1:IntKind.i64.wrap (0-0)=0:=oD (by omega) (by omega);rw[e1,Int.sub_zero,oD (by omega) (by omega)];refine⟨fun h=>by omega,fun h h2=>⟨by omega,by omega,by omega,fun l=> .inl ⟨⟨_,_,_,rfl⟩,by simp,fun l'=>⟨⟨l'.n,l'.h.2.2⟩,rfl,rfl⟩⟩⟩⟩
 ·rintro d S' (⟨rfl,rfl⟩|h)
  ·exact .inr ⟨⟨0,rfl⟩,fun l hl=>⟨⟨l,hl⟩,rfl,rfl⟩⟩
  ·exact .inl h
theorem D5(w0:W0)(rows:List (List iq))(S:St)(h0:rows.length≤1099511627776)(h1:(lC rows).length≤104857600):
 aa Tryz.prog w0 123 [.sl 1 false (rows.map dA)] S (fun d S'=>d=dA (lC rows)∧S'=S):=by
 refine bW [] mx Tryz.func123 rfl rfl (by kernel_rfl) ?_;simp(maxDischargeDepth:=12) (maxSteps:=1000000) -implicitDefEqProofs only[Tryz.ntmps123,go_sem,Nat.reduceAdd,Nat.reduceSub,Nat.reduceMul,Nat.reduceLeDiff,Nat.reduceEqDiff,Nat.reduceGT,Nat.reduceBEq,reduceCtorEq,↓reduceIte,Int.reduceToNat,Int.reduceLE,Int.reduceLT,Int.reduceNe,Int.reduceEq];refine aX [] rows.length [0,3,9,10,11] (fun k=>[(3,dI (lC (rows.take k)).length),(11,dI k)]) (fun _=>S) (fun k=>True) mx (by kernel_rfl) ?_ ?_
 ·simp(maxDischargeDepth:=12) (maxSteps:=1000000) -implicitDefEqProofs only[go_sem,Nat.reduceAdd,Nat.reduceSub,Nat.reduceMul,Nat.reduceLeDiff,Nat.reduceEqDiff,Nat.reduceGT,Nat.reduceBEq,reduceCtorEq,↓reduceIte,Int.reduceToNat,Int.reduceLE,Int.reduceLT,Int.reduceNe,Int.reduceEq];simp[lC]
 ·intro k hk _;simp(maxDischargeDepth:=12) (maxSteps:=1000000) -implicitDefEqProofs only[go_sem,Nat.reduceAdd,Nat.reduceSub,Nat.reduceMul,Nat.reduceLeDiff,Nat.reduceEqDiff,Nat.reduceGT,Nat.reduceBEq,reduceCtorEq,↓reduceIte,Int.reduceToNat,Int.reduceLE,Int.reduceLT,Int.reduceNe,Int.reduceEq];refine⟨fun hlt=>⟨hlt,fun a ha=>?_⟩,fun hge=>?_⟩
  ·have h2:=pv ha;have h3:=ya rows (k+1);rw[h2,Xj]at h3;rw[oD (by omega) (by omega)];refine⟨fun h=>by omega,fun h=>⟨hlt,?_,oD (by omega) (by omega)⟩⟩;rw[h2,Xj];omega
  ·rw[XF (by omega)];refine an (N7 w0 (lC rows).length S (by omega) (by omega)) ?_;rintro d S' ⟨l,rfl,rfl⟩;simp(maxDischargeDepth:=12) (maxSteps:=1000000) -implicitDefEqProofs only[go_sem,Nat.reduceAdd,Nat.reduceSub,Nat.reduceMul,Nat.reduceLeDiff,Nat.reduceEqDiff,Nat.reduceGT,Nat.reduceBEq,reduceCtorEq,↓reduceIte,Int.reduceToNat,Int.reduceLE,Int.reduceLT,Int.reduceNe,Int.reduceEq];refine aX [] rows.length [6,25,26,27] (fun k=>[(6,.acc l.n (lC (rows.take k)).length),(27,dI k)]) (fun k=>⟨S.box,(l.n,.arr 3 ((lC (rows.take k)).map qT))::S.acc⟩) (fun k=>True) mx (by kernel_rfl) ?_ ?_
   ·simp(maxDischargeDepth:=12) (maxSteps:=1000000) -implicitDefEqProofs only[go_sem,Nat.reduceAdd,Nat.reduceSub,Nat.reduceMul,Nat.reduceLeDiff,Nat.reduceEqDiff,Nat.reduceGT,Nat.reduceBEq,reduceCtorEq,↓reduceIte,Int.reduceToNat,Int.reduceLE,Int.reduceLT,Int.reduceNe,Int.reduceEq];simp[lC,Wk.refl,Sub.refl]
   ·intro k hk _;simp(maxDischargeDepth:=12) (maxSteps:=1000000) -implicitDefEqProofs only[go_sem,Nat.reduceAdd,Nat.reduceSub,Nat.reduceMul,Nat.reduceLeDiff,Nat.reduceEqDiff,Nat.reduceGT,Nat.reduceBEq,reduceCtorEq,↓reduceIte,Int.reduceToNat,Int.reduceLE,Int.reduceLT,Int.reduceNe,Int.reduceEq];refine⟨fun hlt=>⟨hlt,fun a ha=>?_⟩,fun hge=>?_⟩
    ·have h2:=pv ha;have h3:=ya rows (k+1);rw[h2,Xj]at h3;refine⟨by omega,by unfold maxLen;omega,hlt,⟨?_,oD (by omega) (by omega)⟩,?_⟩
     ·rw[h2,Xj];exact .refl _
     ·rw[h2,Xw];exact .refl _
    ·rw[XF (by omega)];exact .full _ _ _
theorem H5(w0:W0)(l:List iq)(S:St)(h0:l.length≤1048576):aa Tryz.prog w0 156 [dA l] S fun d S'=>d=dA l∧S'=S:=by
 refine eU (aa.mono (K:=fun d S'=>∃b:FN S.acc,d= .acc b.n (l.map qT).length∧S'=⟨S.box,(b.n,.arr 3 (l.map qT))::S.acc⟩) ?_ ?_)
 ·refine Cp 3 (by omega) ?_;refine kj [] mx Tryz.func156 rfl rfl (by kernel_rfl) ?_;simp(maxDischargeDepth:=12) (maxSteps:=1000000) -implicitDefEqProofs only[Tryz.ntmps156,go_sem,Nat.reduceAdd,Nat.reduceSub,Nat.reduceMul,Nat.reduceLeDiff,Nat.reduceEqDiff,Nat.reduceGT,Nat.reduceBEq,reduceCtorEq,↓reduceIte,Int.reduceToNat,Int.reduceLE,Int.reduceLT,Int.reduceNe,Int.reduceEq];intro b hb;refine⟨fun h1=> .inl ⟨XP fun hn=>?_,0,rfl⟩,fun h1=>⟨by omega,by unfold maxLen;omega,fun c=> .inr ⟨c,rfl,rfl⟩⟩⟩;rw[hb hn]at h1;cases h1
 ·rintro d S' ⟨b,rfl,rfl⟩;simp(maxDischargeDepth:=12) (maxSteps:=1000000) -implicitDefEqProofs only[go_sem,Nat.reduceAdd,Nat.reduceSub,Nat.reduceMul,Nat.reduceLeDiff,Nat.reduceEqDiff,Nat.reduceGT,Nat.reduceBEq,reduceCtorEq,↓reduceIte,Int.reduceToNat,Int.reduceLE,Int.reduceLT,Int.reduceNe,Int.reduceEq]
theorem zZ(w0:W0)(l:List C0)(S:St)(h0:l.length≤1048576):aa Tryz.prog w0 132 [.sl 6 false (l.map sx)] S fun d S'=>d= .sl 6 false (l.map sx)∧S'=S:=by
 refine eU (aa.mono (K:=fun d S'=>∃b:FN S.acc,d= .acc b.n (l.map sx).length∧S'=⟨S.box,(b.n,.arr 6 (l.map sx))::S.acc⟩) ?_ ?_)
 ·refine Cp 6 (by omega) ?_;refine kj [] mx Tryz.func132 rfl rfl (by kernel_rfl) ?_;simp(maxDischargeDepth:=12) (maxSteps:=1000000) -implicitDefEqProofs only[Tryz.ntmps132,go_sem,Nat.reduceAdd,Nat.reduceSub,Nat.reduceMul,Nat.reduceLeDiff,Nat.reduceEqDiff,Nat.reduceGT,Nat.reduceBEq,reduceCtorEq,↓reduceIte,Int.reduceToNat,Int.reduceLE,Int.reduceLT,Int.reduceNe,Int.reduceEq];intro b hb;refine⟨fun h1=> .inl ⟨XP fun hn=>?_,0,rfl⟩,fun h1=>⟨by omega,by unfold maxLen;omega,fun c=> .inr ⟨c,rfl,rfl⟩⟩⟩;rw[hb hn]at h1;cases h1
 ·rintro d S' ⟨b,rfl,rfl⟩;simp(maxDischargeDepth:=12) (maxSteps:=1000000) -implicitDefEqProofs only[go_sem,Nat.reduceAdd,Nat.reduceSub,Nat.reduceMul,Nat.reduceLeDiff,Nat.reduceEqDiff,Nat.reduceGT,Nat.reduceBEq,reduceCtorEq,↓reduceIte,Int.reduceToNat,Int.reduceLE,Int.reduceLT,Int.reduceNe,Int.reduceEq]
theorem Li(w0:W0){S:St}{g:MG}{N:Nat}{c:Cf}{μ:bq}{w own:Nat}{o:bp}{full:Bool}(hI:MI S g N c μ)(hw:lY S g w own o full)(hs:o.snap≠0→∃Fs,μ.sn o.level o.aC o.snap=some Fs∧Fs.length=μ.l.length){x:Nat}(hx:x<μ.l.length):
 ∃m ids,BM S m N ids (dc μ o x)∧∀T,Has S T→aa Tryz.prog w0 155 [bz w,dI x] T (fun d S'=>d= .mp m∧S'=T):=by
 have hbx:g.ls[x]? =some (g.ls[x]'(by rw[hI.len];exact hx)):=W5 _;generalize g.ls[x]'(by rw[hI.len];exact hx)=bx at hbx;have hlen:=hI.len;obtain⟨l,hl,b,ids,r,dr,h1,h2,h3,h4,h5,h6⟩:=hI.ri hbx;by_cases h0:o.snap=0
 case neg=>
  obtain⟨Fs,hF,hFl⟩:=hs h0;obtain⟨es,cl,s1,s2⟩:=hI.Bv;obtain⟨bs,s3,s4,s5⟩:=(s2 o.level o.aC o.snap).2 Fs hF;have hbs:bs[x]? =some (bs[x]'(by omega)):=W5 _;have hFs:Fs[x]? =some (Fs[x]'(by omega)):=W5 _;generalize bs[x]'(by omega)=bj at hbs;generalize Fs[x]'(by omega)=Fj at hFs;obtain⟨idj,q1,q2⟩:=s5 x bj Fj hbs hFs;have e:dc μ o x=Fj:=by unfold dc;rw[if_pos h0,hF,Yu,hFs];rfl
  rw[e];refine⟨bj,idj,q1,fun T hT=>?_⟩;have t1:=hT.box _ _ hw.k;have t2:=hT.box _ _ hI.md;have t3:=hT.acc _ _ s1;have e0:(o.snap=0)=False:=eq_false h0;unfold Hz at s3;refine bW [] mx Tryz.func155 rfl rfl (by kernel_rfl) ?_;simp(maxDischargeDepth:=12) (maxSteps:=1000000) -implicitDefEqProofs only[Tryz.ntmps155,go_sem,Nat.reduceAdd,Nat.reduceSub,Nat.reduceMul,Nat.reduceLeDiff,Nat.reduceEqDiff,Nat.reduceGT,Nat.reduceBEq,reduceCtorEq,↓reduceIte,Int.reduceToNat,Int.reduceLE,Int.reduceLT,Int.reduceNe,Int.reduceEq,t1,t2,e0];refine eu (dR w0 t1) ?_;simp(maxDischargeDepth:=12) (maxSteps:=1000000) -implicitDefEqProofs only[go_sem,Nat.reduceAdd,Nat.reduceSub,Nat.reduceMul,Nat.reduceLeDiff,Nat.reduceEqDiff,Nat.reduceGT,Nat.reduceBEq,reduceCtorEq,↓reduceIte,Int.reduceToNat,Int.reduceLE,Int.reduceLT,Int.reduceNe,Int.reduceEq,t1,t2,t3,s3,e0,hbs];have hxb:x<bs.length:=(W6.1 hbs).1
  first|exact hxb|exact⟨hxb,hxb,.refl _⟩|skip
 have hs0:dc μ o x=if(x:Int)=o.level∧(aO μ o.level).has=o.aC then(aO μ o.level).D else(aO μ x).F:=by unfold dc;rw[if_neg (fun q=>q h0)]
 have elx:aO μ (x:Int)=l:=bh (by simpa using hl) (by omega);by_cases hc:(x:Int)=o.level∧(aO μ o.level).has=o.aC
 ·rw[hs0,if_pos hc];obtain⟨hc1,hc2⟩:=hc;rw[←hc1]at hc2 ⊢;rw[elx]at hc2 ⊢
  have hox:own=bx:=by
   have:=hw.l;rw[←hc1,YO,hbx]at this;exact(XG this).symm
  subst hox;obtain⟨d,idd,rfl,q2,q3⟩:=h6 (by rw[hc2];exact hw.s);refine⟨d,idd,q2,fun T hT=>?_⟩;have t1:=hT.box _ _ hw.k;have t2:=hT.box _ _ hI.md;have t3:=hT.box _ _ h1;have e0:(o.snap=0)=True:=eq_true h0;have e1:((x:Int)=o.level)=True:=eq_true hc1;refine bW [] mx Tryz.func155 rfl rfl (by kernel_rfl) ?_;simp(maxDischargeDepth:=12) (maxSteps:=1000000) -implicitDefEqProofs only[Tryz.ntmps155,go_sem,Nat.reduceAdd,Nat.reduceSub,Nat.reduceMul,Nat.reduceLeDiff,Nat.reduceEqDiff,Nat.reduceGT,Nat.reduceBEq,reduceCtorEq,↓reduceIte,Int.reduceToNat,Int.reduceLE,Int.reduceLT,Int.reduceNe,Int.reduceEq,t1,t2,e0,e1];refine ao (sJ w0 t1 t3) ?_;rw[decide_eq_true hc2];simp(maxDischargeDepth:=12) (maxSteps:=1000000) -implicitDefEqProofs only[go_sem,Nat.reduceAdd,Nat.reduceSub,Nat.reduceMul,Nat.reduceLeDiff,Nat.reduceEqDiff,Nat.reduceGT,Nat.reduceBEq,reduceCtorEq,↓reduceIte,Int.reduceToNat,Int.reduceLE,Int.reduceLT,Int.reduceNe,Int.reduceEq,t1,t3]
 ·rw[hs0,if_neg hc,elx];refine⟨b,ids,h2,fun T hT=>?_⟩;have t1:=hT.box _ _ hw.k;have t2:=hT.box _ _ hI.md;have t3:=hT.box _ _ h1;have hlx:x<g.ls.length:=by omega
  have e0:(o.snap=0)=True:=eq_true h0;by_cases hc1:(x:Int)=o.level
  ·have hox:own=bx:=by
    have:=hw.l;rw[←hc1,YO,hbx]at this;exact(XG this).symm
   subst hox;have hc2:¬l.has=o.aC:=fun q=>hc ⟨hc1,by rw[←hc1,elx];exact q⟩;have e1:((x:Int)=o.level)=True:=eq_true hc1;refine bW [] mx Tryz.func155 rfl rfl (by kernel_rfl) ?_;simp(maxDischargeDepth:=12) (maxSteps:=1000000) -implicitDefEqProofs only[Tryz.ntmps155,go_sem,Nat.reduceAdd,Nat.reduceSub,Nat.reduceMul,Nat.reduceLeDiff,Nat.reduceEqDiff,Nat.reduceGT,Nat.reduceBEq,reduceCtorEq,↓reduceIte,Int.reduceToNat,Int.reduceLE,Int.reduceLT,Int.reduceNe,Int.reduceEq,t1,t2,e0,e1];refine ao (sJ w0 t1 t3) ?_;rw[decide_eq_false hc2];simp(maxDischargeDepth:=12) (maxSteps:=1000000) -implicitDefEqProofs only[go_sem,Nat.reduceAdd,Nat.reduceSub,Nat.reduceMul,Nat.reduceLeDiff,Nat.reduceEqDiff,Nat.reduceGT,Nat.reduceBEq,reduceCtorEq,↓reduceIte,Int.reduceToNat,Int.reduceLE,Int.reduceLT,Int.reduceNe,Int.reduceEq,t1,t2,t3,hbx]
   first|exact hlx|exact⟨hlx,hlx,.refl _⟩|skip
  ·have e1:((x:Int)=o.level)=False:=eq_false hc1;refine bW [] mx Tryz.func155 rfl rfl (by kernel_rfl) ?_;simp(maxDischargeDepth:=12) (maxSteps:=1000000) -implicitDefEqProofs only[Tryz.ntmps155,go_sem,Nat.reduceAdd,Nat.reduceSub,Nat.reduceMul,Nat.reduceLeDiff,Nat.reduceEqDiff,Nat.reduceGT,Nat.reduceBEq,reduceCtorEq,↓reduceIte,Int.reduceToNat,Int.reduceLE,Int.reduceLT,Int.reduceNe,Int.reduceEq,t1,t2,e0,e1,hbx,t3]
   first|exact hlx|exact⟨hlx,hlx,.refl _⟩|skip
theorem A8(w1:W0)(l b:Nat)(X:List (List UInt8)→St)(hb:∀pre,lk (X pre).box b=some [.v (.map none)]):
 ∀T,Has (X []) T→aa Tryz.prog w1 100 [.v (.func (.yield l) #[] #[]),.v (.pointer (some ⟨b,0,none⟩))] T fun _ T'=>∃V,V=[]∧Has (X V) T':=by
 intro T hT;have t1:lk T.box b=some [.v (.map none)]:=hT.box _ _ (hb []);refine kj [] mx Tryz.func100 rfl rfl (by kernel_rfl) ?_;simp only[Tryz.ntmps100,Xi,XK,Nat.reduceAdd,Nat.reduceSub,List.reduceReplicate,Yc,Yr];simp(maxDischargeDepth:=12) (maxSteps:=1000000) -implicitDefEqProofs only[Tryz.ntmps100,go_sem,Nat.reduceAdd,Nat.reduceSub,Nat.reduceMul,Nat.reduceLeDiff,Nat.reduceEqDiff,Nat.reduceGT,Nat.reduceBEq,reduceCtorEq,↓reduceIte,Int.reduceToNat,Int.reduceLE,Int.reduceLT,Int.reduceNe,Int.reduceEq,t1];intro li;have hnone:lk T.acc li.n=none:=ak li;refine fc [] [0,5] (fun _:Unit=>[]) (fun _=>⟨T.box,(li.n,.xo .ni)::T.acc⟩) (fun _=>True) (fun _=>0) () mx (by kernel_rfl) ?_ ?_
 ·simp(maxDischargeDepth:=12) (maxSteps:=1000000) -implicitDefEqProofs only[go_sem,Nat.reduceAdd,Nat.reduceSub,Nat.reduceMul,Nat.reduceLeDiff,Nat.reduceEqDiff,Nat.reduceGT,Nat.reduceBEq,reduceCtorEq,↓reduceIte,Int.reduceToNat,Int.reduceLE,Int.reduceLT,Int.reduceNe,Int.reduceEq]
  try exact⟨trivial,.refl _⟩
 ·intro _ _;simp(maxDischargeDepth:=12) (maxSteps:=1000000) -implicitDefEqProofs only[go_sem,Nat.reduceAdd,Nat.reduceSub,Nat.reduceMul,Nat.reduceLeDiff,Nat.reduceEqDiff,Nat.reduceGT,Nat.reduceBEq,reduceCtorEq,↓reduceIte,Int.reduceToNat,Int.reduceLE,Int.reduceLT,Int.reduceNe,Int.reduceEq];refine⟨[],rfl,hT.box,fun l' o ho=>?_⟩;have:=hT.acc _ _ ho;show lk ((li.n,_)::T.acc) l'=_;simp only[lk];rw[if_neg (fun e=>by rw[e,this]at hnone;cases hnone)];exact this
theorem vg(w0:W0){b:Nat}{S:St}(hb:lk S.box b=some [.v (.map none)]):
 aa Tryz.prog w0 139 [.sl 0 true [],.v (.func (.func 100) #[] #[.pointer (some ⟨b,0,none⟩)])] S (fun d S'=>∃r:FN S.acc,d= .acc r.n 0∧S'=⟨S.box,(r.n,.arr 1 [])::S.acc⟩):=by
 refine mv [] mx Tryz.func139 rfl rfl (by kernel_rfl) ?_;simp(maxDischargeDepth:=12) (maxSteps:=1000000) -implicitDefEqProofs only[Tryz.ntmps139,go_sem,Nat.reduceAdd,Nat.reduceSub,Nat.reduceMul,Nat.reduceLeDiff,Nat.reduceEqDiff,Nat.reduceGT,Nat.reduceBEq,reduceCtorEq,↓reduceIte,Int.reduceToNat,Int.reduceLE,Int.reduceLT,Int.reduceNe,Int.reduceEq];intro s;refine fV s.n 0 1 (by omega) (ds:=[.sl 0 true []]) (by simp(maxDischargeDepth:=12) (maxSteps:=1000000) -implicitDefEqProofs only[go_sem,Nat.reduceAdd,Nat.reduceSub,Nat.reduceMul,Nat.reduceLeDiff,Nat.reduceEqDiff,Nat.reduceGT,Nat.reduceBEq,reduceCtorEq,↓reduceIte,Int.reduceToNat,Int.reduceLE,Int.reduceLT,Int.reduceNe,Int.reduceEq]) rfl fun lb=>?_;simp(maxDischargeDepth:=12) (maxSteps:=1000000) -implicitDefEqProofs only[go_sem,Nat.reduceAdd,Nat.reduceSub,Nat.reduceMul,Nat.reduceLeDiff,Nat.reduceEqDiff,Nat.reduceGT,Nat.reduceBEq,reduceCtorEq,↓reduceIte,Int.reduceToNat,Int.reduceLE,Int.reduceLT,Int.reduceNe,Int.reduceEq];refine tA [] (fun pre=>⟨(s.n,[.acc lb.n pre.length])::S.box,(lb.n,.arr 1 (pre.map eY))::S.acc⟩) (fun x=>[eY x]) (fun _=>False) (fun V=>V=[]) mx (by kernel_rfl) rfl rfl rfl (fun _=>rfl) (fun _=>rfl) (fun _=>rfl) ?_ ?_ ?_
 ·intro l w1 hy T hT;refine A8 w1 l b _ (fun pre=>?_) T hT;have hsb:¬s.n=b:=fun e=>by have:=ak s;rw[e,hb]at this;cases this
  simp(maxDischargeDepth:=12) (maxSteps:=1000000) -implicitDefEqProofs only[go_sem,Nat.reduceAdd,Nat.reduceSub,Nat.reduceMul,Nat.reduceLeDiff,Nat.reduceEqDiff,Nat.reduceGT,Nat.reduceBEq,reduceCtorEq,↓reduceIte,Int.reduceToNat,Int.reduceLE,Int.reduceLT,Int.reduceNe,Int.reduceEq,hsb,hb]
 ·intro pre x T hOk hT;exact hOk.elim
 ·rintro V rfl;simp(maxDischargeDepth:=12) (maxSteps:=1000000) -implicitDefEqProofs only[go_sem,Nat.reduceAdd,Nat.reduceSub,Nat.reduceMul,Nat.reduceLeDiff,Nat.reduceEqDiff,Nat.reduceGT,Nat.reduceBEq,reduceCtorEq,↓reduceIte,Int.reduceToNat,Int.reduceLE,Int.reduceLT,Int.reduceNe,Int.reduceEq];exact⟨_,_,.refl _,(Sub.refl _).aP,lb,rfl,rfl⟩
theorem FA(w0:W0){b:Nat}{S:St}(hb:lk S.box b=some [.v (.map none)]):
 aa Tryz.prog w0 52 [.v (.func (.func 100) #[] #[.pointer (some ⟨b,0,none⟩)])] S (fun d S'=>∃r:FN S.acc,d= .acc r.n 0∧S'=⟨S.box,(r.n,.arr 1 [])::S.acc⟩):=by
 have hcol:∀S,lk S.box b=some [.v (.map none)]→aa Tryz.prog w0 97 [.v (.func (.func 100) #[] #[.pointer (some ⟨b,0,none⟩)])] S (fun d S'=>∃r:FN S.acc,d= .acc r.n 0∧S'=⟨S.box,(r.n,.arr 1 [])::S.acc⟩):=fun S hb=>by
  refine kj [] mx Tryz.func97 rfl rfl (by kernel_rfl) ?_;simp(maxDischargeDepth:=12) (maxSteps:=1000000) -implicitDefEqProofs only[Tryz.ntmps97,go_sem,Nat.reduceAdd,Nat.reduceSub,Nat.reduceMul,Nat.reduceLeDiff,Nat.reduceEqDiff,Nat.reduceGT,Nat.reduceBEq,reduceCtorEq,↓reduceIte,Int.reduceToNat,Int.reduceLE,Int.reduceLT,Int.reduceNe,Int.reduceEq];refine an (vg w0 hb) ?_;rintro _ _ ⟨r,rfl,rfl⟩;simp(maxDischargeDepth:=12) (maxSteps:=1000000) -implicitDefEqProofs only[go_sem,Nat.reduceAdd,Nat.reduceSub,Nat.reduceMul,Nat.reduceLeDiff,Nat.reduceEqDiff,Nat.reduceGT,Nat.reduceBEq,reduceCtorEq,↓reduceIte,Int.reduceToNat,Int.reduceLE,Int.reduceLT,Int.reduceNe,Int.reduceEq];exact⟨r,rfl,rfl⟩
 refine kj [] mx Tryz.func52 rfl rfl (by kernel_rfl) ?_;simp(maxDischargeDepth:=12) (maxSteps:=1000000) -implicitDefEqProofs only[Tryz.ntmps52,go_sem,Nat.reduceAdd,Nat.reduceSub,Nat.reduceMul,Nat.reduceLeDiff,Nat.reduceEqDiff,Nat.reduceGT,Nat.reduceBEq,reduceCtorEq,↓reduceIte,Int.reduceToNat,Int.reduceLE,Int.reduceLT,Int.reduceNe,Int.reduceEq];refine an (hcol S hb) ?_;rintro _ _ ⟨r,rfl,rfl⟩;simp(maxDischargeDepth:=12) (maxSteps:=1000000) -implicitDefEqProofs only[go_sem,Nat.reduceAdd,Nat.reduceSub,Nat.reduceMul,Nat.reduceLeDiff,Nat.reduceEqDiff,Nat.reduceGT,Nat.reduceBEq,reduceCtorEq,↓reduceIte,Int.reduceToNat,Int.reduceLE,Int.reduceLT,Int.reduceNe,Int.reduceEq];refine .inl (an (Gb w0 (l:=r.n) (zs:=[]) (S:=⟨S.box,(r.n,.arr 1 [])::S.acc⟩) (by simp[lk]) (by simp)) ?_);rintro _ _ ⟨rfl,rfl⟩;simp(maxDischargeDepth:=12) (maxSteps:=1000000) -implicitDefEqProofs only[go_sem,Nat.reduceAdd,Nat.reduceSub,Nat.reduceMul,Nat.reduceLeDiff,Nat.reduceEqDiff,Nat.reduceGT,Nat.reduceBEq,reduceCtorEq,↓reduceIte,Int.reduceToNat,Int.reduceLE,Int.reduceLT,Int.reduceNe,Int.reduceEq];have e0:kC []=[]:=by unfold kC;simp
 exact⟨r,rfl,by rw[e0];rfl⟩
theorem MZ(w0:W0)(S:St):aa Tryz.prog w0 54 [.v (.map none)] S (fun d S'=>∃b:FN S.box,d= .v (.func (.func 100) #[] #[.pointer (some ⟨b.n,0,none⟩)])∧S'=⟨(b.n,[.v (.map none)])::S.box,S.acc⟩):=by
 refine kj [] mx Tryz.func54 rfl rfl (by kernel_rfl) ?_;simp(maxDischargeDepth:=12) (maxSteps:=1000000) -implicitDefEqProofs only[Tryz.ntmps54,go_sem,Nat.reduceAdd,Nat.reduceSub,Nat.reduceMul,Nat.reduceLeDiff,Nat.reduceEqDiff,Nat.reduceGT,Nat.reduceBEq,reduceCtorEq,↓reduceIte,Int.reduceToNat,Int.reduceLE,Int.reduceLT,Int.reduceNe,Int.reduceEq];intro b;exact⟨b,rfl,rfl⟩
theorem zk{c:Cf}{μ:bq}{o:bp}{i:Nat}(h:cR c.up (i:Int) o.level=true):gx c μ o (i+1)=gx c μ o i++[i]:=by
 unfold gx;rw[YZ,YT];simp[h]
theorem zX{c:Cf}{μ:bq}{o:bp}{i:Nat}(h:cR c.up (i:Int) o.level=false):gx c μ o (i+1)=gx c μ o i:=by
 unfold gx;rw[YZ,YT];simp[h]
theorem A0(c:Cf)(μ:bq)(o:bp)(i:Nat):(gx c μ o i).length≤i:=by
 unfold gx;have:=List.length_filter_le (fun x:Nat=>cR c.up (x:Int) o.level) (List.range i);simpa using this
theorem iB(c:Cf)(μ:bq)(o:bp)(p:List UInt8→Bool)(i:Nat):(bg c μ o p i).length≤i:=by
 unfold bg;rw[XJ];exact A0 c μ o i
noncomputable def mG(x:Nat)(p:List UInt8→Bool)(f:List UInt8→Option (List UInt8))(j:Nat):List iq:=(((cL f).take j).filter p).map fun k=>⟨k,x,(f k).getD []⟩
theorem No{x:Nat}{p:List UInt8→Bool}{f:List UInt8→Option (List UInt8)}{j:Nat}{k v:List UInt8}(hk:(cL f)[j]? =some k)(hv:f k=some v)(h:p k=true):mG x p f (j+1)=mG x p f j++[⟨k,x,v⟩]:=by
 unfold mG;rw[XZ,hk,YT,Xw];simp[h,hv]
theorem NM{x:Nat}{p:List UInt8→Bool}{f:List UInt8→Option (List UInt8)}{j:Nat}{k:List UInt8}(hk:(cL f)[j]? =some k)(h:p k=false):mG x p f (j+1)=mG x p f j:=by
 unfold mG;rw[XZ,hk,YT,Xw];simp[h]
theorem F3(x:Nat)(p:List UInt8→Bool)(f:List UInt8→Option (List UInt8)):mG x p f (cL f).length=oh x p (some f):=by
 unfold mG oh;rw[XF (Xa _)]
theorem El(x:Nat)(p:List UInt8→Bool)(f:List UInt8→Option (List UInt8))(j:Nat):(mG x p f j).length≤j:=by
 unfold mG;rw[XJ];have h1:=List.length_filter_le p ((cL f).take j);have h2:=List.length_take_le j (cL f);omega
theorem KP(w0:W0){S:St}{g:MG}{N:Nat}{c:Cf}{μ:bq}{w own:Nat}{o:bp}{full:Bool}(hI:MI S g N c μ)(hw:lY S g w own o full)(hN:N≤10000)(hn:μ.l.length≤64){k0:Int}(hk:oI μ.r k0)(hk2:k0≤10000)
 (hs:o.snap≠0→o.snap∈Bk μ.r o.level o.aC→∃Fs,μ.sn o.level o.aC o.snap=some Fs∧Fs.length=μ.l.length) (p:List UInt8→Bool) (fn:FuncId) (bx:Nat) (hok:okF Tryz.prog fn=true)
 (hp:∀k T,Has S T→aa Tryz.prog w0 fn [dS (tx k),bz bx] T (fun d S'=>d=dB (p k)∧S'=T))
 (q39:eQ μ o→mu w0 S 39) (q32:¬eQ μ o→eJ c μ o μ.l.length=false→mu w0 S 32):
 aa Tryz.prog w0 124 [bz w,.v (.func (.func fn) #[] #[.pointer (some ⟨bx,0,none⟩)])] S (fun d S'=>¬eQ μ o∧eJ c μ o μ.l.length=true∧∃lo:FN S.acc,d= .acc lo.n (bg c μ o p μ.l.length).length∧S'=⟨S.box,(lo.n,.arr 1 ((bg c μ o p μ.l.length).map dA))::S.acc⟩):=by
 have hwk:=hw.k;have hmd:=hI.md
 have hsl:(Bk μ.r o.level o.aC).length≤4611686018427387904:=by
  unfold Bk;split
  ·rename_i s hs';have:=Hl hI.tb hk (W7 hs');omega
  ·simp
 have hlen:=hI.len;refine mv [2] mx Tryz.func124 rfl rfl (by kernel_rfl) ?_;simp(maxDischargeDepth:=12) (maxSteps:=1000000) -implicitDefEqProofs only[Tryz.ntmps124,go_sem,Nat.reduceAdd,Nat.reduceSub,Nat.reduceMul,Nat.reduceLeDiff,Nat.reduceEqDiff,Nat.reduceGT,Nat.reduceBEq,reduceCtorEq,↓reduceIte,Int.reduceToNat,Int.reduceLE,Int.reduceLT,Int.reduceNe,Int.reduceEq];simp(maxDischargeDepth:=12) (maxSteps:=1000000) -implicitDefEqProofs only[go_sem,Nat.reduceAdd,Nat.reduceSub,Nat.reduceMul,Nat.reduceLeDiff,Nat.reduceEqDiff,Nat.reduceGT,Nat.reduceBEq,reduceCtorEq,↓reduceIte,Int.reduceToNat,Int.reduceLE,Int.reduceLT,Int.reduceNe,Int.reduceEq,hwk,hmd];refine eu (dR w0 hwk) ?_;simp(maxDischargeDepth:=12) (maxSteps:=1000000) -implicitDefEqProofs only[go_sem,Nat.reduceAdd,Nat.reduceSub,Nat.reduceMul,Nat.reduceLeDiff,Nat.reduceEqDiff,Nat.reduceGT,Nat.reduceBEq,reduceCtorEq,↓reduceIte,Int.reduceToNat,Int.reduceLE,Int.reduceLT,Int.reduceNe,Int.reduceEq];refine eu (Nb w0 hI.tb hk (by omega) o.level o.aC) ?_;simp(maxDischargeDepth:=12) (maxSteps:=1000000) -implicitDefEqProofs only[go_sem,Nat.reduceAdd,Nat.reduceSub,Nat.reduceMul,Nat.reduceLeDiff,Nat.reduceEqDiff,Nat.reduceGT,Nat.reduceBEq,reduceCtorEq,↓reduceIte,Int.reduceToNat,Int.reduceLE,Int.reduceLT,Int.reduceNe,Int.reduceEq];refine xN (σ:=Unit) [] [0,1] (fun _=>[]) (fun _=>S) (fun _=>¬eQ μ o) mx (by kernel_rfl) ?_ ?_
 ·by_cases h0:o.snap=0
  ·have hns:¬eQ μ o:=fun q=>q.1 h0;have e0:(o.snap=0)=True:=eq_true h0;simp(maxDischargeDepth:=12) (maxSteps:=1000000) -implicitDefEqProofs only[go_sem,Nat.reduceAdd,Nat.reduceSub,Nat.reduceMul,Nat.reduceLeDiff,Nat.reduceEqDiff,Nat.reduceGT,Nat.reduceBEq,reduceCtorEq,↓reduceIte,Int.reduceToNat,Int.reduceLE,Int.reduceLT,Int.reduceNe,Int.reduceEq,hwk,hmd,e0];refine an (aB w0 true 39 _ fun h=>by cases h) ?_;rintro _ _ ⟨_,rfl,rfl⟩;simp(maxDischargeDepth:=12) (maxSteps:=1000000) -implicitDefEqProofs only[go_sem,Nat.reduceAdd,Nat.reduceSub,Nat.reduceMul,Nat.reduceLeDiff,Nat.reduceEqDiff,Nat.reduceGT,Nat.reduceBEq,reduceCtorEq,↓reduceIte,Int.reduceToNat,Int.reduceLE,Int.reduceLT,Int.reduceNe,Int.reduceEq];exact⟨(),hns⟩
  ·have e0:(o.snap=0)=False:=eq_false h0;simp(maxDischargeDepth:=12) (maxSteps:=1000000) -implicitDefEqProofs only[go_sem,Nat.reduceAdd,Nat.reduceSub,Nat.reduceMul,Nat.reduceLeDiff,Nat.reduceEqDiff,Nat.reduceGT,Nat.reduceBEq,reduceCtorEq,↓reduceIte,Int.reduceToNat,Int.reduceLE,Int.reduceLT,Int.reduceNe,Int.reduceEq,hwk,hmd,e0];refine ao (Cs w0 _ _ hsl _) ?_;by_cases hm:o.snap∈Bk μ.r o.level o.aC
   ·rw[decide_eq_true hm];simp(maxDischargeDepth:=12) (maxSteps:=1000000) -implicitDefEqProofs only[go_sem,Nat.reduceAdd,Nat.reduceSub,Nat.reduceMul,Nat.reduceLeDiff,Nat.reduceEqDiff,Nat.reduceGT,Nat.reduceBEq,reduceCtorEq,↓reduceIte,Int.reduceToNat,Int.reduceLE,Int.reduceLT,Int.reduceNe,Int.reduceEq];refine an (aB w0 true 39 _ fun h=>by cases h) ?_;rintro _ _ ⟨_,rfl,rfl⟩;simp(maxDischargeDepth:=12) (maxSteps:=1000000) -implicitDefEqProofs only[go_sem,Nat.reduceAdd,Nat.reduceSub,Nat.reduceMul,Nat.reduceLeDiff,Nat.reduceEqDiff,Nat.reduceGT,Nat.reduceBEq,reduceCtorEq,↓reduceIte,Int.reduceToNat,Int.reduceLE,Int.reduceLT,Int.reduceNe,Int.reduceEq];exact⟨(),fun q=>q.2 hm⟩
   ·rw[decide_eq_false hm];simp(maxDischargeDepth:=12) (maxSteps:=1000000) -implicitDefEqProofs only[go_sem,Nat.reduceAdd,Nat.reduceSub,Nat.reduceMul,Nat.reduceLeDiff,Nat.reduceEqDiff,Nat.reduceGT,Nat.reduceBEq,reduceCtorEq,↓reduceIte,Int.reduceToNat,Int.reduceLE,Int.reduceLT,Int.reduceNe,Int.reduceEq];refine an (aB w0 false 39 _ fun _=>q39 ⟨h0,hm⟩) ?_;rintro _ _ ⟨q,_⟩;cases q
 rintro _ hns;simp(maxDischargeDepth:=12) (maxSteps:=1000000) -implicitDefEqProofs only[go_sem,Nat.reduceAdd,Nat.reduceSub,Nat.reduceMul,Nat.reduceLeDiff,Nat.reduceEqDiff,Nat.reduceGT,Nat.reduceBEq,reduceCtorEq,↓reduceIte,Int.reduceToNat,Int.reduceLE,Int.reduceLT,Int.reduceNe,Int.reduceEq,hwk,hmd];refine nB 7 1 rfl (by omega) fun lo=>?_;have hlo:lk S.acc lo.n=none:=ak lo;have hH:∀X:Ob,Has S ⟨S.box,(lo.n,X)::S.acc⟩:=fun X=>⟨fun _ _ q=>q,fun l x q=>ai hlo q⟩;refine aX [10,18] μ.l.length [0,1,6,7,47,48] (fun i=>[(6,dB (eJ c μ o i)),(7,.acc lo.n (bg c μ o p i).length),(47,dI μ.l.length),(48,dI i)]) (fun i=>⟨S.box,(lo.n,.arr 1 ((bg c μ o p i).map dA))::S.acc⟩) (fun _=>True) mx (by kernel_rfl) ?_ ?_
 ·simp(maxDischargeDepth:=12) (maxSteps:=1000000) -implicitDefEqProofs only[go_sem,Nat.reduceAdd,Nat.reduceSub,Nat.reduceMul,Nat.reduceLeDiff,Nat.reduceEqDiff,Nat.reduceGT,Nat.reduceBEq,reduceCtorEq,↓reduceIte,Int.reduceToNat,Int.reduceLE,Int.reduceLT,Int.reduceNe,Int.reduceEq,hlen];exact⟨⟨rfl,.refl _⟩,.refl _⟩
 ·intro i hi _;have hil':=iB c μ o p i;by_cases hil:i<μ.l.length
  ·have e1:IntKind.i64.wrap ((i:Int)+1)=((i+1:Nat):Int):=aI (by omega);simp(maxDischargeDepth:=12) (maxSteps:=1000000) -implicitDefEqProofs only[go_sem,Nat.reduceAdd,Nat.reduceSub,Nat.reduceMul,Nat.reduceLeDiff,Nat.reduceEqDiff,Nat.reduceGT,Nat.reduceBEq,reduceCtorEq,↓reduceIte,Int.reduceToNat,Int.reduceLE,Int.reduceLT,Int.reduceNe,Int.reduceEq,e1];refine⟨fun _=>?_,fun h=>absurd hil h⟩;refine ao (nw w0 (S:=⟨S.box,(lo.n,.arr 1 ((bg c μ o p i).map dA))::S.acc⟩) hwk hmd hI.up (i:Int)) ?_
   cases hle:cR c.up (i:Int) o.level with
   |false=>
    have r1:bg c μ o p (i+1)=bg c μ o p i:=by unfold bg;rw[zX hle]
    have r2:eJ c μ o (i+1)=eJ c μ o i:=by unfold eJ;rw[zX hle]
    simp(maxDischargeDepth:=12) (maxSteps:=1000000) -implicitDefEqProofs only[go_sem,Nat.reduceAdd,Nat.reduceSub,Nat.reduceMul,Nat.reduceLeDiff,Nat.reduceEqDiff,Nat.reduceGT,Nat.reduceBEq,reduceCtorEq,↓reduceIte,Int.reduceToNat,Int.reduceLE,Int.reduceLT,Int.reduceNe,Int.reduceEq,e1];rw[r1,r2];exact⟨hil,⟨rfl,.refl _⟩,.refl _⟩
   |true=>
    have r1:bg c μ o p (i+1)=bg c μ o p i++[oh i p (dc μ o i o.bucket)]:=by unfold bg;rw[zk hle,Xw];rfl
    have r2:eJ c μ o (i+1)=(eJ c μ o i||(dc μ o i o.bucket).isSome):=by unfold eJ;rw[zk hle,List.any_append];simp
    obtain⟨m,ids,hB,hsee⟩:=Li w0 hI hw (fun q=>hs q (Xp.1 fun r=>hns ⟨q,r⟩)) hil;obtain⟨et,ct,u1,u2,u3⟩:=hB.top;have u3b:=u3 o.bucket;unfold kT at u3b;have hlm:(lo.n=m)=False:=eq_false fun e=>by rw[e,u1]at hlo;cases hlo
    simp(maxDischargeDepth:=12) (maxSteps:=1000000) -implicitDefEqProofs only[go_sem,Nat.reduceAdd,Nat.reduceSub,Nat.reduceMul,Nat.reduceLeDiff,Nat.reduceEqDiff,Nat.reduceGT,Nat.reduceBEq,reduceCtorEq,↓reduceIte,Int.reduceToNat,Int.reduceLE,Int.reduceLT,Int.reduceNe,Int.reduceEq];refine eu (hsee _ (hH _)) ?_
    cases hid:ids o.bucket with
    |none=>
     rw[hid]at u3b;rw[(hB.some_ _).1 hid]at r1 r2;simp(maxDischargeDepth:=12) (maxSteps:=1000000) -implicitDefEqProofs only[go_sem,Nat.reduceAdd,Nat.reduceSub,Nat.reduceMul,Nat.reduceLeDiff,Nat.reduceEqDiff,Nat.reduceGT,Nat.reduceBEq,reduceCtorEq,↓reduceIte,Int.reduceToNat,Int.reduceLE,Int.reduceLT,Int.reduceNe,Int.reduceEq,hlm,u1,u3b,hwk];refine xN (σ:=Unit) [] [0,1,6,7,8,9,47,48] (fun _=>[(6,dB (eJ c μ o (i+1)))]) (fun _=>⟨S.box,(lo.n,.arr 1 ((bg c μ o p i).map dA))::S.acc⟩) (fun _=>True) mx (by kernel_rfl) ?_ ?_
     ·rw[r2];simp(maxDischargeDepth:=12) (maxSteps:=1000000) -implicitDefEqProofs only[go_sem,Nat.reduceAdd,Nat.reduceSub,Nat.reduceMul,Nat.reduceLeDiff,Nat.reduceEqDiff,Nat.reduceGT,Nat.reduceBEq,reduceCtorEq,↓reduceIte,Int.reduceToNat,Int.reduceLE,Int.reduceLT,Int.reduceNe,Int.reduceEq];exact⟨fun h=>⟨(),h.symm⟩,fun h=>⟨(),h.symm⟩⟩
     rintro _ _;simp(maxDischargeDepth:=12) (maxSteps:=1000000) -implicitDefEqProofs only[go_sem,Nat.reduceAdd,Nat.reduceSub,Nat.reduceMul,Nat.reduceLeDiff,Nat.reduceEqDiff,Nat.reduceGT,Nat.reduceBEq,reduceCtorEq,↓reduceIte,Int.reduceToNat,Int.reduceLE,Int.reduceLT,Int.reduceNe,Int.reduceEq];refine an (MZ w0 _) ?_;rintro _ _ ⟨bk,rfl,rfl⟩;simp(maxDischargeDepth:=12) (maxSteps:=1000000) -implicitDefEqProofs only[go_sem,Nat.reduceAdd,Nat.reduceSub,Nat.reduceMul,Nat.reduceLeDiff,Nat.reduceEqDiff,Nat.reduceGT,Nat.reduceBEq,reduceCtorEq,↓reduceIte,Int.reduceToNat,Int.reduceLE,Int.reduceLT,Int.reduceNe,Int.reduceEq];refine an (FA w0 (b:=bk.n) (by simp[lk])) ?_;rintro _ _ ⟨r2,rfl,rfl⟩;simp(maxDischargeDepth:=12) (maxSteps:=1000000) -implicitDefEqProofs only[go_sem,Nat.reduceAdd,Nat.reduceSub,Nat.reduceMul,Nat.reduceLeDiff,Nat.reduceEqDiff,Nat.reduceGT,Nat.reduceBEq,reduceCtorEq,↓reduceIte,Int.reduceToNat,Int.reduceLE,Int.reduceLT,Int.reduceNe,Int.reduceEq];refine nB 11 3 rfl (by omega) fun l2=>?_;have n1:=aw l2 r2.n (by simp(maxDischargeDepth:=12) (maxSteps:=1000000) -implicitDefEqProofs only[go_sem,Nat.reduceAdd,Nat.reduceSub,Nat.reduceMul,Nat.reduceLeDiff,Nat.reduceEqDiff,Nat.reduceGT,Nat.reduceBEq,reduceCtorEq,↓reduceIte,Int.reduceToNat,Int.reduceLE,Int.reduceLT,Int.reduceNe,Int.reduceEq]);have n2:=aw l2 lo.n (by simp(maxDischargeDepth:=12) (maxSteps:=1000000) -implicitDefEqProofs only[go_sem,Nat.reduceAdd,Nat.reduceSub,Nat.reduceMul,Nat.reduceLeDiff,Nat.reduceEqDiff,Nat.reduceGT,Nat.reduceBEq,reduceCtorEq,↓reduceIte,Int.reduceToNat,Int.reduceLE,Int.reduceLT,Int.reduceNe,Int.reduceEq,n1]);have n3:=aw r2 lo.n (by simp(maxDischargeDepth:=12) (maxSteps:=1000000) -implicitDefEqProofs only[go_sem,Nat.reduceAdd,Nat.reduceSub,Nat.reduceMul,Nat.reduceLeDiff,Nat.reduceEqDiff,Nat.reduceGT,Nat.reduceBEq,reduceCtorEq,↓reduceIte,Int.reduceToNat,Int.reduceLE,Int.reduceLT,Int.reduceNe,Int.reduceEq]);refine aX [18] 0 [0,1,6,7,8,9,11,47,48,73,74,75] (fun j=>[(11,.acc l2.n 0),(73,.acc r2.n 0),(74,dI 0),(75,dI j)]) (fun j=>⟨(bk.n,[.v (.map none)])::S.box,(l2.n,.arr 3 [])::(r2.n,.arr 1 [])::(lo.n,.arr 1 ((bg c μ o p i).map dA))::S.acc⟩) (fun _=>True) mx (by kernel_rfl) ?_ ?_
     ·simp(maxDischargeDepth:=12) (maxSteps:=1000000) -implicitDefEqProofs only[go_sem,Nat.reduceAdd,Nat.reduceSub,Nat.reduceMul,Nat.reduceLeDiff,Nat.reduceEqDiff,Nat.reduceGT,Nat.reduceBEq,reduceCtorEq,↓reduceIte,Int.reduceToNat,Int.reduceLE,Int.reduceLT,Int.reduceNe,Int.reduceEq,n1,n2,n3]
     ·intro j hj _;have hj0:j=0:=by omega
      subst hj0;simp(maxDischargeDepth:=12) (maxSteps:=1000000) -implicitDefEqProofs only[go_sem,Nat.reduceAdd,Nat.reduceSub,Nat.reduceMul,Nat.reduceLeDiff,Nat.reduceEqDiff,Nat.reduceGT,Nat.reduceBEq,reduceCtorEq,↓reduceIte,Int.reduceToNat,Int.reduceLE,Int.reduceLT,Int.reduceNe,Int.reduceEq,n1,n2,n3];refine Qo [] [11] mx (by kernel_rfl) ?_;simp(maxDischargeDepth:=12) (maxSteps:=1000000) -implicitDefEqProofs only[go_sem,Nat.reduceAdd,Nat.reduceSub,Nat.reduceMul,Nat.reduceLeDiff,Nat.reduceEqDiff,Nat.reduceGT,Nat.reduceBEq,reduceCtorEq,↓reduceIte,Int.reduceToNat,Int.reduceLE,Int.reduceLT,Int.reduceNe,Int.reduceEq,n1,n2,n3,e1];rw[r1];refine⟨by omega,by unfold maxLen;omega,hil,?_,?_⟩
      ·rw[Xj];exact .refl _
      ·rw[Xw];exact .aP (.pC (.pC (.refl _)))
    |some id=>
     rw[hid]at u3b;obtain⟨f,hf⟩:=ij hB hid;obtain⟨esi,ci,i1,i2,i3⟩:=hB.low _ id f hid hf;rw[hf]at r1 r2;simp(maxDischargeDepth:=12) (maxSteps:=1000000) -implicitDefEqProofs only[go_sem,Nat.reduceAdd,Nat.reduceSub,Nat.reduceMul,Nat.reduceLeDiff,Nat.reduceEqDiff,Nat.reduceGT,Nat.reduceBEq,reduceCtorEq,↓reduceIte,Int.reduceToNat,Int.reduceLE,Int.reduceLT,Int.reduceNe,Int.reduceEq,hlm,u1,u3b,hwk];refine xN (σ:=Unit) [] [0,1,6,7,8,9,47,48] (fun _=>[(6,dB (eJ c μ o (i+1)))]) (fun _=>⟨S.box,(lo.n,.arr 1 ((bg c μ o p i).map dA))::S.acc⟩) (fun _=>True) mx (by kernel_rfl) ?_ ?_
     ·rw[r2];simp(maxDischargeDepth:=12) (maxSteps:=1000000) -implicitDefEqProofs only[go_sem,Nat.reduceAdd,Nat.reduceSub,Nat.reduceMul,Nat.reduceLeDiff,Nat.reduceEqDiff,Nat.reduceGT,Nat.reduceBEq,reduceCtorEq,↓reduceIte,Int.reduceToNat,Int.reduceLE,Int.reduceLT,Int.reduceNe,Int.reduceEq];exact⟨fun _=>⟨(),trivial⟩,fun _=>⟨(),trivial⟩⟩
     rintro _ _;have hli:(lo.n=id)=False:=eq_false fun e=>by rw[e,i1]at hlo;cases hlo
     simp(maxDischargeDepth:=12) (maxSteps:=1000000) -implicitDefEqProofs only[go_sem,Nat.reduceAdd,Nat.reduceSub,Nat.reduceMul,Nat.reduceLeDiff,Nat.reduceEqDiff,Nat.reduceGT,Nat.reduceBEq,reduceCtorEq,↓reduceIte,Int.reduceToNat,Int.reduceLE,Int.reduceLT,Int.reduceNe,Int.reduceEq];refine an (zB w0 (m:=id) _) ?_;rintro _ _ ⟨bk,rfl,rfl⟩;simp(maxDischargeDepth:=12) (maxSteps:=1000000) -implicitDefEqProofs only[go_sem,Nat.reduceAdd,Nat.reduceSub,Nat.reduceMul,Nat.reduceLeDiff,Nat.reduceEqDiff,Nat.reduceGT,Nat.reduceBEq,reduceCtorEq,↓reduceIte,Int.reduceToNat,Int.reduceLE,Int.reduceLT,Int.reduceNe,Int.reduceEq];have hIM:IM ⟨(bk.n,[.mp id])::S.box,(lo.n,.arr 1 ((bg c μ o p i).map dA))::S.acc⟩ id N f:=⟨esi,ci,by simp(maxDischargeDepth:=12) (maxSteps:=1000000) -implicitDefEqProofs only[go_sem,Nat.reduceAdd,Nat.reduceSub,Nat.reduceMul,Nat.reduceLeDiff,Nat.reduceEqDiff,Nat.reduceGT,Nat.reduceBEq,reduceCtorEq,↓reduceIte,Int.reduceToNat,Int.reduceLE,Int.reduceLT,Int.reduceNe,Int.reduceEq,hli,i1],i2,i3⟩;refine an (Ev w0 (b:=bk.n) (by simp[lk]) hIM (by omega)) ?_;rintro _ _ ⟨r2,rfl,hkf,rfl⟩;simp(maxDischargeDepth:=12) (maxSteps:=1000000) -implicitDefEqProofs only[go_sem,Nat.reduceAdd,Nat.reduceSub,Nat.reduceMul,Nat.reduceLeDiff,Nat.reduceEqDiff,Nat.reduceGT,Nat.reduceBEq,reduceCtorEq,↓reduceIte,Int.reduceToNat,Int.reduceLE,Int.reduceLT,Int.reduceNe,Int.reduceEq];refine nB 11 3 rfl (by omega) fun l2=>?_;have n1:=aw l2 r2.n (by simp(maxDischargeDepth:=12) (maxSteps:=1000000) -implicitDefEqProofs only[go_sem,Nat.reduceAdd,Nat.reduceSub,Nat.reduceMul,Nat.reduceLeDiff,Nat.reduceEqDiff,Nat.reduceGT,Nat.reduceBEq,reduceCtorEq,↓reduceIte,Int.reduceToNat,Int.reduceLE,Int.reduceLT,Int.reduceNe,Int.reduceEq]);have n2:=aw l2 lo.n (by simp(maxDischargeDepth:=12) (maxSteps:=1000000) -implicitDefEqProofs only[go_sem,Nat.reduceAdd,Nat.reduceSub,Nat.reduceMul,Nat.reduceLeDiff,Nat.reduceEqDiff,Nat.reduceGT,Nat.reduceBEq,reduceCtorEq,↓reduceIte,Int.reduceToNat,Int.reduceLE,Int.reduceLT,Int.reduceNe,Int.reduceEq,n1]);have n3:=aw r2 lo.n (by simp(maxDischargeDepth:=12) (maxSteps:=1000000) -implicitDefEqProofs only[go_sem,Nat.reduceAdd,Nat.reduceSub,Nat.reduceMul,Nat.reduceLeDiff,Nat.reduceEqDiff,Nat.reduceGT,Nat.reduceBEq,reduceCtorEq,↓reduceIte,Int.reduceToNat,Int.reduceLE,Int.reduceLT,Int.reduceNe,Int.reduceEq]);have n4:(r2.n=id)=False:=aw r2 id (by simp(maxDischargeDepth:=12) (maxSteps:=1000000) -implicitDefEqProofs only[go_sem,Nat.reduceAdd,Nat.reduceSub,Nat.reduceMul,Nat.reduceLeDiff,Nat.reduceEqDiff,Nat.reduceGT,Nat.reduceBEq,reduceCtorEq,↓reduceIte,Int.reduceToNat,Int.reduceLE,Int.reduceLT,Int.reduceNe,Int.reduceEq,n3,i1,hli]);have n5:(l2.n=id)=False:=aw l2 id (by simp(maxDischargeDepth:=12) (maxSteps:=1000000) -implicitDefEqProofs only[go_sem,Nat.reduceAdd,Nat.reduceSub,Nat.reduceMul,Nat.reduceLeDiff,Nat.reduceEqDiff,Nat.reduceGT,Nat.reduceBEq,reduceCtorEq,↓reduceIte,Int.reduceToNat,Int.reduceLE,Int.reduceLT,Int.reduceNe,Int.reduceEq,n3,n1,n2,i1,hli]);refine aX [18] (cL f).length [0,1,6,7,8,9,11,47,48,73,74,75] (fun j=>[(11,.acc l2.n (mG i p f j).length),(73,.acc r2.n (cL f).length),(74,dI (cL f).length),(75,dI j)]) (fun j=>⟨(bk.n,[.mp id])::S.box,(l2.n,.arr 3 ((mG i p f j).map qT))::(r2.n,.arr 1 ((cL f).map eY))::(lo.n,.arr 1 ((bg c μ o p i).map dA))::S.acc⟩) (fun _=>True) mx (by kernel_rfl) ?_ ?_
     ·simp(maxDischargeDepth:=12) (maxSteps:=1000000) -implicitDefEqProofs only[go_sem,Nat.reduceAdd,Nat.reduceSub,Nat.reduceMul,Nat.reduceLeDiff,Nat.reduceEqDiff,Nat.reduceGT,Nat.reduceBEq,reduceCtorEq,↓reduceIte,Int.reduceToNat,Int.reduceLE,Int.reduceLT,Int.reduceNe,Int.reduceEq,n1,n2,n3];exact⟨.refl _,.refl _⟩
     ·intro j hj _;have hjn:=El i p f j;by_cases hjl:j<(cL f).length
      ·have e2:IntKind.i64.wrap ((j:Int)+1)=((j+1:Nat):Int):=aI (by omega);have hy:(cL f)[j]? =some (cL f)[j]:=W5 hjl;generalize (cL f)[j]=k at hy;obtain⟨v,hv⟩:=XD.1 (oF (W7 hy));have i3k:=i3 k;rw[hv]at i3k;unfold kT at i3k
       have hT:Has S ⟨(bk.n,[.mp id])::S.box,(l2.n,.arr 3 ((mG i p f j).map qT))::(r2.n,.arr 1 ((cL f).map eY))::(lo.n,.arr 1 ((bg c μ o p i).map dA))::S.acc⟩:=⟨fun b x q=>ai (ak bk) q,fun a x q=>by
        simp only[lk];have q0:¬lo.n=a:=fun e=>by rw[←e,hlo]at q;cases q
        have z1:=ak r2;have z2:=ak l2;simp only[lk]at z1 z2;rw[if_neg (fun e=>by rw[←n3];exact e.symm)]at z1;rw[if_neg (fun e=>by rw[←n1];exact e.symm),if_neg (fun e=>by rw[←n2];exact e.symm)]at z2;rw[if_neg (fun e=>by rw[←e,z2]at q;cases q),if_neg (fun e=>by rw[←e,z1]at q;cases q),if_neg q0];exact q⟩
       have hm8:maxLen=9223372036854775807:=rfl;simp(maxDischargeDepth:=12) (maxSteps:=1000000) -implicitDefEqProofs only[go_sem,Nat.reduceAdd,Nat.reduceSub,Nat.reduceMul,Nat.reduceLeDiff,Nat.reduceEqDiff,Nat.reduceGT,Nat.reduceBEq,reduceCtorEq,↓reduceIte,Int.reduceToNat,Int.reduceLE,Int.reduceLT,Int.reduceNe,Int.reduceEq,hy,e2,n1,n2,n3,hok];refine⟨fun _=>⟨hjl,hjl,?_⟩,fun h=>absurd hjl h⟩;refine ao (hp k _ hT) ?_
       cases hpk:p k with
       |true=>
        have hrj:=No (x:=i) hy hv hpk;simp(maxDischargeDepth:=12) (maxSteps:=1000000) -implicitDefEqProofs only[go_sem,Nat.reduceAdd,Nat.reduceSub,Nat.reduceMul,Nat.reduceLeDiff,Nat.reduceEqDiff,Nat.reduceGT,Nat.reduceBEq,reduceCtorEq,↓reduceIte,Int.reduceToNat,Int.reduceLE,Int.reduceLT,Int.reduceNe,Int.reduceEq,hy,e2,n1,n2,n3,n4,n5,hli,i1,i3k,hm8];rw[hrj];refine⟨by omega,by omega,hjl,?_,?_⟩
        ·rw[Xj];exact .refl _
        ·rw[Xw];exact .refl _
       |false=>
        have hrj:=NM (x:=i) (p:=p) hy hpk;simp(maxDischargeDepth:=12) (maxSteps:=1000000) -implicitDefEqProofs only[go_sem,Nat.reduceAdd,Nat.reduceSub,Nat.reduceMul,Nat.reduceLeDiff,Nat.reduceEqDiff,Nat.reduceGT,Nat.reduceBEq,reduceCtorEq,↓reduceIte,Int.reduceToNat,Int.reduceLE,Int.reduceLT,Int.reduceNe,Int.reduceEq,hy,e2,n1,n2,n3];rw[hrj];exact⟨hjl,.refl _,.refl _⟩
      ·have hje:j=(cL f).length:=by omega
       subst hje;rw[F3];simp(maxDischargeDepth:=12) (maxSteps:=1000000) -implicitDefEqProofs only[go_sem,Nat.reduceAdd,Nat.reduceSub,Nat.reduceMul,Nat.reduceLeDiff,Nat.reduceEqDiff,Nat.reduceGT,Nat.reduceBEq,reduceCtorEq,↓reduceIte,Int.reduceToNat,Int.reduceLE,Int.reduceLT,Int.reduceNe,Int.reduceEq,n1,n2,n3];refine⟨fun h=>absurd h hjl,fun _=>?_⟩;refine Qo [] [11] mx (by kernel_rfl) ?_;simp(maxDischargeDepth:=12) (maxSteps:=1000000) -implicitDefEqProofs only[go_sem,Nat.reduceAdd,Nat.reduceSub,Nat.reduceMul,Nat.reduceLeDiff,Nat.reduceEqDiff,Nat.reduceGT,Nat.reduceBEq,reduceCtorEq,↓reduceIte,Int.reduceToNat,Int.reduceLE,Int.reduceLT,Int.reduceNe,Int.reduceEq,n1,n2,n3,e1];rw[r1];refine⟨by omega,by unfold maxLen;omega,hil,?_,?_⟩
       ·rw[Xj];exact .refl _
       ·rw[Xw];exact .aP (.pC (.pC (.refl _)))
  ·have hie:i=μ.l.length:=by omega
   subst hie;simp(maxDischargeDepth:=12) (maxSteps:=1000000) -implicitDefEqProofs only[go_sem,Nat.reduceAdd,Nat.reduceSub,Nat.reduceMul,Nat.reduceLeDiff,Nat.reduceEqDiff,Nat.reduceGT,Nat.reduceBEq,reduceCtorEq,↓reduceIte,Int.reduceToNat,Int.reduceLE,Int.reduceLT,Int.reduceNe,Int.reduceEq];refine⟨fun h=>absurd h hil,fun _=>?_⟩
   cases hso:eJ c μ o μ.l.length with
   |false=>
    refine an (aB w0 false 32 _ fun _=>(q32 hns hso).to (hH _)) ?_;rintro _ _ ⟨q,_⟩;cases q
   |true=>
    refine an (aB w0 true 32 _ fun h=>by cases h) ?_;rintro _ _ ⟨_,rfl,rfl⟩;simp(maxDischargeDepth:=12) (maxSteps:=1000000) -implicitDefEqProofs only[go_sem,Nat.reduceAdd,Nat.reduceSub,Nat.reduceMul,Nat.reduceLeDiff,Nat.reduceEqDiff,Nat.reduceGT,Nat.reduceBEq,reduceCtorEq,↓reduceIte,Int.reduceToNat,Int.reduceLE,Int.reduceLT,Int.reduceNe,Int.reduceEq];exact⟨_,_,.refl _,.refl _,hns,lo,rfl,rfl⟩
end Go.Proofs.YtoepfmhnapedoaaGreatDoor
namespace Aml
open Go Go.RowKit
section
variable {P:Program} {w0:W0}
theorem Rel.LF{g:Gh}{S:St}{w:World}(h:Rel w0 g S w):Rel ⟨w0.w,g,w0.pq⟩ g S w:=⟨⟨h.below.base,h.below.obj,Gh.sub.refl g⟩,h.aN,h.nb,h.na,h.dD,h.fresh,h.top,h.own⟩
theorem Rel.LH{g0 g:Gh}{S:St}{w:World}(h:Rel ⟨w0.w,g0,w0.pq⟩ g S w)(k:w0.gh.sub g):Rel w0 g S w:=⟨⟨h.below.base,h.below.obj,k⟩,h.aN,h.nb,h.na,h.dD,h.fresh,h.top,h.own⟩
theorem yO{g:Gh}{s:Nat}{f:Bool}{xs:List DV}{u:Value}(r:az g (.sl s f xs) u):u.oneCell'=true:=by
 generalize hd:DV.sl s f xs=d at r;cases r <;>first|(cases hd;done)|rfl|skip
 all_goals first|assumption|rfl|skip
theorem E9(i:Nat){s:Nat}{f:Bool}{xs:List DV}{c:Code}{fr:List DV}{S:St}{Q:Exit→List DV→St→Prop}(hi:fr[i]? =some (.sl s f xs))
 (h:∀(w1:W0) (u:Value),w1.w=w0.w→w1.pq=w0.pq→w0.gh.sub w1.gh→u.oneCell'=true→(∀g',w1.gh.sub g'→az g' (.sl s f xs) u)→fL P w1 c (fr.set i (.v u)) S Q):fL P w0 c fr S Q:=by
 intro g a w h1 h2 h3;have hlt:i<fr.length:=(W6.1 hi).1;obtain⟨u,hu⟩:∃u,a.tmps.toList[i]? =some u:=⟨_,W5 (by rw[←h2.len];exact hlt)⟩;have hr:=h2.at_ i _ u hi hu;have ho:=yO hr
 have h2':ae g (fr.set i (.v u)) a.tmps.toList:=by
  have:=h2.set i (d:= .v u) (u:=u) (.v u ho)
  have e:a.tmps.toList.set i u=a.tmps.toList:=by
   refine X4 fun j=>?_;by_cases q:i=j
   ·subst q;rw[X7 (W6.1 hu).1,hu]
   ·rw[X8 q]
  rw[e]at this;exact this
 have hsub:∀g',g.le g'→w0.gh.sub g':=fun g' k=>h1.below.dG.le k;have h3':Dk ⟨w0.w,g,w0.pq⟩ g a w:=h3;refine aU (h ⟨w0.w,g,w0.pq⟩ u rfl rfl h1.below.dG ho (fun g' k=>hr.of k.aN k.acc) g a w h1.LF h2' h3') ?_;rintro e a' w' ⟨hd,g',fr',S',k1,k2,k3,k4⟩;exact⟨hd,g',fr',S',k1,k2.LH (hsub g' k1),k3,by cases e <;>exact k4⟩
theorem vz{f:FuncId}{u:Value}{d:DV}{ds:List DV}{S:St}{K:DV→St→Prop}(hu:∀g',w0.gh.sub g'→az g' d u)(h:aa P w0 f (d::ds) S K):aa P w0 f (.v u::ds) S K:=by
 intro g vs w h1 h2;refine h g vs w h1 ⟨h2.len,fun i d' u' q1 q2=>?_⟩
 cases i with
 |zero=>
  simp only[List.getElem?_cons_zero,Xr]at q1;subst q1;have:=h2.at_ 0 (.v u) u' rfl q2;rw[aj this];exact hu g h1.below.dG
 |succ i=>exact h2.at_ (i+1) d' u' q1 q2
end
end Aml
namespace Go.Proofs.YtoepfmhnapedoaaGreatDoor
open Aml Go Rn Lat Grs
theorem F1(m:List iq):kH [] m=m:=by rw[kH]
theorem F9(l:List iq):kH l []=l:=by
 cases l with
 |nil=>rw[kH]
 |cons a l=>rw[kH];intro h;cases h
theorem yt(a b:iq)(l m:List iq):kH (a::l) (b::m)=if pM b a then b::kH (a::l) m else a::kH l (b::m):=by rw[kH]
theorem tT:∀(n:Nat) (l m:List iq),l.length+m.length≤n→(kH l m).length=l.length+m.length
 |_,[],m,_=>by rw[F1];simp
 |_,a::l,[],_=>by rw[F9];simp
 |0,a::l,b::m,h=>by simp at h
 |n+1,a::l,b::m,h=>by
  rw[yt];simp only[Xi]at h;split
  ·rw[Xi,tT n (a::l) m (by simp only[Xi];omega)];simp only[Xi];omega
  ·rw[Xi,tT n l (b::m) (by simp only[Xi];omega)];simp only[Xi];omega
theorem jR(B:List (Nat×List DV))(A:List (Nat×Ob)):Has ⟨B,[]⟩ ⟨B,A⟩:=⟨fun _ _ q=>q,fun l o q=>by cases q⟩
theorem Mj(w0:W0)(l m:List iq)(h0:l.length+m.length≤104857600)(S:St):aa Tryz.prog w0 160 [dA l,dA m] S (fun d S'=>d=dA (kH l m)∧S'=S):=by
 refine bW [8] mx Tryz.func160 rfl rfl (by kernel_rfl) ?_;simp(maxDischargeDepth:=12) (maxSteps:=1000000) -implicitDefEqProofs only[Tryz.ntmps160,go_sem,Nat.reduceAdd,Nat.reduceSub,Nat.reduceMul,Nat.reduceLeDiff,Nat.reduceEqDiff,Nat.reduceGT,Nat.reduceBEq,reduceCtorEq,↓reduceIte,Int.reduceToNat,Int.reduceLE,Int.reduceLT,Int.reduceNe,Int.reduceEq];intro b2 b3;have n1:=aw b3 b2.n (by simp(maxDischargeDepth:=12) (maxSteps:=1000000) -implicitDefEqProofs only[go_sem,Nat.reduceAdd,Nat.reduceSub,Nat.reduceMul,Nat.reduceLeDiff,Nat.reduceEqDiff,Nat.reduceGT,Nat.reduceBEq,reduceCtorEq,↓reduceIte,Int.reduceToNat,Int.reduceLE,Int.reduceLT,Int.reduceNe,Int.reduceEq]);have n1':(b2.n=b3.n)=False:=by rw[←n1];exact propext eq_comm
 have e0:=MR l.length m.length (by omega);simp(maxDischargeDepth:=12) (maxSteps:=1000000) -implicitDefEqProofs only[go_sem,Nat.reduceAdd,Nat.reduceSub,Nat.reduceMul,Nat.reduceLeDiff,Nat.reduceEqDiff,Nat.reduceGT,Nat.reduceBEq,reduceCtorEq,↓reduceIte,Int.reduceToNat,Int.reduceLE,Int.reduceLT,Int.reduceNe,Int.reduceEq,n1,n1',e0];refine⟨by omega,by omega,fun lo=>?_⟩;refine fc [8] [2,3,5] (σ:=List iq×List iq×List iq) (fun s=>[(5,.acc lo.n s.1.length)]) (fun s=>⟨(b3.n,[dA s.2.2])::(b2.n,[dA s.2.1])::S.box,(lo.n,.arr 3 (s.1.map qT))::S.acc⟩) (fun s=>s.1++kH s.2.1 s.2.2=kH l m∧s.1.length+s.2.1.length+s.2.2.length=l.length+m.length) (fun s=>s.2.1.length+s.2.2.length) ([],l,m) mx (by kernel_rfl) ⟨by simp,?_⟩ ?_
 ·simp(maxDischargeDepth:=12) (maxSteps:=1000000) -implicitDefEqProofs only[go_sem,Nat.reduceAdd,Nat.reduceSub,Nat.reduceMul,Nat.reduceLeDiff,Nat.reduceEqDiff,Nat.reduceGT,Nat.reduceBEq,reduceCtorEq,↓reduceIte,Int.reduceToNat,Int.reduceLE,Int.reduceLT,Int.reduceNe,Int.reduceEq]
 ·rintro⟨o,l',m'⟩ ⟨h1,h2⟩;simp only at h1 h2;have hm8:maxLen=9223372036854775807:=rfl;have z0:((0:Int)>0)=False:=by simp
  have zp:∀n:Nat,(((n+1:Nat):Int)>0)=True:=fun n=>eq_true (by omega);rcases l' with _|⟨a,l'⟩
  ·rw[F1]at h1;simp only[XK]at h2;simp(maxDischargeDepth:=12) (maxSteps:=1000000) -implicitDefEqProofs only[go_sem,Nat.reduceAdd,Nat.reduceSub,Nat.reduceMul,Nat.reduceLeDiff,Nat.reduceEqDiff,Nat.reduceGT,Nat.reduceBEq,reduceCtorEq,↓reduceIte,Int.reduceToNat,Int.reduceLE,Int.reduceLT,Int.reduceNe,Int.reduceEq,n1,n1',z0]
   try refine⟨fun h=>by omega,fun _=>?_⟩
   refine Y.Pg ⟨(b3.n,[dA m'])::(b2.n,[dA []])::S.box,[]⟩ ⟨[],[]⟩ [2,4] [] [0,1,3,2,4,5] mx (by kernel_rfl) (fun T _=>Y.oY T) ?_;simp(maxDischargeDepth:=12) (maxSteps:=1000000) -implicitDefEqProofs only[go_sem,Nat.reduceAdd,Nat.reduceSub,Nat.reduceMul,Nat.reduceLeDiff,Nat.reduceEqDiff,Nat.reduceGT,Nat.reduceBEq,reduceCtorEq,↓reduceIte,Int.reduceToNat,Int.reduceLE,Int.reduceLT,Int.reduceNe,Int.reduceEq,n1,n1',hm8];refine⟨jR _ _,jR _ _,by omega,by omega,jR _ _,by omega,by omega,jR _ _,?_⟩;rw[h1];exact .refl _
  ·rcases m' with _|⟨b,m'⟩
   ·rw[F9]at h1;simp only[XK,Xi]at h2;simp(maxDischargeDepth:=12) (maxSteps:=1000000) -implicitDefEqProofs only[go_sem,Nat.reduceAdd,Nat.reduceSub,Nat.reduceMul,Nat.reduceLeDiff,Nat.reduceEqDiff,Nat.reduceGT,Nat.reduceBEq,reduceCtorEq,↓reduceIte,Int.reduceToNat,Int.reduceLE,Int.reduceLT,Int.reduceNe,Int.reduceEq,n1,n1',z0,zp l'.length];refine Y.Pg ⟨(b3.n,[dA []])::(b2.n,[dA (a::l')])::S.box,[]⟩ ⟨[],[]⟩ [2,4] [] [0,1,3,2,4,5] mx (by kernel_rfl) (fun T _=>Y.oY T) ?_;simp(maxDischargeDepth:=12) (maxSteps:=1000000) -implicitDefEqProofs only[go_sem,Nat.reduceAdd,Nat.reduceSub,Nat.reduceMul,Nat.reduceLeDiff,Nat.reduceEqDiff,Nat.reduceGT,Nat.reduceBEq,reduceCtorEq,↓reduceIte,Int.reduceToNat,Int.reduceLE,Int.reduceLT,Int.reduceNe,Int.reduceEq,n1,n1',hm8];refine⟨jR _ _,jR _ _,by omega,by omega,jR _ _,by omega,by omega,jR _ _,?_⟩;rw[←h1];simp only[Xw,Xy];exact .refl _
   ·simp only[Xi]at h2;simp(maxDischargeDepth:=12) (maxSteps:=1000000) -implicitDefEqProofs only[go_sem,Nat.reduceAdd,Nat.reduceSub,Nat.reduceMul,Nat.reduceLeDiff,Nat.reduceEqDiff,Nat.reduceGT,Nat.reduceBEq,reduceCtorEq,↓reduceIte,Int.reduceToNat,Int.reduceLE,Int.reduceLT,Int.reduceNe,Int.reduceEq,n1,n1',zp l'.length,zp m'.length];refine eu (Ir _ b a _) ?_
    cases hlt:pM b a with
    |true=>
     simp(maxDischargeDepth:=12) (maxSteps:=1000000) -implicitDefEqProofs only[go_sem,Nat.reduceAdd,Nat.reduceSub,Nat.reduceMul,Nat.reduceLeDiff,Nat.reduceEqDiff,Nat.reduceGT,Nat.reduceBEq,reduceCtorEq,↓reduceIte,Int.reduceToNat,Int.reduceLE,Int.reduceLT,Int.reduceNe,Int.reduceEq,n1,n1',hm8];rw[yt,if_pos hlt]at h1;refine⟨by omega,by omega,by omega,by omega,⟨o++[b],a::l',m'⟩,⟨by simpa using h1,by simp only[Xj,Xi,XK];omega⟩,by simp only[Xi];omega,by simp only[Xj,YY];exact .refl _,by simp only[Xw];exact .refl _⟩
    |false=>
     simp(maxDischargeDepth:=12) (maxSteps:=1000000) -implicitDefEqProofs only[go_sem,Nat.reduceAdd,Nat.reduceSub,Nat.reduceMul,Nat.reduceLeDiff,Nat.reduceEqDiff,Nat.reduceGT,Nat.reduceBEq,reduceCtorEq,↓reduceIte,Int.reduceToNat,Int.reduceLE,Int.reduceLT,Int.reduceNe,Int.reduceEq,n1,n1',hm8];rw[yt,if_neg (by rw[hlt];simp)]at h1;refine⟨by omega,by omega,by omega,by omega,⟨o++[a],l',b::m'⟩,⟨by simpa using h1,by simp only[Xj,Xi,XK];omega⟩,by simp only[Xi];omega,by simp only[Xj,YY];exact .refl _,by simp only[Xw];exact .refl _⟩
theorem HM(rows:List (List iq)):(rows.foldl kH []).length=(lC rows).length:=by
 have key:∀(rows:List (List iq)) (x:List iq),(rows.foldl kH x).length=x.length+(lC rows).length:=by
  intro rows
  induction rows with
  |nil=>intro x;simp[lC]
  |cons r rows ih=>
   intro x;rw[List.foldl_cons,ih,tT _ _ _ (Xa _)];simp[lC];omega
 rw[key];simp
theorem DB{rows:List (List iq)}{k:Nat}{a:List iq}(h:rows[k]? =some a):(rows.take (k+1)).foldl kH []=kH ((rows.take k).foldl kH []) a:=by
 rw[XZ,h,Zk];rfl
theorem Jh(w0:W0)(rows:List (List iq))(most:Int)(h0:rows.length≤1048576)(h1:(lC rows).length≤1048576)(hs:∀l,l∈rows→∀i x y,l[i]? =some x→l[i+1]? =some y→pM y x=false)(S:St):
 aa Tryz.prog w0 126 [.sl 1 false (rows.map dA),dI most] S (fun d S'=>d=dA (Qz rows most)∧S'=S):=by
 refine bW [] mx Tryz.func126 rfl rfl (by kernel_rfl) ?_;simp(maxDischargeDepth:=12) (maxSteps:=1000000) -implicitDefEqProofs only[Tryz.ntmps126,go_sem,Nat.reduceAdd,Nat.reduceSub,Nat.reduceMul,Nat.reduceLeDiff,Nat.reduceEqDiff,Nat.reduceGT,Nat.reduceBEq,reduceCtorEq,↓reduceIte,Int.reduceToNat,Int.reduceLE,Int.reduceLT,Int.reduceNe,Int.reduceEq];refine aX [1001] rows.length [1,5,10,11,12] (fun i=>[(5,dA ((rows.take i).foldl kH [])),(12,dI i)]) (fun _=>S) (fun _=>True) mx (by kernel_rfl) ?_ ?_
 ·simp(maxDischargeDepth:=12) (maxSteps:=1000000) -implicitDefEqProofs only[go_sem,Nat.reduceAdd,Nat.reduceSub,Nat.reduceMul,Nat.reduceLeDiff,Nat.reduceEqDiff,Nat.reduceGT,Nat.reduceBEq,reduceCtorEq,↓reduceIte,Int.reduceToNat,Int.reduceLE,Int.reduceLT,Int.reduceNe,Int.reduceEq];exact .S7 _ _ _
 ·intro i hi _;by_cases hil:i<rows.length
  ·have e1:IntKind.i64.wrap ((i:Int)+1)=((i+1:Nat):Int):=aI (by omega);have hx:rows[i]? =some rows[i]:=W5 hil;have hus:=DB hx;have hfs:=pv hx;have hfl:=ya rows (i+1);have hsi:=hs _ (List.getElem_mem hil);have hul:=HM (rows.take i);generalize rows[i]=l at hx hus hfs hsi;rw[hfs,Xj]at hfl;simp(maxDischargeDepth:=12) (maxSteps:=1000000) -implicitDefEqProofs only[go_sem,Nat.reduceAdd,Nat.reduceSub,Nat.reduceMul,Nat.reduceLeDiff,Nat.reduceEqDiff,Nat.reduceGT,Nat.reduceBEq,reduceCtorEq,↓reduceIte,Int.reduceToNat,Int.reduceLE,Int.reduceLT,Int.reduceNe,Int.reduceEq,hx,e1];refine⟨fun _=>?_,fun h=>absurd hil h⟩;refine E9 5 rfl fun w1 u hw1 hp1 hs1 ho hu=>Mn [] mx (by kernel_rfl) ?_;simp(maxDischargeDepth:=12) (maxSteps:=1000000) -implicitDefEqProofs only[go_sem,Nat.reduceAdd,Nat.reduceSub,Nat.reduceMul,Nat.reduceLeDiff,Nat.reduceEqDiff,Nat.reduceGT,Nat.reduceBEq,reduceCtorEq,↓reduceIte,Int.reduceToNat,Int.reduceLE,Int.reduceLT,Int.reduceNe,Int.reduceEq,hx,e1];refine⟨hil,?_⟩;refine ao (H5 w1 l _ (by omega)) ?_;simp(maxDischargeDepth:=12) (maxSteps:=1000000) -implicitDefEqProofs only[go_sem,Nat.reduceAdd,Nat.reduceSub,Nat.reduceMul,Nat.reduceLeDiff,Nat.reduceEqDiff,Nat.reduceGT,Nat.reduceBEq,reduceCtorEq,↓reduceIte,Int.reduceToNat,Int.reduceLE,Int.reduceLT,Int.reduceNe,Int.reduceEq];refine ao (Gu w1 l (by omega) hsi _) ?_;simp(maxDischargeDepth:=12) (maxSteps:=1000000) -implicitDefEqProofs only[go_sem,Nat.reduceAdd,Nat.reduceSub,Nat.reduceMul,Nat.reduceLeDiff,Nat.reduceEqDiff,Nat.reduceGT,Nat.reduceBEq,reduceCtorEq,↓reduceIte,Int.reduceToNat,Int.reduceLE,Int.reduceLT,Int.reduceNe,Int.reduceEq,ho];refine⟨ho,ao (vz hu (Mj w1 ((rows.take i).foldl kH []) l (by omega) _)) ?_⟩;rw[hus];simp(maxDischargeDepth:=12) (maxSteps:=1000000) -implicitDefEqProofs only[go_sem,Nat.reduceAdd,Nat.reduceSub,Nat.reduceMul,Nat.reduceLeDiff,Nat.reduceEqDiff,Nat.reduceGT,Nat.reduceBEq,reduceCtorEq,↓reduceIte,Int.reduceToNat,Int.reduceLE,Int.reduceLT,Int.reduceNe,Int.reduceEq,e1];exact hil
  ·have hie:i=rows.length:=by omega
   subst hie;rw[XF (Xa _)];simp(maxDischargeDepth:=12) (maxSteps:=1000000) -implicitDefEqProofs only[go_sem,Nat.reduceAdd,Nat.reduceSub,Nat.reduceMul,Nat.reduceLeDiff,Nat.reduceEqDiff,Nat.reduceGT,Nat.reduceBEq,reduceCtorEq,↓reduceIte,Int.reduceToNat,Int.reduceLE,Int.reduceLT,Int.reduceNe,Int.reduceEq];refine⟨fun h=>absurd h hil,fun _=>?_⟩
   have hmin:(if((rows.foldl kH []).length:Int)<if most<0 then 0 else most then((rows.foldl kH []).length:Int)else if most<0 then 0 else most).toNat=min most.toNat (rows.foldl kH []).length:=by
    split <;>split at* <;>omega
   have hmin2:0≤(if((rows.foldl kH []).length:Int)<if most<0 then 0 else most then((rows.foldl kH []).length:Int)else if most<0 then 0 else most)∧(if((rows.foldl kH []).length:Int)<if most<0 then 0 else most then((rows.foldl kH []).length:Int)else if most<0 then 0 else most)≤((rows.foldl kH []).length:Int):=by
    split <;>split at* <;>omega
   rw[hmin];refine⟨hmin2.1,hmin2.2,?_⟩
   have e:Qz rows most=(rows.foldl kH []).take (min most.toNat (rows.foldl kH []).length):=by
    unfold Qz;rw[←List.take_take,List.take_length]
   rw[e];exact .refl _
end Go.Proofs.YtoepfmhnapedoaaGreatDoor
namespace Go.Proofs.YtoepfmhnapedoaaGreatDoor
open Aml Go Rn Lat Grs
def uk(F:ir):Prop:=∀n f,F n=some f→n.length≤1000∧∀k v,f k=some v→k.length≤1000∧v.length≤1000
structure iN(N:Nat)(c:Cf)(μ:bq):Prop where
 n:μ.l.length≤64
 nl:μ.l.length=c.up.length
 r:μ.r.length≤N
 la:oI μ.r N
 uW:iM μ.r
 sp:∀lv n k,k∈Bk μ.r lv n→∃Fs,μ.sn lv n k=some Fs∧Fs.length=μ.l.length
 au:∀l,l∈μ.l→l.au.length≤N
 sz:∀l,l∈μ.l→uk l.F∧uk l.D
theorem LM(a b:List UInt8):yy a b=decide (a<b):=Go.Proofs.bytesLess_eq a b
theorem yG{α:Type}(f:List UInt8→Option α):(cL f).Pairwise (·≤·):=by
 unfold cL;split
 ·exact jq _
 ·exact .nil
theorem DG{es:List (Value×DV×Nat)}{α:Type}{d:α→DV}{f:List UInt8→Option α}(h:∀k,aJ es (kT k)=(f k).map d):(cL f).length≤es.length:=by
 unfold cL;split
 ·rename_i hx;rw[jS];have h1:((hx.choose).map kT).Nodup:=aM (fun x y h=>ep h) hx.choose_spec.1
  have h2:(hx.choose).map kT⊆es.map (·.1):=fun u hu=>by
   obtain⟨v,hv,rfl⟩:=Xk.1 hu;have h3:=(hx.choose_spec.2 v).1 hv;obtain⟨x,hx'⟩:=XD.1 h3;have h4:=h v;rw[hx']at h4;obtain⟨b,hm⟩:=mo h4;exact Xk.2 ⟨_,hm,rfl⟩
  have:=bQ h1 h2;simpa using this
 ·simp
theorem wx(x:Nat)(p:List UInt8→Bool)(f:Option (List UInt8→Option (List UInt8))):∀i a b,(oh x p f)[i]? =some a→(oh x p f)[i+1]? =some b→pM b a=false:=by
 intro i a b h1 h2;unfold oh at h1 h2
 cases f with
 |none=>simp at h1
 |some f=>
  simp only[Xd,Xb]at h1 h2;obtain⟨k1,q1,rfl⟩:=h1;obtain⟨k2,q2,rfl⟩:=h2;have hp:=(yG f).sublist (List.filter_sublist (p:=p) (l:=cL f));obtain⟨l1,e1⟩:=W6.1 q1;obtain⟨l2,e2⟩:=W6.1 q2;have:=(Yp.1 hp) i (i+1) l1 l2 (by omega);rw[e1,e2]at this;unfold pM;simp only[LM,Bool.or_eq_false_iff,decide_eq_false_iff_not,Bool.and_eq_false_iff];exact⟨List.not_lt.2 this,.inr (by omega)⟩
section
variable {w0:W0} {S:St} {g:MG} {N:Nat} {c:Cf} {μ:bq} {w own:Nat} {o:bp} {full:Bool}
theorem lY.has{T:St}(h:lY S g w own o full)(k:Has S T):lY T g w own o full:=⟨k.box _ _ h.k,h.l,h.p,h.f,h.s⟩
theorem EO(w0:W0)(hI:MI S g N c μ)(hw:lY S g w own o full)(hs:o.snap≠0→∃Fs,μ.sn o.level o.aC o.snap=some Fs∧Fs.length=μ.l.length){x:Nat}(hx:x<μ.l.length)(p:List UInt8→Bool):(oh x p (dc μ o x o.bucket)).length≤N:=by
 obtain⟨m,ids,hB,_⟩:=Li w0 hI hw hs hx;unfold oh
 cases hf:dc μ o x o.bucket with
 |none=>simp
 |some f=>
  obtain⟨i,hi⟩:=aZ (fun q=>by rw[(hB.some_ _).1 q]at hf;cases hf);obtain⟨es,cl,g1,g2,g3⟩:=hB.low _ i f hi hf;simp only[XJ];have h1:=List.length_filter_le p (cL f);have h2:=DG g3;omega
theorem mW{α:Type}{rows:List (List α)}{n:Nat}(h:∀r,r∈rows→r.length≤n):(lC rows).length≤rows.length*n:=by
 induction rows with
 |nil=>simp[lC]
 |cons r rows ih=>
  have h1:=ih fun q hq=>h q (Xc _ hq);have h2:=h r Xf;simp only[lC,List.flatten_cons,Xj,Xi]at h1 ⊢;rw[X1];omega
theorem nK(w0:W0)(hI:MI S g N c μ)(hM:iN N c μ)(hN:N≤10000)(hw:lY S g w own o full)(hs:o.snap≠0→∃Fs,μ.sn o.level o.aC o.snap=some Fs∧Fs.length=μ.l.length)(p:List UInt8→Bool):(lC (bg c μ o p μ.l.length)).length≤640000:=by
 have h1:=mW (rows:=bg c μ o p μ.l.length) (n:=N) fun r hr=>by
  unfold bg at hr;obtain⟨x,hx,rfl⟩:=Xk.1 hr;unfold gx at hx;exact EO w0 hI hw hs (X9.1 (YA.1 hx).1) p
 have h2:=iB c μ o p μ.l.length;have h3:=hM.n;have h4:(bg c μ o p μ.l.length).length*N≤64*10000:=Nat.mul_le_mul (by omega) hN;omega
theorem te(p:List UInt8→Bool):∀l,l∈bg c μ o p μ.l.length→∀i x y,l[i]? =some x→l[i+1]? =some y→pM y x=false:=fun l hl=>by
 unfold bg at hl;obtain⟨x,hx,rfl⟩:=Xk.1 hl;exact wx x p _
theorem Ai(R:List iq):Wk (.agg [dI 0,dI 0,dA R,dI 0,dI 0,dI 0,dI 0,.sl 0 true []]) (HC ⟨0,0,R,[]⟩):= .agg ⟨.refl _,.refl _,.refl _,.refl _,.refl _,.refl _,.refl _,.nil _ _ _,trivial⟩
theorem Su(hI:MI S g N c μ)(hM:iN N c μ)(hN:N≤10000)(hw:lY S g w own o full)(hq:∀e,getM c μ o= .inl e→wG w0 S g N c μ e):aa Tryz.prog w0 77 [bz w] S (kG S g (N+1) c (getM c μ o)):=by
 have hwk:=hw.k;have hn:=hM.n;refine mv [] mx Tryz.func77 rfl rfl (by kernel_rfl) ?_;simp(maxDischargeDepth:=12) (maxSteps:=1000000) -implicitDefEqProofs only[Tryz.ntmps77,go_sem,Nat.reduceAdd,Nat.reduceSub,Nat.reduceMul,Nat.reduceLeDiff,Nat.reduceEqDiff,Nat.reduceGT,Nat.reduceBEq,reduceCtorEq,↓reduceIte,Int.reduceToNat,Int.reduceLE,Int.reduceLT,Int.reduceNe,Int.reduceEq];intro b1 b2;have n1:=aw b2 b1.n (by simp(maxDischargeDepth:=12) (maxSteps:=1000000) -implicitDefEqProofs only[go_sem,Nat.reduceAdd,Nat.reduceSub,Nat.reduceMul,Nat.reduceLeDiff,Nat.reduceEqDiff,Nat.reduceGT,Nat.reduceBEq,reduceCtorEq,↓reduceIte,Int.reduceToNat,Int.reduceLE,Int.reduceLT,Int.reduceNe,Int.reduceEq]);have hH:Has S ⟨(b2.n,[dI 0,dI 0,.sl 0 true [],dI 0,dI 0,dI 0,dI 0,.sl 0 true []])::(b1.n,[bz w])::S.box,S.acc⟩:=⟨fun b x q=>ai (ak b2) (ai (ak b1) q),fun _ _ q=>q⟩;refine an (KP w0 (hI.has hH) (hw.has hH) hN hn hM.la (by omega) (fun h1 h2=>hM.sp _ _ _ h2) (fun k=>decide (k=o.key)) 125 b1.n (by kernel_rfl) (fun k T hT=>TB w0 (hT.box _ _ (by simp(maxDischargeDepth:=12) (maxSteps:=1000000) -implicitDefEqProofs only[go_sem,Nat.reduceAdd,Nat.reduceSub,Nat.reduceMul,Nat.reduceLeDiff,Nat.reduceEqDiff,Nat.reduceGT,Nat.reduceBEq,reduceCtorEq,↓reduceIte,Int.reduceToNat,Int.reduceLE,Int.reduceLT,Int.reduceNe,Int.reduceEq,n1])) (hT.box _ _ (hH.box _ _ hwk)) k) (fun h=>((hq 39 (by unfold getM;rw[if_pos h])).er hI).to hH) (fun h1 h2=>((hq 32 (by unfold getM;rw[if_neg h1,if_pos h2])).er hI).to hH)) ?_;rintro _ _ ⟨hns,hso,lo,rfl,rfl⟩;have hs:o.snap≠0→∃Fs,μ.sn o.level o.aC o.snap=some Fs∧Fs.length=μ.l.length:=fun h=>hM.sp _ _ _ (Xp.1 fun q=>hns ⟨h,q⟩);have hb:=nK w0 hI hM hN hw hs (fun k=>decide (k=o.key));have hrl:=iB c μ o (fun k=>decide (k=o.key)) μ.l.length;simp(maxDischargeDepth:=12) (maxSteps:=1000000) -implicitDefEqProofs only[go_sem,Nat.reduceAdd,Nat.reduceSub,Nat.reduceMul,Nat.reduceLeDiff,Nat.reduceEqDiff,Nat.reduceGT,Nat.reduceBEq,reduceCtorEq,↓reduceIte,Int.reduceToNat,Int.reduceLE,Int.reduceLT,Int.reduceNe,Int.reduceEq];refine .inr (ao (D5 w0 (bg c μ o (fun k=>decide (k=o.key)) μ.l.length) _ (by omega) (by omega)) ?_);generalize hR:lC (bg c μ o (fun k=>decide (k=o.key)) μ.l.length)=R at hb
 have hg:getM c μ o=if R=[]then .inl 33 else .inr (⟨0,0,R,[]⟩,μ):=by
  unfold getM;rw[if_neg hns,if_neg (by rw[hso];simp)];simp only[←hR,lC]
 cases R with
 |nil=>
  simp(maxDischargeDepth:=12) (maxSteps:=1000000) -implicitDefEqProofs only[go_sem,Nat.reduceAdd,Nat.reduceSub,Nat.reduceMul,Nat.reduceLeDiff,Nat.reduceEqDiff,Nat.reduceGT,Nat.reduceBEq,reduceCtorEq,↓reduceIte,Int.reduceToNat,Int.reduceLE,Int.reduceLT,Int.reduceNe,Int.reduceEq,n1];refine an (aB w0 false 33 _ fun _=>(((hq 33 (by rw[hg];rfl)).er hI).to hH).to ⟨fun _ _ q=>q,fun l x q=>ai (ak lo) q⟩) ?_;rintro _ _ ⟨q,_⟩;cases q
 |cons a R=>
  have zp:∀n:Nat,(((n+1:Nat):Int)>0)=True:=fun n=>eq_true (by omega);simp(maxDischargeDepth:=12) (maxSteps:=1000000) -implicitDefEqProofs only[go_sem,Nat.reduceAdd,Nat.reduceSub,Nat.reduceMul,Nat.reduceLeDiff,Nat.reduceEqDiff,Nat.reduceGT,Nat.reduceBEq,reduceCtorEq,↓reduceIte,Int.reduceToNat,Int.reduceLE,Int.reduceLT,Int.reduceNe,Int.reduceEq,n1,zp R.length];refine an (aB w0 true 33 _ fun h=>by cases h) ?_;rintro _ _ ⟨_,rfl,rfl⟩;simp(maxDischargeDepth:=12) (maxSteps:=1000000) -implicitDefEqProofs only[go_sem,Nat.reduceAdd,Nat.reduceSub,Nat.reduceMul,Nat.reduceLeDiff,Nat.reduceEqDiff,Nat.reduceGT,Nat.reduceBEq,reduceCtorEq,↓reduceIte,Int.reduceToNat,Int.reduceLE,Int.reduceLT,Int.reduceNe,Int.reduceEq,n1];exact⟨_,_,.refl _,.aP (.aP (.pC (.refl _))),⟨0,0,a::R,[]⟩,μ,g,by rw[hg];exact if_neg (by simp),Ai (a::R),hI.le (XA N),.refl _ _⟩
theorem QI(hI:MI S g N c μ)(hM:iN N c μ)(hN:N≤10000)(hw:lY S g w own o full)(hq:∀e,gy c μ o= .inl e→wG w0 S g N c μ e):aa Tryz.prog w0 78 [bz w] S (kG S g (N+1) c (gy c μ o)):=by
 have hwk:=hw.k;have hn:=hM.n;refine mv [1] mx Tryz.func78 rfl rfl (by kernel_rfl) ?_;simp(maxDischargeDepth:=12) (maxSteps:=1000000) -implicitDefEqProofs only[Tryz.ntmps78,go_sem,Nat.reduceAdd,Nat.reduceSub,Nat.reduceMul,Nat.reduceLeDiff,Nat.reduceEqDiff,Nat.reduceGT,Nat.reduceBEq,reduceCtorEq,↓reduceIte,Int.reduceToNat,Int.reduceLE,Int.reduceLT,Int.reduceNe,Int.reduceEq];intro b1 b2;have n1:=aw b2 b1.n (by simp(maxDischargeDepth:=12) (maxSteps:=1000000) -implicitDefEqProofs only[go_sem,Nat.reduceAdd,Nat.reduceSub,Nat.reduceMul,Nat.reduceLeDiff,Nat.reduceEqDiff,Nat.reduceGT,Nat.reduceBEq,reduceCtorEq,↓reduceIte,Int.reduceToNat,Int.reduceLE,Int.reduceLT,Int.reduceNe,Int.reduceEq]);have hw1:(b1.n=w)=False:=eq_false fun e=>by have:=ak b1;rw[e,hwk]at this;cases this
 have hw2:(b2.n=w)=False:=aw b2 w (by simp(maxDischargeDepth:=12) (maxSteps:=1000000) -implicitDefEqProofs only[go_sem,Nat.reduceAdd,Nat.reduceSub,Nat.reduceMul,Nat.reduceLeDiff,Nat.reduceEqDiff,Nat.reduceGT,Nat.reduceBEq,reduceCtorEq,↓reduceIte,Int.reduceToNat,Int.reduceLE,Int.reduceLT,Int.reduceNe,Int.reduceEq,hw1,hwk]);have hH:Has S ⟨(b2.n,[dI 0,dI 0,.sl 0 true [],dI 0,dI 0,dI 0,dI 0,.sl 0 true []])::(b1.n,[bz w])::S.box,S.acc⟩:=⟨fun b x q=>ai (ak b2) (ai (ak b1) q),fun _ _ q=>q⟩;refine Y.iR [2,9] [11] [1,0,3,4,5,6,7,2,8,9,10,11] mx (by kernel_rfl) ?_;simp(maxDischargeDepth:=12) (maxSteps:=1000000) -implicitDefEqProofs only[go_sem,Nat.reduceAdd,Nat.reduceSub,Nat.reduceMul,Nat.reduceLeDiff,Nat.reduceEqDiff,Nat.reduceGT,Nat.reduceBEq,reduceCtorEq,↓reduceIte,Int.reduceToNat,Int.reduceLE,Int.reduceLT,Int.reduceNe,Int.reduceEq,n1,hwk,hw1,hw2];refine an (KP w0 (hI.has hH) (hw.has hH) hN hn hM.la (by omega) (fun h1 h2=>hM.sp _ _ _ h2) (fun k=>!yy k o.key) 127 b1.n (by kernel_rfl) (fun k T hT=>P5 w0 (hT.box _ _ (by simp(maxDischargeDepth:=12) (maxSteps:=1000000) -implicitDefEqProofs only[go_sem,Nat.reduceAdd,Nat.reduceSub,Nat.reduceMul,Nat.reduceLeDiff,Nat.reduceEqDiff,Nat.reduceGT,Nat.reduceBEq,reduceCtorEq,↓reduceIte,Int.reduceToNat,Int.reduceLE,Int.reduceLT,Int.reduceNe,Int.reduceEq,n1])) (hT.box _ _ (hH.box _ _ hwk)) k) (fun h=>((hq 39 (by unfold gy;rw[if_pos h])).er hI).to hH) (fun h1 h2=>((hq 32 (by unfold gy;rw[if_neg h1,if_pos h2])).er hI).to hH)) ?_;rintro _ _ ⟨hns,hso,lo,rfl,rfl⟩;have hs:o.snap≠0→∃Fs,μ.sn o.level o.aC o.snap=some Fs∧Fs.length=μ.l.length:=fun h=>hM.sp _ _ _ (Xp.1 fun q=>hns ⟨h,q⟩);have hb:=nK w0 hI hM hN hw hs (fun k=>!yy k o.key);have hrl:=iB c μ o (fun k=>!yy k o.key) μ.l.length;have hsrt:=te (c:=c) (μ:=μ) (o:=o) (fun k=>!yy k o.key);simp(maxDischargeDepth:=12) (maxSteps:=1000000) -implicitDefEqProofs only[go_sem,Nat.reduceAdd,Nat.reduceSub,Nat.reduceMul,Nat.reduceLeDiff,Nat.reduceEqDiff,Nat.reduceGT,Nat.reduceBEq,reduceCtorEq,↓reduceIte,Int.reduceToNat,Int.reduceLE,Int.reduceLT,Int.reduceNe,Int.reduceEq,n1,hwk,hw1,hw2];refine Y.lg (fun T hT=>Q2 _ o.n T) ?_;simp(maxDischargeDepth:=12) (maxSteps:=1000000) -implicitDefEqProofs only[go_sem,Nat.reduceAdd,Nat.reduceSub,Nat.reduceMul,Nat.reduceLeDiff,Nat.reduceEqDiff,Nat.reduceGT,Nat.reduceBEq,reduceCtorEq,↓reduceIte,Int.reduceToNat,Int.reduceLE,Int.reduceLT,Int.reduceNe,Int.reduceEq,n1,hwk,hw1,hw2];refine .inr (ao (Jh w0 (bg c μ o (fun k=>!yy k o.key) μ.l.length) (ry o.n) (by omega) (by omega) hsrt _) ?_);simp(maxDischargeDepth:=12) (maxSteps:=1000000) -implicitDefEqProofs only[go_sem,Nat.reduceAdd,Nat.reduceSub,Nat.reduceMul,Nat.reduceLeDiff,Nat.reduceEqDiff,Nat.reduceGT,Nat.reduceBEq,reduceCtorEq,↓reduceIte,Int.reduceToNat,Int.reduceLE,Int.reduceLT,Int.reduceNe,Int.reduceEq,n1,hwk,hw1,hw2];exact⟨_,_,.refl _,.aP (.aP (.pC (.refl _))),_,μ,g,by unfold gy;rw[if_neg hns,if_neg (by rw[hso];simp)],Ai _,hI.le (XA N),.refl _ _⟩
end
end Go.Proofs.YtoepfmhnapedoaaGreatDoor
namespace Go.Proofs.YtoepfmhnapedoaaGreatDoor
open Aml Go Rn Lat Grs
section
variable {w0:W0} {S:St} {g:MG} {N:Nat} {c:Cf} {μ:bq} {w own:Nat} {o:bp} {full:Bool}
theorem Oj(hI:MI S g N c μ)(hw:lY S g w own o full)(hq:∀e,eD c μ o= .inl e→wG w0 S g N c μ e):aa Tryz.prog w0 81 [bz w] S (kG S g (N+1) c (eD c μ o)):=by
 refine(Md w0 hw.k hI.md hI.up fun h=>(hq 31 (by unfold eD;exact if_pos h)).er hI).mono ?_;rintro _ _ ⟨h,rfl,rfl⟩;exact⟨kU 0,μ,g,by unfold eD;exact if_neg (by rw[h];simp),ie,hI.le (XA N),.refl _ _⟩
theorem xV{up:List Nat}{x y:Int}(h:cR up x y=true):0≤x∧x.toNat<up.length:=by
 unfold cR cS at h;simp only[W8,decide_eq_true_eq]at h;exact⟨h.1.1,h.2.1.1.2⟩
theorem zY(R:List C0):Wk (.agg [dI 0,dI 0,.sl 0 true [],dI 0,dI 0,dI 0,dI 0,.sl 6 false (R.map sx)]) (HC ⟨0,0,[],R⟩):= .agg ⟨.refl _,.refl _,.nil _ _ _,.refl _,.refl _,.refl _,.refl _,.refl _,trivial⟩
theorem NN(hI:MI S g N c μ)(hM:iN N c μ)(hN:N≤10000)(hw:lY S g w own o full)(hq:∀e,dn c μ o= .inl e→wG w0 S g N c μ e):aa Tryz.prog w0 82 [bz w] S (kG S g (N+1) c (dn c μ o)):=by
 have hwk:=hw.k;have hmd:=hI.md;refine mv [] mx Tryz.func82 rfl rfl (by kernel_rfl) ?_;simp(maxDischargeDepth:=12) (maxSteps:=1000000) -implicitDefEqProofs only[Tryz.ntmps82,go_sem,Nat.reduceAdd,Nat.reduceSub,Nat.reduceMul,Nat.reduceLeDiff,Nat.reduceEqDiff,Nat.reduceGT,Nat.reduceBEq,reduceCtorEq,↓reduceIte,Int.reduceToNat,Int.reduceLE,Int.reduceLT,Int.reduceNe,Int.reduceEq];intro b2;have hw2:(b2.n=w)=False:=eq_false fun e=>by have:=ak b2;rw[e,hwk]at this;cases this
 have hm2:(b2.n=g.m)=False:=eq_false fun e=>by have:=ak b2;rw[e,hmd]at this;cases this
 have hH:Has S ⟨(b2.n,[dI 0,dI 0,.sl 0 true [],dI 0,dI 0,dI 0,dI 0,.sl 0 true []])::S.box,S.acc⟩:=⟨fun b x q=>ai (ak b2) q,fun _ _ q=>q⟩;simp(maxDischargeDepth:=12) (maxSteps:=1000000) -implicitDefEqProofs only[go_sem,Nat.reduceAdd,Nat.reduceSub,Nat.reduceMul,Nat.reduceLeDiff,Nat.reduceEqDiff,Nat.reduceGT,Nat.reduceBEq,reduceCtorEq,↓reduceIte,Int.reduceToNat,Int.reduceLE,Int.reduceLT,Int.reduceNe,Int.reduceEq,hwk,hw2];refine ao (nw w0 (hH.box _ _ hwk) (hH.box _ _ hmd) hI.up o.label) ?_
 cases hle:cR c.up o.label o.level with
 |false=>
  simp(maxDischargeDepth:=12) (maxSteps:=1000000) -implicitDefEqProofs only[go_sem,Nat.reduceAdd,Nat.reduceSub,Nat.reduceMul,Nat.reduceLeDiff,Nat.reduceEqDiff,Nat.reduceGT,Nat.reduceBEq,reduceCtorEq,↓reduceIte,Int.reduceToNat,Int.reduceLE,Int.reduceLT,Int.reduceNe,Int.reduceEq];refine an (aB w0 false 31 _ fun _=>((hq 31 (by unfold dn;exact if_pos hle)).er hI).to hH) ?_;rintro _ _ ⟨q,_⟩;cases q
 |true=>
  obtain⟨hp,hlt⟩:=xV hle;have hlen:=hI.len;have hnl:=hM.nl;have hbx:g.ls[o.label.toNat]? =some (g.ls[o.label.toNat]'(by omega)):=W5 _;generalize g.ls[o.label.toNat]'(by omega)=bx at hbx;obtain⟨l,hl,b,ids,r,dr,h1,h2,h3,h4,h5,h6⟩:=hI.ri hbx;have el:=bh hl hp;have hx2:(b2.n=bx)=False:=eq_false fun e=>by have:=ak b2;rw[e,h1]at this;cases this
  have hau:=hM.au l (W7 hl);simp(maxDischargeDepth:=12) (maxSteps:=1000000) -implicitDefEqProofs only[go_sem,Nat.reduceAdd,Nat.reduceSub,Nat.reduceMul,Nat.reduceLeDiff,Nat.reduceEqDiff,Nat.reduceGT,Nat.reduceBEq,reduceCtorEq,↓reduceIte,Int.reduceToNat,Int.reduceLE,Int.reduceLT,Int.reduceNe,Int.reduceEq];refine an (aB w0 true 31 _ fun h=>by cases h) ?_;rintro _ _ ⟨_,rfl,rfl⟩
  have key:∀z y:Int,(z=if(l.au.length:Int)<(if o.n<0 then 0 else o.n)then(l.au.length:Int)else(if o.n<0 then 0 else o.n))→(y=if 50<((l.au.length-z.toNat:Nat):Int)then 50 else((l.au.length-z.toNat:Nat):Int))→0≤z∧z≤(l.au.length:Int)∧0≤y∧y≤((l.au.length-z.toNat:Nat):Int)∧(l.au.drop z.toNat).take y.toNat=(l.au.drop o.n.toNat).take 50∧((l.au.drop o.n.toNat).take 50).length≤1048576:=by
   intro z y hz hy;have hz':z.toNat=min o.n.toNat l.au.length:=by rw[hz];split <;>split at* <;>omega
   have hzb:0≤z∧z≤(l.au.length:Int):=by rw[hz];constructor <;>split <;>split at* <;>omega
   have hy':y.toNat=min 50 (l.au.length-z.toNat):=by rw[hy];split <;>omega
   have hyb:0≤y∧y≤((l.au.length-z.toNat:Nat):Int):=by rw[hy];constructor <;>split <;>omega
   refine⟨hzb.1,hzb.2,hyb.1,hyb.2,?_,by rw[XT];omega⟩
   have e1:l.au.drop z.toNat=l.au.drop o.n.toNat:=by
    rw[hz'];by_cases q:o.n.toNat≤l.au.length
    ·rw[YW q]
    ·rw[Nat.min_eq_right (by omega),List.drop_of_length_le (Xa _),List.drop_of_length_le (by omega)]
   have e2:(l.au.drop o.n.toNat).length=l.au.length-z.toNat:=by rw[←e1,XY]
   rw[e1,hy',←e2,←List.take_take,List.take_length]
  have hg:dn c μ o= .inr (⟨0,0,[],(l.au.drop o.n.toNat).take 50⟩,μ):=by unfold dn;rw[if_neg (by rw[hle];simp),el]
  rcases h4 with h4|h4
  ·have e6:μ.l.set o.label.toNat l=μ.l:=by
    refine X4 fun i=>?_;by_cases q:o.label.toNat=i
    ·subst q;rw[X7 (W6.1 hl).1,hl]
    ·rw[X8 q]
   have hne:∀i,g.own i≠ .au o.label.toNat→¬r=i:=fun i q e=>q (by rw[←e];exact h5);have hk:∀i v,g.own i≠ .au o.label.toNat→lk S.acc i=some v→lk (up S.acc r (Ob.tl 6 (l.au.map sx))) i=some v:=fun i v q1 q2=>by rw[ab (hne i q1)];exact q2
   have k1:=hI.BA (S':=⟨S.box,up S.acc r (Ob.tl 6 (l.au.map sx))⟩) (XA N) hbx g.own l (fun i v _ q=>q) (fun _ _ _=>rfl) (fun i v q1 q2 q=>hk i v (fun e=>q2 (by rw[e];exact rfl)) q) ⟨b,ids,r,dr,h1,(iO h2 h3 fun i v e q=>hk i v (by rw[e];simp) q).le (XA N),h3,.inr (cE h4),h5,fun q=>by
    obtain⟨d,idd,q1,q2,q3⟩:=h6 q;exact⟨d,idd,q1,(iO q2 q3 fun i v e q=>hk i v (by rw[e];simp) q).le (XA N),q3⟩⟩ fun i q=>gU (hI.lx i q)
   rw[e6]at k1;have k2:gF S ⟨S.box,up S.acc r (Ob.tl 6 (l.au.map sx))⟩ g g:=⟨rfl,fun i v _ q=>q,fun i v q1 q2=>hk i v (by rw[q1];simp) q2,fun i q=> .inl q,fun i q=> .inl q⟩;simp(maxDischargeDepth:=12) (maxSteps:=1000000) -implicitDefEqProofs only[go_sem,Nat.reduceAdd,Nat.reduceSub,Nat.reduceMul,Nat.reduceLeDiff,Nat.reduceEqDiff,Nat.reduceGT,Nat.reduceBEq,reduceCtorEq,↓reduceIte,Int.reduceToNat,Int.reduceLE,Int.reduceLT,Int.reduceNe,Int.reduceEq,hwk,hw2,hmd,hm2,hbx,h1,hx2,h4];generalize hz:(if(l.au.length:Int)<(if o.n<0 then 0 else o.n)then(l.au.length:Int)else(if o.n<0 then 0 else o.n))=z;generalize hy:(if 50<((l.au.length-z.toNat:Nat):Int)then(50:Int)else((l.au.length-z.toNat:Nat):Int))=y;obtain⟨z1,z2,z3,z4,z5,z6⟩:=key z y hz.symm hy.symm;rw[z5];refine⟨hp,by omega,z1,z2,z3,z4,ao (zZ w0 _ _ z6) ?_⟩;simp(maxDischargeDepth:=12) (maxSteps:=1000000) -implicitDefEqProofs only[go_sem,Nat.reduceAdd,Nat.reduceSub,Nat.reduceMul,Nat.reduceLeDiff,Nat.reduceEqDiff,Nat.reduceGT,Nat.reduceBEq,reduceCtorEq,↓reduceIte,Int.reduceToNat,Int.reduceLE,Int.reduceLT,Int.reduceNe,Int.reduceEq];exact⟨_,_,.refl _,.aP (.refl _),_,μ,g,hg,zY _,k1,k2⟩
  ·simp(maxDischargeDepth:=12) (maxSteps:=1000000) -implicitDefEqProofs only[go_sem,Nat.reduceAdd,Nat.reduceSub,Nat.reduceMul,Nat.reduceLeDiff,Nat.reduceEqDiff,Nat.reduceGT,Nat.reduceBEq,reduceCtorEq,↓reduceIte,Int.reduceToNat,Int.reduceLE,Int.reduceLT,Int.reduceNe,Int.reduceEq,hwk,hw2,hmd,hm2,hbx,h1,hx2,h4];generalize hz:(if(l.au.length:Int)<(if o.n<0 then 0 else o.n)then(l.au.length:Int)else(if o.n<0 then 0 else o.n))=z;generalize hy:(if 50<((l.au.length-z.toNat:Nat):Int)then(50:Int)else((l.au.length-z.toNat:Nat):Int))=y;obtain⟨z1,z2,z3,z4,z5,z6⟩:=key z y hz.symm hy.symm;rw[z5];refine⟨hp,by omega,z1,z2,z3,z4,ao (zZ w0 _ _ z6) ?_⟩;simp(maxDischargeDepth:=12) (maxSteps:=1000000) -implicitDefEqProofs only[go_sem,Nat.reduceAdd,Nat.reduceSub,Nat.reduceMul,Nat.reduceLeDiff,Nat.reduceEqDiff,Nat.reduceGT,Nat.reduceBEq,reduceCtorEq,↓reduceIte,Int.reduceToNat,Int.reduceLE,Int.reduceLT,Int.reduceNe,Int.reduceEq];exact⟨_,_,.refl _,.aP (.refl _),_,μ,g,hg,zY _,hI.le (XA N),.refl _ _⟩
end
end Go.Proofs.YtoepfmhnapedoaaGreatDoor
namespace Go.Proofs.YtoepfmhnapedoaaGreatDoor
open Aml Go Rn Lat Grs
section
variable {w0:W0} {S:St} {g:MG} {N:Nat} {c:Cf} {μ:bq} {w own:Nat} {o:bp} {full:Bool}
theorem Ff{r:List RH}{lv n x:Int}(h:(oy r lv n x).2=false):(oy r lv n x).1=r:=by
 unfold oy at h ⊢;split <;>rename_i q
 ·simp only[q]at h ⊢;split <;>rename_i q2
  ·rfl
  ·rw[if_neg q2]at h;cases h
 ·rfl
theorem MI.RO{S S':St}{g:MG}{N M:Nat}{c:Cf}{μ:bq}(h:MI S g N c μ)(hNM:N≤M)(own':Nat→Ow)(sn':Int→Int→Int→Option (List ir))(hb:∀i v,i∈g.bx→lk S.box i=some v→lk S'.box i=some v)
 (ho:∀i,g.own i≠ .no→own' i=g.own i) (ha:∀i v,g.own i≠ .no→g.own i≠ .sm→lk S.acc i=some v→lk S'.acc i=some v) (hs:Rw S' own' M g.sn sn') (hlv:∀i,own' i≠ .no→lk S'.acc i≠none):MI S' ⟨g.m,g.ls,g.θ,g.sn,own'⟩ M c ⟨μ.l,μ.r,sn'⟩ where
 md:=hb _ _ (by simp[MG.bx]) h.md
 up:=h.up
 len:=h.len
 nd:=h.nd
 yE:=h.yE
 lb:=fun x bx l h1 h2=>sH (h.lb x bx l h1 h2) hNM (fun v q=>hb bx v (by have:=W7 h1;simp[MG.bx,this]) q) (fun i q=>ho i fun e=>by rw[e]at q;exact q) fun i v q=>ha i v (fun e=>by rw[e]at q;exact q) fun e=>by rw[e]at q;exact q
 tb:=h.tb.mono (fun i v q=>hb i v (by simp[MG.bx,q])) fun i v q=>ha i v (by rw[h.uf i q];simp) (by rw[h.uf i q];simp)
 uf:=fun i q=>(ho i (by rw[h.uf i q];simp)).trans (h.uf i q)
 Bv:=hs
 lS:=(ho _ (by rw[h.lS];simp)).trans h.lS
 lx:=hlv
theorem Iu(hI:MI S g N c μ)(hw:lY S g w own o full)(hq:∀e,cN μ o= .inl e→wG w0 S g N c μ e):aa Tryz.prog w0 80 [bz w] S (kG S g (N+1) c (cN μ o)):=by
 have hwk:=hw.k;have hmd:=hI.md;refine mv [1,2] mx Tryz.func80 rfl rfl (by kernel_rfl) ?_;simp(maxDischargeDepth:=12) (maxSteps:=1000000) -implicitDefEqProofs only[Tryz.ntmps80,go_sem,Nat.reduceAdd,Nat.reduceSub,Nat.reduceMul,Nat.reduceLeDiff,Nat.reduceEqDiff,Nat.reduceGT,Nat.reduceBEq,reduceCtorEq,↓reduceIte,Int.reduceToNat,Int.reduceLE,Int.reduceLT,Int.reduceNe,Int.reduceEq];intro b2;have hw2:(b2.n=w)=False:=eq_false fun e=>by have:=ak b2;rw[e,hwk]at this;cases this
 have hm2:(b2.n=g.m)=False:=eq_false fun e=>by have:=ak b2;rw[e,hmd]at this;cases this
 have hH:Has S ⟨(b2.n,[dI 0,dI 0,.sl 0 true [],dI 0,dI 0,dI 0,dI 0,.sl 0 true []])::S.box,S.acc⟩:=⟨fun b x q=>ai (ak b2) q,fun _ _ q=>q⟩;refine Y.iR [] [14,15] [0,1,2,7,9,10,11,12,3,4,5,6,8,13,14,15] mx (by kernel_rfl) ?_;simp(maxDischargeDepth:=12) (maxSteps:=1000000) -implicitDefEqProofs only[go_sem,Nat.reduceAdd,Nat.reduceSub,Nat.reduceMul,Nat.reduceLeDiff,Nat.reduceEqDiff,Nat.reduceGT,Nat.reduceBEq,reduceCtorEq,↓reduceIte,Int.reduceToNat,Int.reduceLE,Int.reduceLT,Int.reduceNe,Int.reduceEq,hwk,hw2,hmd,hm2];refine Y.lg (fun T hT=>dR _ (hT.box _ _ (hH.box _ _ hwk))) ?_;simp(maxDischargeDepth:=12) (maxSteps:=1000000) -implicitDefEqProofs only[go_sem,Nat.reduceAdd,Nat.reduceSub,Nat.reduceMul,Nat.reduceLeDiff,Nat.reduceEqDiff,Nat.reduceGT,Nat.reduceBEq,reduceCtorEq,↓reduceIte,Int.reduceToNat,Int.reduceLE,Int.reduceLT,Int.reduceNe,Int.reduceEq,hwk,hw2,hmd,hm2];have hIb:=hI.has hH;refine an (II w0 hIb.tb o.level o.aC o.snap) ?_;rintro _ T ⟨rfl,hT,hF⟩;obtain⟨own',k1,k2,k3,k4⟩:=hIb.ON (XA N) hT hF;have wθ:w∉g.θ.bx:=fun q=>hw.f (by unfold MG.bx;exact Ys _ q);have mθ:g.m∉g.θ.bx:=fun q=>hI.yE _ q (Xf ..);have bθ:b2.n∉g.θ.bx:=fun q=>hI.tb.lL _ q (ak b2);have t1:lk T.box w=some (qS g.m own o full):=hF.box _ _ wθ (hH.box _ _ hwk);have t2:lk T.box g.m=some (Dm c g.ls g.θ.t g.sn):=hF.box _ _ mθ (hH.box _ _ hmd);have t3:lk T.box b2.n=some [dI 0,dI 0,.sl 0 true [],dI 0,dI 0,dI 0,dI 0,.sl 0 true []]:=hF.box _ _ bθ (by simp[lk]);have hfr:gF S T g ⟨g.m,g.ls,g.θ,g.sn,own'⟩:=(gF.has hH).trans k2
 cases hun:(oy μ.r o.level o.aC o.snap).2 with
 |false=>
  have e1:=Ff hun;rw[e1]at k1;simp(maxDischargeDepth:=12) (maxSteps:=1000000) -implicitDefEqProofs only[go_sem,Nat.reduceAdd,Nat.reduceSub,Nat.reduceMul,Nat.reduceLeDiff,Nat.reduceEqDiff,Nat.reduceGT,Nat.reduceBEq,reduceCtorEq,↓reduceIte,Int.reduceToNat,Int.reduceLE,Int.reduceLT,Int.reduceNe,Int.reduceEq];refine an (aB w0 false 39 _ fun _ U hU=>?_) ?_
  ·exact hq 39 (by unfold cN;exact if_pos hun) U _ (k1.has hU) (hfr.trans (.has hU))
  rintro _ _ ⟨q,_⟩;cases q
 |true=>
  simp(maxDischargeDepth:=12) (maxSteps:=1000000) -implicitDefEqProofs only[go_sem,Nat.reduceAdd,Nat.reduceSub,Nat.reduceMul,Nat.reduceLeDiff,Nat.reduceEqDiff,Nat.reduceGT,Nat.reduceBEq,reduceCtorEq,↓reduceIte,Int.reduceToNat,Int.reduceLE,Int.reduceLT,Int.reduceNe,Int.reduceEq];refine an (aB w0 true 39 _ fun h=>by cases h) ?_;rintro _ U ⟨_,rfl,hU⟩;obtain rfl:=hU.symm;simp(maxDischargeDepth:=12) (maxSteps:=1000000) -implicitDefEqProofs only[go_sem,Nat.reduceAdd,Nat.reduceSub,Nat.reduceMul,Nat.reduceLeDiff,Nat.reduceEqDiff,Nat.reduceGT,Nat.reduceBEq,reduceCtorEq,↓reduceIte,Int.reduceToNat,Int.reduceLE,Int.reduceLT,Int.reduceNe,Int.reduceEq];refine Y.iR [] [15] [0,1,2,7,9,10,11,12,3,4,5,6,8,13,14,15] mx (by kernel_rfl) ?_;simp(maxDischargeDepth:=12) (maxSteps:=1000000) -implicitDefEqProofs only[go_sem,Nat.reduceAdd,Nat.reduceSub,Nat.reduceMul,Nat.reduceLeDiff,Nat.reduceEqDiff,Nat.reduceGT,Nat.reduceBEq,reduceCtorEq,↓reduceIte,Int.reduceToNat,Int.reduceLE,Int.reduceLT,Int.reduceNe,Int.reduceEq,t1,t2,t3];refine Y.lg (fun U hU=>dR _ (hU.box _ _ t1)) ?_;obtain⟨es,cl,s1,s2⟩:=k1.Bv;simp only at s1;simp(maxDischargeDepth:=12) (maxSteps:=1000000) -implicitDefEqProofs only[go_sem,Nat.reduceAdd,Nat.reduceSub,Nat.reduceMul,Nat.reduceLeDiff,Nat.reduceEqDiff,Nat.reduceGT,Nat.reduceBEq,reduceCtorEq,↓reduceIte,Int.reduceToNat,Int.reduceLE,Int.reduceLT,Int.reduceNe,Int.reduceEq,t1,t2,t3,s1];have hb2:b2.n∉g.bx:=fun q=>hI.lL q (ak b2);refine⟨_,_,.refl _,.refl _,kU 0,_,_,by unfold cN;rw[if_neg (by rw[hun];simp)],ie,k1.RO (Xa _) own' _ ?_ (fun _ _=>rfl) ?_ ?_ ?_,rfl,?_,?_,hfr.nb,hfr.na⟩
  ·intro i v q1 q2;show lk (up _ _ _) i=_;rw[ab (fun e=>hb2 (by rw[e];exact q1))];exact q2
  ·intro i v q1 q2 q3;show lk (up _ _ _) i=_;rw[ab (fun e=>q2 (by rw[←e];exact k1.lS))];exact q3
  ·refine⟨_,cl,cE s1,fun lv n k=>?_⟩;unfold n9;by_cases e:lv=o.level∧n=o.aC∧k=o.snap
   ·rw[if_pos e,e.1,e.2.1,e.2.2];exact⟨fun _=>dh _ _,fun Fs h=>by cases h⟩
   ·rw[if_neg e];have hne:Hz lv n k≠Hz o.level o.aC o.snap:=fun q=>e (Aa q);refine⟨fun h=>(dw _ hne).trans ((s2 lv n k).1 h),fun Fs h=>?_⟩;obtain⟨bs,q1,q2⟩:=(s2 lv n k).2 Fs h;refine⟨bs,(dw _ hne).trans q1,xM q2 (Xa _) (fun _ e=>e) fun i v e q=>?_⟩;show lk (up _ _ _) i=_;rw[ab (fun r=>by rw[←r]at e;have:=k1.lS.symm.trans e;cases this)];exact q
  ·intro i q;exact gU (k1.lx i q)
  ·intro i v q1 q2;show lk (up _ _ _) i=_;rw[ab (fun e=>by rw[←e,ak b2]at q2;cases q2)];exact hfr.box i v q1 q2
  ·intro i v q1 q2;show lk (up _ _ _) i=_;rw[ab (fun e=>by rw[←e,hI.lS]at q1;cases q1)];exact hfr.acc i v q1 q2
structure UL(T0:St)(N:Nat)(Fs:List ir)(lo:Nat)(i:Nat)(A:List (Nat×Ob))(bs:List Nat):Prop where
 old:∀j x,lk T0.acc j=some x→lk A j=some x
 row:lk A lo=some (.arr 1 (bs.map DV.mp))
 len:bs.length=i
 el:∀(j:Nat) b F,bs[j]? =some b→Fs[j]? =some F→∃ids,BM ⟨T0.box,A⟩ b N ids F∧(lk T0.acc b=none∧b≠lo)∧∀n k,ids n=some k→lk T0.acc k=none∧k≠lo
theorem QR(hI:MI S g N c μ)(hM:iN N c μ)(hN:N≤10000)(hw:lY S g w own o full):aa Tryz.prog w0 79 [bz w] S (kG S g (N+1) c (jk μ o)):=by
 have hwk:=hw.k;have hmd:=hI.md;have hnl:=hM.n;refine mv [1,8] mx Tryz.func79 rfl rfl (by kernel_rfl) ?_;simp(maxDischargeDepth:=12) (maxSteps:=1000000) -implicitDefEqProofs only[Tryz.ntmps79,go_sem,Nat.reduceAdd,Nat.reduceSub,Nat.reduceMul,Nat.reduceLeDiff,Nat.reduceEqDiff,Nat.reduceGT,Nat.reduceBEq,reduceCtorEq,↓reduceIte,Int.reduceToNat,Int.reduceLE,Int.reduceLT,Int.reduceNe,Int.reduceEq];intro b2;have hw2:(b2.n=w)=False:=eq_false fun e=>by have:=ak b2;rw[e,hwk]at this;cases this
 have hm2:(b2.n=g.m)=False:=eq_false fun e=>by have:=ak b2;rw[e,hmd]at this;cases this
 have hH:Has S ⟨(b2.n,[dI 0,dI 0,.sl 0 true [],dI 0,dI 0,dI 0,dI 0,.sl 0 true []])::S.box,S.acc⟩:=⟨fun b x q=>ai (ak b2) q,fun _ _ q=>q⟩;refine Y.iR [] [9] [0,1,2,7,3,4,5,6,8,9,10] mx (by kernel_rfl) ?_;simp(maxDischargeDepth:=12) (maxSteps:=1000000) -implicitDefEqProofs only[go_sem,Nat.reduceAdd,Nat.reduceSub,Nat.reduceMul,Nat.reduceLeDiff,Nat.reduceEqDiff,Nat.reduceGT,Nat.reduceBEq,reduceCtorEq,↓reduceIte,Int.reduceToNat,Int.reduceLE,Int.reduceLT,Int.reduceNe,Int.reduceEq,hwk,hw2,hmd,hm2];refine Y.lg (fun T hT=>dR _ (hT.box _ _ (hH.box _ _ hwk))) ?_;simp(maxDischargeDepth:=12) (maxSteps:=1000000) -implicitDefEqProofs only[go_sem,Nat.reduceAdd,Nat.reduceSub,Nat.reduceMul,Nat.reduceLeDiff,Nat.reduceEqDiff,Nat.reduceGT,Nat.reduceBEq,reduceCtorEq,↓reduceIte,Int.reduceToNat,Int.reduceLE,Int.reduceLT,Int.reduceNe,Int.reduceEq,hwk,hw2,hmd,hm2];have hIb:=hI.has hH;refine an (O5 w0 hIb.tb hM.la (by omega) o.level o.aC) ?_;rintro _ T ⟨rfl,hT,hF⟩;obtain⟨own',k1,k2,k3,k4⟩:=hIb.ON (XA N) hT hF;have wθ:w∉g.θ.bx:=fun q=>hw.f (by unfold MG.bx;exact Ys _ q);have mθ:g.m∉g.θ.bx:=fun q=>hI.yE _ q (Xf ..);have bθ:b2.n∉g.θ.bx:=fun q=>hI.tb.lL _ q (ak b2);have t1:lk T.box w=some (qS g.m own o full):=hF.box _ _ wθ (hH.box _ _ hwk);have t2:lk T.box g.m=some (Dm c g.ls g.θ.t g.sn):=hF.box _ _ mθ (hH.box _ _ hmd);have t3:lk T.box b2.n=some [dI 0,dI 0,.sl 0 true [],dI 0,dI 0,dI 0,dI 0,.sl 0 true []]:=hF.box _ _ bθ (by simp[lk]);have hfr:gF S T g ⟨g.m,g.ls,g.θ,g.sn,own'⟩:=(gF.has hH).trans k2;have hlen:=hI.len;generalize hsn:(qw μ.r o.level o.aC).2=n at*;generalize hsr:(qw μ.r o.level o.aC).1=r' at*;simp(maxDischargeDepth:=12) (maxSteps:=1000000) -implicitDefEqProofs only[go_sem,Nat.reduceAdd,Nat.reduceSub,Nat.reduceMul,Nat.reduceLeDiff,Nat.reduceEqDiff,Nat.reduceGT,Nat.reduceBEq,reduceCtorEq,↓reduceIte,Int.reduceToNat,Int.reduceLE,Int.reduceLT,Int.reduceNe,Int.reduceEq,t1,t2];refine nB 4 1 rfl (by omega) fun lo=>?_;have hlo:=ak lo;have hloA:∀j x,lk T.acc j=some x→j≠lo.n:=fun j x h e=>by rw[e,hlo]at h;cases h
 refine fc [] [0,2,3,4,23,24,25] (σ:=Nat×List (Nat×Ob)×List Nat) (fun s=>[(4,.acc lo.n s.1),(24,dI μ.l.length),(25,dI s.1)]) (fun s=>⟨T.box,s.2.1⟩) (fun s=>s.1≤μ.l.length∧UL T (N+1) (μ.l.map tC.F) lo.n s.1 s.2.1 s.2.2) (fun s=>μ.l.length-s.1) (0,(lo.n,.arr 1 [])::T.acc,[]) mx (by kernel_rfl) ⟨⟨Xl _,?_⟩,?_⟩ ?_
 ·exact⟨fun j x q=>ai hlo q,by simp[lk],rfl,fun j b F q=>by simp at q⟩
 ·simp(maxDischargeDepth:=12) (maxSteps:=1000000) -implicitDefEqProofs only[go_sem,Nat.reduceAdd,Nat.reduceSub,Nat.reduceMul,Nat.reduceLeDiff,Nat.reduceEqDiff,Nat.reduceGT,Nat.reduceBEq,reduceCtorEq,↓reduceIte,Int.reduceToNat,Int.reduceLE,Int.reduceLT,Int.reduceNe,Int.reduceEq,hlen]
 ·rintro⟨i,A,bs⟩ ⟨hi,hL⟩;simp only at hi hL;have hrow:=hL.row;have hbl:=hL.len;by_cases hil:i<μ.l.length
  ·have e1:IntKind.i64.wrap ((i:Int)+1)=((i+1:Nat):Int):=aI (by omega);have hx:g.ls[i]? =some (g.ls[i]'(by omega)):=W5 _;generalize g.ls[i]'(by omega)=bx at hx;obtain⟨l,hl,b,ids,r,dr,h1,h2,h3,h4,h5,h6⟩:=k1.ri hx;simp only at hl;have hB:BM ⟨T.box,A⟩ b N.succ ids l.F:=h2.mono fun j x _ q=>hL.old j x q;simp(maxDischargeDepth:=12) (maxSteps:=1000000) -implicitDefEqProofs only[go_sem,Nat.reduceAdd,Nat.reduceSub,Nat.reduceMul,Nat.reduceLeDiff,Nat.reduceEqDiff,Nat.reduceGT,Nat.reduceBEq,reduceCtorEq,↓reduceIte,Int.reduceToNat,Int.reduceLE,Int.reduceLT,Int.reduceNe,Int.reduceEq,hx,h1,e1];refine⟨fun _=>⟨by omega,?_⟩,fun h=>absurd hil h⟩;refine an (De w0 hB (by omega)) ?_;rintro _ U ⟨l',ids',rfl,hB',hbx,hac,hl0,hid⟩;obtain⟨Ub,Ua⟩:=U;simp only at hbx;subst hbx;have hrow':=hac _ _ hrow;have hm8:maxLen=9223372036854775807:=rfl;simp(maxDischargeDepth:=12) (maxSteps:=1000000) -implicitDefEqProofs only[go_sem,Nat.reduceAdd,Nat.reduceSub,Nat.reduceMul,Nat.reduceLeDiff,Nat.reduceEqDiff,Nat.reduceGT,Nat.reduceBEq,reduceCtorEq,↓reduceIte,Int.reduceToNat,Int.reduceLE,Int.reduceLT,Int.reduceNe,Int.reduceEq,hrow',e1,hm8];have hloa:∀j x,lk A j=some x→j≠lo.n∨j=lo.n:=fun j _ _=>(Zl _).symm;have hnlo:∀j,lk A j=none→j≠lo.n:=fun j q e=>by rw[e,hrow]at q;cases q
   have hnT:∀j,lk A j=none→lk T.acc j=none:=fun j q=>by
    cases hx:lk T.acc j with
    |none=>rfl
    |some x=>rw[hL.old j x hx]at q;cases q
   refine⟨hbl,by omega,by omega,(i+1,up Ua lo.n (.arr 1 ((bs++[l']).map DV.mp)),bs++[l']),⟨by simp only;omega,⟨fun j x q=>?_,cE hrow',by simp[hbl],fun j b F q1 q2=>?_⟩⟩,by simp only;omega,⟨by rw[hbl];exact .refl _,rfl⟩,?_⟩
   ·rw[ab (Yd (hloA j x q))];exact hac j x (hL.old j x q)
   ·rcases XH j bs.length with q3|q3
    ·rw[Xx q3]at q1;obtain⟨idj,z1,z2,z3⟩:=hL.el j b F q1 q2;refine⟨idj,z1.mono fun c x hc hx=>?_,z2,z3⟩;have:c≠lo.n:=hc.elim (fun e=>by rw[e];exact z2.2) fun⟨n,hn⟩=>(z3 n c hn).2;show lk (up _ _ _) c=_;rw[ab (Yd this)];exact hac c x hx
    ·rw[Xv q3]at q1
     have hj:j-bs.length=0:=by
      cases hj:j-bs.length with
      |zero=>rfl
      |succ k=>rw[hj]at q1;simp at q1
     rw[hj]at q1;cases q1;have hji:j=i:=by omega
     rw[hji,Xd,hl]at q2;cases q2;have z1:∀c,(c=l'∨∃n,ids' n=some c)→lk A c=none:=fun c hc=>hc.elim (fun e=>by rw[e];exact hl0) fun⟨n,hn⟩=>hid n c hn;refine⟨ids',hB'.mono fun c x hc hx=>?_,⟨hnT _ hl0,hnlo _ hl0⟩,fun n k hk=>⟨hnT _ (hid n k hk),hnlo _ (hid n k hk)⟩⟩;show lk (up _ _ _) c=_;rw[ab (Yd (hnlo c (z1 c hc)))];exact hx
   ·rw[Xw];exact .refl _
  ·have hie:i=μ.l.length:=by omega
   subst hie;simp(maxDischargeDepth:=12) (maxSteps:=1000000) -implicitDefEqProofs only[go_sem,Nat.reduceAdd,Nat.reduceSub,Nat.reduceMul,Nat.reduceLeDiff,Nat.reduceEqDiff,Nat.reduceGT,Nat.reduceBEq,reduceCtorEq,↓reduceIte,Int.reduceToNat,Int.reduceLE,Int.reduceLT,Int.reduceNe,Int.reduceEq,t1,t2];refine⟨fun h=>absurd h hil,fun _=>?_⟩;refine Y.iR [] [12] [0,1,2,7,9,11,3,4,5,6,8,10,12] mx (by kernel_rfl) ?_;simp(maxDischargeDepth:=12) (maxSteps:=1000000) -implicitDefEqProofs only[go_sem,Nat.reduceAdd,Nat.reduceSub,Nat.reduceMul,Nat.reduceLeDiff,Nat.reduceEqDiff,Nat.reduceGT,Nat.reduceBEq,reduceCtorEq,↓reduceIte,Int.reduceToNat,Int.reduceLE,Int.reduceLT,Int.reduceNe,Int.reduceEq,t1,t2,t3,hrow];refine Y.lg (fun U hU=>dR _ (hU.box _ _ t1)) ?_;obtain⟨es,cl,s1,s2⟩:=k1.Bv;simp only at s1;have s1':=hL.old _ _ s1;have hls:(lo.n=g.sn)=False:=eq_false fun e=>hloA _ _ s1 e.symm;have hls':(g.sn=lo.n)=False:=eq_false fun e=>hloA _ _ s1 e;simp(maxDischargeDepth:=12) (maxSteps:=1000000) -implicitDefEqProofs only[go_sem,Nat.reduceAdd,Nat.reduceSub,Nat.reduceMul,Nat.reduceLeDiff,Nat.reduceEqDiff,Nat.reduceGT,Nat.reduceBEq,reduceCtorEq,↓reduceIte,Int.reduceToNat,Int.reduceLE,Int.reduceLT,Int.reduceNe,Int.reduceEq,t1,t2,t3,hrow,s1',hls,hls'];have hb2:b2.n∉g.bx:=fun q=>hI.lL q (ak b2)
   have hE:∃own2:Nat→Ow,(∀i,lk T.acc i=none→i≠lo.n→lk A i≠none→own2 i= .sp)∧(∀i,own' i≠ .no→own2 i=own' i)∧∀i,own2 i≠ .no→own' i≠ .no∨(lk T.acc i=none∧lk A i≠none):=by
    classical
    refine⟨fun i=>if lk T.acc i=none∧i≠lo.n∧lk A i≠none then .sp else own' i,fun i q1 q2 q3=>if_pos ⟨q1,q2,q3⟩,fun i q=>if_neg fun r=>k1.lx i q r.1,fun i q=>?_⟩;simp only at q;split at q
    ·rename_i q2;exact .inr ⟨q2.1,q2.2.2⟩
    ·exact .inl q
   obtain⟨own2,o1,o2,o3⟩:=hE;have hup:∀X Y:Ob,∀i v,i≠lo.n→i≠g.sn→lk A i=some v→lk (up (up A lo.n X) g.sn Y) i=some v:=fun X Y i v q1 q2 q3=>by rw[ab (Yd q2),ab (Yd q1)];exact q3
   have hsnT:∀i,lk T.acc i=none→i≠g.sn:=fun i q e=>by rw[e,s1]at q;cases q
   refine⟨hbl,_,_,.refl _,.refl _,C1 n,_,_,by unfold jk;rw[hsn,hsr],.agg ⟨.refl _,.refl _,.nil _ _ _,.refl _,.refl _,.refl _,.refl _,.nil _ _ _,trivial⟩,k1.RO (Xa _) own2 _ ?_ o2 ?_ ?_ ?_,rfl,?_,?_,hfr.nb,?_⟩
   ·intro i v q1 q2;show lk (up _ _ _) i=_;rw[ab (fun e=>hb2 (by rw[e];exact q1))];exact q2
   ·intro i v q1 q2 q3;exact hup _ _ i v (hloA i v q3) (fun e=>q2 (by rw[e];exact k1.lS)) (hL.old i v q3)
   ·refine⟨_,_,cE (by rw[ab (by rw[hls];exact id)];exact s1'),fun lv m k=>?_⟩;unfold n9;by_cases e:lv=o.level∧m=o.aC∧k=n
    ·rw[if_pos e,e.1,e.2.1,e.2.2];refine⟨fun h=>(by cases h),fun Fs h=>?_⟩;cases h;refine⟨bs,aY _ _ _ _,by rw[hbl,XJ],fun j b F q1 q2=>?_⟩;obtain⟨idj,z1,z2,z3⟩:=hL.el j b F q1 q2;refine⟨idj,z1.mono fun c x hc hx=>?_,o1 b z2.1 z2.2 z1.lk,fun m' k' hk=>o1 k' (z3 m' k' hk).1 (z3 m' k' hk).2 ?_⟩
     ·have:lk T.acc c=none∧c≠lo.n:=hc.elim (fun e=>by rw[e];exact z2) fun⟨n,hn⟩=>z3 n c hn;exact hup _ _ c x this.2 (hsnT c this.1) hx
     ·obtain⟨f,hf⟩:=ij z1 hk;exact(z1.low m' k' f hk hf).lk
    ·rw[if_neg e];have hne:Hz lv m k≠Hz o.level o.aC n:=fun q=>e (Aa q);refine⟨fun h=>(bX _ _ hne _).trans ((s2 lv m k).1 h),fun Fs h=>?_⟩;obtain⟨bs',q1,q2⟩:=(s2 lv m k).2 Fs h;refine⟨bs',(bX _ _ hne _).trans q1,xM q2 (Xa _) (fun i e=>(o2 i (by intro r;have:=e.symm.trans r;cases this)).trans e) fun i v e q=>?_⟩;exact hup _ _ i v (hloA i v q) (fun r=>by rw[r]at e;have:=k1.lS.symm.trans e;cases this) (hL.old i v q)
   ·intro i q;rcases o3 i q with r|⟨_,r⟩
    ·obtain⟨x,hx⟩:=aZ (k1.lx i r);exact eO (eO (by rw[hL.old i x hx];simp))
    ·exact eO (eO r)
   ·intro i v q1 q2;show lk (up _ _ _) i=_;rw[ab (fun e=>by rw[←e,ak b2]at q2;cases q2)];exact hfr.box i v q1 q2
   ·intro i v q1 q2;have q3:=hfr.acc i v q1 q2;exact hup _ _ i v (hloA i v q3) (fun e=>by rw[e,hI.lS]at q1;cases q1) (hL.old i v q3)
   ·intro i q;rcases o3 i q with r|⟨r,_⟩
    ·exact hfr.na i r
    ·refine(Zl (g.own i≠ .no)).imp id fun q1=>?_
     cases hx:lk S.acc i with
     |none=>rfl
     |some v=>rw[hfr.acc i v (Xp.1 q1) hx]at r;cases r
end
end Go.Proofs.YtoepfmhnapedoaaGreatDoor
namespace Go.Proofs.YtoepfmhnapedoaaGreatDoor
open Aml Go
def UI(a b:ByteArray):Bool:=Op.bytesLess a.data.toList b.data.toList||decide (a.data.toList=b.data.toList)
def Tk(a b:ByteArray):Bool:=Op.bytesLess a.data.toList b.data.toList
def need(z:Int):Nat:=if 16<z∧z≤400 then((z+118)/119).toNat else 0
def Bd(l:List Int):Prop:=l.length≤1048576∧∀x,x∈l→0≤x∧x≤1048576
theorem Ei:∀(l:List Int),(∀x,x∈l→0≤x∧x≤1048576)→0≤l.sum∧l.sum≤1048576*l.length
 |[],_=>by simp
 |a::l,h=>by
  have h1:=Ei l fun x hx=>h x (Xc _ hx);have h2:=h a Xf;simp only[Yx,Xi];omega
theorem Bd.take{l:List Int}(h:Bd l)(k:Nat):Bd (l.take k):=⟨by rw[XT];have:=h.1;omega,fun x hx=>h.2 x (X5 hx)⟩
theorem Bd.drop{l:List Int}(h:Bd l)(k:Nat):Bd (l.drop k):=⟨by rw[XY];have:=h.1;omega,fun x hx=>h.2 x (XN hx)⟩
theorem Bd.sum{l:List Int}(h:Bd l):0≤l.sum∧l.sum≤1099511627776:=by
 have:=Ei l h.2;have:=h.1;omega
def KO(l:List Int)(at_:Nat):Int:=if(l.take at_).sum>(l.drop at_).sum then(l.take at_).sum else(l.drop at_).sum
def S5(l:List Int):Nat→Nat
 |0=>1
 |j+1=>if KO l (j+2)<KO l (S5 l j)then j+2 else S5 l j
def atR(l:List Int):Nat:=if l.sum≤122∨l.length<2 then 0 else S5 l (l.length-2)
mutual
inductive N where
 |mk (My:Int) (leaf:Bool) (l:List C)
inductive C where
 |mk (key data:ByteArray) (uQ:List Int) (rj:List N)
end
def N.My:N→Int| .mk p _ _=>p
def N.leaf:N→Bool| .mk _ b _=>b
def N.l:N→List C| .mk _ _ l=>l
def C.key:C→ByteArray| .mk k _ _ _=>k
def C.data:C→ByteArray| .mk _ d _ _=>d
def C.uQ:C→List Int| .mk _ _ p _=>p
def C.rj:C→List N| .mk _ _ _ k=>k
mutual
def dN:N→DV
 | .mk p b l=> .agg [dI p,dB b,.sl 4 false (TW l)]
def dC:C→DV
 | .mk k d ps rj=> .agg [dS k,dS d,.sl 1 false (ps.map dI),.sl 3 false (T9 rj)]
def TW:List C→List DV
 |[]=>[]
 |c::l=>dC c::TW l
def T9:List N→List DV
 |[]=>[]
 |n::l=>dN n::T9 l
end
mutual
def VG:N→Prop
 | .mk _ b l=>(b=false→l≠[])∧P7 l b
def qp:C→Bool→Prop
 | .mk _ _ _ rj,b=>b=false→rj.length=1∧Pr rj
def P7:List C→Bool→Prop
 |[],_=>True
 |c::l,b=>qp c b∧P7 l b
def Pr:List N→Prop
 |[]=>True
 |n::l=>VG n∧Pr l
end
mutual
def Tm:N→Nat
 | .mk _ _ l=>Lo l
def SD:C→Nat
 | .mk _ _ _ rj=>1+KN rj
def Lo:List C→Nat
 |[]=>0
 |c::l=>SD c+Lo l
def KN:List N→Nat
 |[]=>0
 |n::l=>Tm n+KN l
end
mutual
def Tn:N→Nat
 | .mk _ b l=>if b then 0 else 1+KI l
def SA:C→Nat
 | .mk _ _ _ rj=>KE rj
def KI:List C→Nat
 |[]=>0
 |c::l=>max (SA c) (KI l)
def KE:List N→Nat
 |[]=>0
 |n::l=>max (Tn n) (KE l)
end
mutual
def Uu:N→Prop
 | .mk _ _ l=>PJ l
def UZ:C→Prop
 | .mk k d ps rj=>k.size≤16∧d.size≤400∧ps.length≤4∧Qi rj
def PJ:List C→Prop
 |[]=>True
 |c::l=>UZ c∧PJ l
def Qi:List N→Prop
 |[]=>True
 |n::l=>Uu n∧Qi l
end
def KG(b:Bool)(c:C):Int:=if b then(if(need c.data.size:Int)>0∨(c.data.size:Int)>400 then 7+c.key.size else 3+c.key.size+c.data.size)else 4+c.key.size
def sR(n:N):List Int:=n.l.map (KG n.leaf)
def LJ(l:List C)(key:ByteArray):Nat→Nat
 |0=>0
 |i+1=>match l[i+1]? with
  |some c=>if UI c.key key then i+1 else LJ l key i
  |none=>LJ l key i
def VU(l:List C)(key:ByteArray):Nat:=LJ l key (l.length-1)
def P4:ByteArray:=ByteArray.empty
def keyOf:List C→ByteArray
 |[]=>P4
 |c::_=>c.key
structure Vx(n:N):Prop where
 len:n.l.length≤524288
 rj:∀c,c∈n.l→∃k,c.rj=[k]∧Uu k∧k.l.length≤524288
 key:∀c,c∈n.l→c.key.size≤16
theorem half{m:Int}(hm:0≤m):∀(l:List Int),(∀x,x∈l→0≤x∧x≤m)→∀u:Int,0≤u→u≤2*l.sum→∃p,p≤l.length∧2*(l.take p).sum≤u+m∧u≤2*(l.take p).sum+m:=by
 intro l
 induction l with
 |nil=>intro _ u h0 h1;exact⟨0,Xa _,by simp at *;omega,by simp at *;omega⟩
 |cons a l ih=>
  intro h u h0 h1;obtain⟨a0,am⟩:=h a Xf;rw[Yx]at h1;by_cases ht:u≤a
  ·exact⟨0,Xl _,by simp;omega,by simp;omega⟩
  ·by_cases hta:u≤2*a
   ·exact⟨1,by simp,by simp;omega,by simp;omega⟩
   ·obtain⟨p,p1,p2,p3⟩:=ih (fun x hx=>h x (Xc _ hx)) (u-2*a) (by omega) (by omega);exact⟨p+1,by simp;omega,by rw[List.take_succ_cons,Yx];omega,by rw[List.take_succ_cons,Yx];omega⟩
mutual
def Uv:N→List C
 | .mk _ b l=>Pl b l
def R9(b:Bool):C→List C
 | .mk k d ps rj=>if b then [.mk k d ps rj]else Sr rj
def Pl(b:Bool):List C→List C
 |[]=>[]
 |c::l=>R9 b c++Pl b l
def Sr:List N→List C
 |[]=>[]
 |n::_=>Uv n
end
def Vk(c:C):Prop:=c.key≠P4∧c.key.size≤16∧c.data.size≤400∧(c.uQ≠[]→16<c.data.size)∧c.uQ.length≤4∧c.rj=[]
def Vo(c:C):Prop:=c.key.size≤16∧c.data=P4∧c.uQ=[]
def RC(c c':C):Prop:=Tk c.key c'.key=true∧∀x,x∈R9 false c→Tk x.key c'.key=true
def Sn(l:List C):Prop:=l.Pairwise fun a b=>Tk a.key b.key=true
def Fits(n:N):Prop:=30≤(sR n).sum∧(sR n).sum≤122
def zS(G F:N→Prop)(c:C):Prop:=Vo c∧(∀x,x∈R9 false c→UI c.key x.key=true)∧∃k,c.rj=[k]∧G k∧F k
structure Uf(G:N→Prop)(l:List C):Prop where
 k0:keyOf l=P4
 pw:l.Pairwise RC
 cell:∀c,c∈l→zS G Fits c
def Good:Nat→N→Prop
 |0,n=>n.leaf=true∧Sn n.l∧∀c,c∈n.l→Vk c
 |d+1,n=>n.leaf=false∧n.l≠[]∧Uf (Good d) n.l
structure WS(d:Nat)(A:List C)(c:C)(B:List C):Prop where
 k0:keyOf (A++c::B)=P4
 pw:(A++c::B).Pairwise RC
 ahead:∀x,x∈A→zS (Good d) Fits x
 behind:∀x,x∈B→zS (Good d) Fits x
 own:zS (Good d) (fun k=>(sR k).sum≤167) c
structure Hh(d:Nat)(L:List C)(m:N):Prop where
 leaf:m.leaf=false
 My:m.My=0
 ne:m.l≠[]
 br:Uf (Good d) m.l
 en:Uv m=L.flatMap (R9 false)
 sum:(sR m).sum≤(L.map (KG false)).sum+20
theorem Hh.ve{d:Nat}{L:List C}{m:N}(h:Hh d L m):Good (d+1) m:=⟨h.leaf,h.ne,h.br⟩
end Go.Proofs.YtoepfmhnapedoaaGreatDoor
namespace Go.Proofs.YtoepfmhnapedoaaGreatDoor
open Aml Go
end Go.Proofs.YtoepfmhnapedoaaGreatDoor
namespace Go.Proofs.YtoepfmhnapedoaaGreatDoor
open Aml Go
def LC(x:Int):Int:=if x.tmod 2=1 then cI .xor .u32 (IntKind.u32.wrap (x.tdiv 2)) 3988292384 else IntKind.u32.wrap (x.tdiv 2)
def v7:Nat→Int→Int
 |0,x=>x
 |k+1,x=>LC (v7 k x)
def jX(s:ByteArray):List Int:=s.data.toList.map fun c=>(c.toNat:Int)
theorem Hu(s:ByteArray):(jX s).length=s.size:=by unfold jX;rw[XJ];rfl
def qF(l:List Int)(x:Int):Int:=l.foldl (fun x c=>v7 8 (cI .xor .u32 x (IntKind.u32.wrap c))) x
def SE(x:Int)(s:ByteArray):Int:=IntKind.u32.wrap (4294967295-qF (jX s) (IntKind.u32.wrap (4294967295-x)))
@[go_sem] def Vq (c:C):DV:= .agg [dS c.data,.sl 1 false (c.uQ.map dI)]
mutual
def dT:N→DV
 | .mk p b l=> .agg [dI p,dB b,.sl 1 false (l.map fun c=>dS c.key),.sl 2 false ((if b then l else []).map Vq),.sl 5 false (if b then []else PZ l)]
def UY:C→List DV
 | .mk _ _ _ rj=>SH rj
def PZ:List C→List DV
 |[]=>[]
 |c::l=>UY c++PZ l
def SH:List N→List DV
 |[]=>[]
 |n::_=>[dT n]
end
end Go.Proofs.YtoepfmhnapedoaaGreatDoor
namespace Go.Proofs.YtoepfmhnapedoaaGreatDoor
open Aml Go
end Go.Proofs.YtoepfmhnapedoaaGreatDoor
namespace Go.Proofs.YtoepfmhnapedoaaGreatDoor
open Aml Go
def fl(rows:List (List DV)):List DV:=rows.flatten
end Go.Proofs.YtoepfmhnapedoaaGreatDoor
namespace Go.Proofs.YtoepfmhnapedoaaGreatDoor
open Aml Go
end Go.Proofs.YtoepfmhnapedoaaGreatDoor
namespace Go.Proofs.YtoepfmhnapedoaaGreatDoor
open Aml Go
def nR:List Int:=[0,498536548,997073096,651767980,1994146192,1802195444,1303535960,1342533948,3988292384,4027552580,3604390888,3412177804,2607071920,2262029012,2685067896,3183342108]
def kO:List Value:=nR.map fun z=> .int .u32 z
def kW(w0:W0):Prop:=mE w0 3 kO
def fB(x:BitVec 32):BitVec 32:=(x >>> 1) ^^^ (if x.getLsbD 0 then 3988292384#32 else 0#32)
theorem MT(x y p:BitVec 32):x ^^^ (y ^^^ p)=y ^^^ (x ^^^ p):=by rw[←Y8,BitVec.xor_comm x y,Y8]
theorem Mg(x y p:BitVec 32):(x ^^^ p) ^^^ (y ^^^ p)=x ^^^ y:=by
 rw[Y8,MT p y p,BitVec.xor_self,BitVec.xor_zero]
theorem MS(a b:BitVec 32):fB (a ^^^ b)=fB a ^^^ fB b:=by
 unfold fB;rw[BitVec.ushiftRight_xor_distrib,BitVec.getLsbD_xor];cases a.getLsbD 0 <;>cases b.getLsbD 0
 ·simp
 ·simp[Y8]
 ·simp only[Bool.xor_false,Bool.true_xor,Bool.not_false,if_true,XM,if_false,BitVec.xor_zero];rw[Y8,Y8,BitVec.xor_comm (b >>> 1)]
 ·simp only[bne_self_eq_false,Bool.xor_self,XM,if_false,if_true,BitVec.xor_zero];exact(Mg _ _ _).symm
def BV(x:BitVec 32):BitVec 32:=fB (fB (fB (fB x)))
theorem HW(a b:BitVec 32):BV (a ^^^ b)=BV a ^^^ BV b:=by unfold BV;simp only[MS]
theorem oP{x:BitVec 32}(h:x.getLsbD 0=false):fB x=x >>> 1:=by unfold fB;rw[h];simp
theorem Ek(x:BitVec 32):x=((x >>> 4) <<< 4) ^^^ (x &&& 15#32):=by
 refine BitVec.eq_of_getLsbD_eq fun i hi=>?_;rw[BitVec.getLsbD_xor,BitVec.getLsbD_shiftLeft,YF,BitVec.getLsbD_and]
 have h15:(15#32:BitVec 32).getLsbD i=decide (i<4):=by
  revert hi
  have:∀j:Fin 32,(15#32:BitVec 32).getLsbD j=decide (j.val<4):=by decide
  exact fun hi=>this ⟨i,hi⟩
 rw[h15];by_cases h4:i<4
 ·simp[h4]
 ·simp[h4,hi,show 4+(i-4)=i by omega]
theorem LU(x:BitVec 32):BV ((x >>> 4) <<< 4)=x >>> 4:=by
 have hb:∀k,k<4→(((x >>> 4) <<< 4) >>> k).getLsbD 0=false:=fun k hk=>by
  rw[YF,BitVec.getLsbD_shiftLeft];simp;intro _ h;omega
 unfold BV;have e0:fB ((x >>> 4) <<< 4)=((x >>> 4) <<< 4) >>> 1:=oP (by have:=hb 0 (by decide);simp at this ⊢);have e1:fB (((x >>> 4) <<< 4) >>> 1)=((x >>> 4) <<< 4) >>> 2:=by rw[oP (hb 1 (by decide)),←BitVec.shiftRight_add]
 have e2:fB (((x >>> 4) <<< 4) >>> 2)=((x >>> 4) <<< 4) >>> 3:=by rw[oP (hb 2 (by decide)),←BitVec.shiftRight_add]
 have e3:fB (((x >>> 4) <<< 4) >>> 3)=((x >>> 4) <<< 4) >>> 4:=by rw[oP (hb 3 (by decide)),←BitVec.shiftRight_add]
 rw[e0,e1,e2,e3];refine BitVec.eq_of_getLsbD_eq fun i hi=>?_;rw[YF,BitVec.getLsbD_shiftLeft,YF,YF];by_cases h:4+i<32
 ·simp[h]
 ·have:x.getLsbD (4+i)=false:=BitVec.getLsbD_of_ge _ _ (by omega);simp[h,this]
def N2(k:Nat):BitVec 32:=BitVec.ofInt 32 (nR.getD k 0)
theorem NO:∀r:Fin 16,BV (BitVec.ofNat 32 r)=N2 r:=by decide
theorem NH(x:BitVec 32):BV x=(x >>> 4) ^^^ N2 (x &&& 15#32).toNat:=by
 have h:=Ek x
 have hlt:(x &&& 15#32).toNat<16:=by
  rw[BitVec.toNat_and];exact YU Nat.and_le_right (by decide)
 have hr:=NO ⟨_,hlt⟩;simp only at hr;rw[BitVec.ofNat_toNat,BitVec.setWidth_eq]at hr
 conv=>lhs;rw[h]
 rw[HW,LU,hr]
def kr(b:BitVec 32):Int:=(b.toNat:Int)
theorem qs(b:BitVec 32):IntKind.u32.wrap (kr b)=kr b:=by
 have e:IntKind.u32.wrap (kr b)=kr b%4294967296:=rfl;have:=b.isLt;rw[e];unfold kr;omega
theorem tj(b:BitVec 32):BitVec.ofInt IntKind.u32.bits (kr b)=b:=by
 show BitVec.ofInt 32 (b.toNat:Int)=b;rw[Y3,BitVec.ofNat_toNat,BitVec.setWidth_eq]
theorem jJ(x y:Int):cI .xor .u32 x y=kr (BitVec.ofInt 32 x ^^^ BitVec.ofInt 32 y):=qs (BitVec.ofInt 32 x ^^^ BitVec.ofInt 32 y)
theorem uZ(x y:Int):cI .and .u32 x y=kr (BitVec.ofInt 32 x &&& BitVec.ofInt 32 y):=qs (BitVec.ofInt 32 x &&& BitVec.ofInt 32 y)
theorem Jj(b:BitVec 32):LC (kr b)=kr (fB b):=by
 have h2:(kr b).tdiv 2=kr (b >>> 1):=by
  unfold kr;rw[BitVec.toNat_ushiftRight,Nat.shiftRight_eq_div_pow,Int.tdiv_eq_ediv_of_nonneg (by omega)];omega
 have h3:(kr b).tmod 2=((b.toNat%2:Nat):Int):=by
  unfold kr;rw[Int.tmod_eq_emod_of_nonneg (by omega)];omega
 have h4:b.getLsbD 0=decide (b.toNat%2=1):=Nat.testBit_zero b.toNat;unfold LC fB;rw[h2,h3,h4,qs];by_cases h:b.toNat%2=1
 ·rw[if_pos (by omega),jJ,decide_eq_true h,if_pos rfl];have:BitVec.ofInt 32 (kr (b >>> 1))=b >>> 1:=tj _;rw[this];rfl
 ·rw[if_neg (by omega),decide_eq_false h];simp
theorem vr(b:BitVec 32):v7 8 (kr b)=kr (BV (BV b)):=by
 simp only[v7,Jj];rfl
def sa(x:Int):Int:=cI .xor .u32 (x.fdiv (2^4)) (nR.getD (cI .and .u32 x 15).toNat 0)
theorem uD(b:BitVec 32):sa (kr b)=kr (BV b):=by
 unfold sa
 have h1:(kr b).fdiv (2^4)=kr (b >>> 4):=by
  unfold kr;rw[BitVec.toNat_ushiftRight,Nat.shiftRight_eq_div_pow,Int.fdiv_eq_ediv_of_nonneg _ (by decide)];omega
 have h2:cI .and .u32 (kr b) 15=kr (b &&& 15#32):=by
  rw[uZ];have:BitVec.ofInt 32 (kr b)=b:=tj b;rw[this];rfl
 rw[h1,h2,jJ,NH];have:BitVec.ofInt 32 (kr (b >>> 4))=b >>> 4:=tj _;rw[this];unfold N2 kr;rw[YO]
theorem Hq(x:Int)(c:Int):v7 8 (cI .xor .u32 x (IntKind.u32.wrap c))=sa (sa (cI .xor .u32 x (IntKind.u32.wrap c))):=by
 rw[jJ,vr,uD,uD]
theorem jG(x:Int):0≤cI .and .u32 x 15∧cI .and .u32 x 15<16:=by
 rw[uZ];unfold kr
 have:(BitVec.ofInt 32 x &&& BitVec.ofInt 32 15).toNat<16:=by
  rw[BitVec.toNat_and];exact YU Nat.and_le_right (by decide)
 omega
theorem DU:∀r:Fin 16,(kO.map DV.v).drop r.val= .v (.int .u32 (nR.getD r.val 0))::(kO.map DV.v).drop (r.val+1)
 |⟨0,_⟩=>rfl
 |⟨1,_⟩=>rfl
 |⟨2,_⟩=>rfl
 |⟨3,_⟩=>rfl
 |⟨4,_⟩=>rfl
 |⟨5,_⟩=>rfl
 |⟨6,_⟩=>rfl
 |⟨7,_⟩=>rfl
 |⟨8,_⟩=>rfl
 |⟨9,_⟩=>rfl
 |⟨10,_⟩=>rfl
 |⟨11,_⟩=>rfl
 |⟨12,_⟩=>rfl
 |⟨13,_⟩=>rfl
 |⟨14,_⟩=>rfl
 |⟨15,_⟩=>rfl
 |⟨n+16,h⟩=>absurd h (by omega)
theorem JM{z:Int}(h0:0≤z)(h1:z<16):(kO.map DV.v).drop z.toNat= .v (.int .u32 (nR.getD z.toNat 0))::(kO.map DV.v).drop (z.toNat+1):=DU ⟨z.toNat,by omega⟩
theorem H8(x:Int)(h0:0≤x)(h1:x≤4294967295):cI .xor .u32 4294967295 x=4294967295-x:=by
 have hx:x=kr (BitVec.ofNat 32 x.toNat):=by
  unfold kr;rw[Zg];omega
 rw[jJ,hx];have e:BitVec.ofInt 32 (kr (BitVec.ofNat 32 x.toNat))=BitVec.ofNat 32 x.toNat:=tj _;rw[e];have e2:(BitVec.ofInt 32 4294967295:BitVec 32)=BitVec.allOnes 32:=by decide
 rw[e2,BitVec.allOnes_xor];unfold kr;rw[BitVec.toNat_not];have:=(BitVec.ofNat 32 x.toNat).isLt;omega
theorem IN(l:List Int)(x:Int)(h0:0≤x)(h1:x≤4294967295):0≤qF l x∧qF l x≤4294967295:=by
 unfold qF
 induction l generalizing x with
 |nil=>exact⟨h0,h1⟩
 |cons a l ih=>
  rw[List.foldl_cons];refine ih _ ?_ ?_ <;>rw[jJ,vr] <;>unfold kr <;>have:=(BV (BV (BitVec.ofInt 32 x ^^^ BitVec.ofInt 32 (IntKind.u32.wrap a)))).isLt <;>omega
end Go.Proofs.YtoepfmhnapedoaaGreatDoor
namespace Go.Proofs.YtoepfmhnapedoaaGreatDoor
open Aml Go Rn Lat Grs
def eH(s:List UInt8):Int:=SE 0 (tx s)
theorem VI(w0:W0)(hg:kW w0)(s:List UInt8)(h:s.length≤1048576)(S:St):
 aa Tryz.prog w0 187 [.v (.int .u32 0),.sl 1 false (s.map fun c=> .v (.int .u8 c.toNat))] S (fun d S'=>d= .v (.int .u32 (eH s))∧S'=S):=by
 have hG:=ql hg;have e0:cI .xor .u32 (if IntKind.u32.signed=true then -1 else IntKind.u32.max) 0=4294967295:=by decide
 have hbs:jX (tx s)=s.map fun c=>(c.toNat:Int):=by unfold jX;rw[dV]
 refine bW [] mx Tryz.func187 rfl rfl (by kernel_rfl) ?_;simp(maxDischargeDepth:=12) (maxSteps:=1000000) -implicitDefEqProofs only[Tryz.ntmps187,go_sem,Nat.reduceAdd,Nat.reduceSub,Nat.reduceMul,Nat.reduceLeDiff,Nat.reduceEqDiff,Nat.reduceGT,Nat.reduceBEq,reduceCtorEq,↓reduceIte,Int.reduceToNat,Int.reduceLE,Int.reduceLT,Int.reduceNe,Int.reduceEq,e0];refine aX [] s.length [5,10,11,12] (fun k=>[(5,.v (.int .u32 (qF ((jX (tx s)).take k) 4294967295))),(12,dI k)]) (fun _=>S) (fun _=>True) mx (by kernel_rfl) ?_ ?_
 ·simp(maxDischargeDepth:=12) (maxSteps:=1000000) -implicitDefEqProofs only[go_sem,Nat.reduceAdd,Nat.reduceSub,Nat.reduceMul,Nat.reduceLeDiff,Nat.reduceEqDiff,Nat.reduceGT,Nat.reduceBEq,reduceCtorEq,↓reduceIte,Int.reduceToNat,Int.reduceLE,Int.reduceLT,Int.reduceNe,Int.reduceEq];rfl
 ·intro k hk _;have e1:IntKind.i64.wrap ((k:Int)+1)=((k+1:Nat):Int):=by rw[oD (by omega) (by omega)];omega
  by_cases hlt:k<s.length
  ·have hc:s[k]? =some s[k]:=W5 hlt;generalize s[k]=c at hc
   have hh:∀x,(kO.map DV.v).drop ((cI .and .u32 x 15).toNat*1)= .v (.int .u32 (nR.getD (cI .and .u32 x 15).toNat 0))::(kO.map DV.v).drop ((cI .and .u32 x 15).toNat+1):=fun x=>by
    rw[YP];exact JM (jG x).1 (jG x).2
   have hh2:kO.length=16:=rfl
   have hcs:qF ((jX (tx s)).take (k+1)) 4294967295=sa (sa (cI .xor .u32 (qF ((jX (tx s)).take k) 4294967295) (IntKind.u32.wrap (c.toNat:Int)))):=by
    have hb':(jX (tx s))[k]? =some (c.toNat:Int):=by rw[hbs,Xd,hc];rfl
    have:(jX (tx s)).take (k+1)=(jX (tx s)).take k++[(c.toNat:Int)]:=by rw[XZ,hb'];rfl
    rw[this];unfold qF;rw[Zk];exact Hq _ _
   rw[hcs];have i3:∀x,(cI .and .u32 x 15).toNat*1≤16:=fun x=>by have:=jG x;omega
   simp(maxDischargeDepth:=12) (maxSteps:=1000000) -implicitDefEqProofs only[go_sem,Nat.reduceAdd,Nat.reduceSub,Nat.reduceMul,Nat.reduceLeDiff,Nat.reduceEqDiff,Nat.reduceGT,Nat.reduceBEq,reduceCtorEq,↓reduceIte,Int.reduceToNat,Int.reduceLE,Int.reduceLT,Int.reduceNe,Int.reduceEq,hc,hG,hh,hh2,e1]
   first
    |exact⟨fun q=>⟨q,(jG _).1,(jG _).2,i3 _,(jG _).1,(jG _).2,i3 _,q,rfl⟩,fun q=>absurd hlt q⟩
    |exact⟨fun q=>⟨q,(jG _).1,(jG _).2,i3 _,(jG _).1,(jG _).2,i3 _,q,rfl,e1⟩,fun q=>absurd hlt q⟩
  ·have hend:cI .xor .u32 (if IntKind.u32.signed=true then -1 else IntKind.u32.max) (qF ((jX (tx s)).take k) 4294967295)=SE 0 (tx s):=by
    have hk2:(jX (tx s)).take k=jX (tx s):=XF (by rw[Hu,dP];omega);rw[hk2];have hc:=IN (jX (tx s)) 4294967295 (by decide) (by decide);have hif:(if IntKind.u32.signed=true then(-1:Int)else IntKind.u32.max)=4294967295:=by decide
    rw[hif,H8 _ hc.1 hc.2];unfold SE;have e5:IntKind.u32.wrap (4294967295-0)=4294967295:=by decide
    rw[e5];have e:IntKind.u32.wrap (4294967295-qF (jX (tx s)) 4294967295)=(4294967295-qF (jX (tx s)) 4294967295)%4294967296:=rfl;rw[e];omega
   simp(maxDischargeDepth:=12) (maxSteps:=1000000) -implicitDefEqProofs only[go_sem,Nat.reduceAdd,Nat.reduceSub,Nat.reduceMul,Nat.reduceLeDiff,Nat.reduceEqDiff,Nat.reduceGT,Nat.reduceBEq,reduceCtorEq,↓reduceIte,Int.reduceToNat,Int.reduceLE,Int.reduceLT,Int.reduceNe,Int.reduceEq,hG];refine⟨fun q=>absurd q hlt,fun _=>?_⟩;exact hend
theorem Pm(w0:W0)(hg:kW w0)(s:List UInt8)(h:s.length≤1048576)(S:St):aa Tryz.prog w0 134 [dS (tx s)] S (fun d S'=>d= .v (.int .u32 (eH s))∧S'=S):=by
 have hof:∀S,aa Tryz.prog w0 162 [.sl 1 false (s.map fun c=> .v (.int .u8 c.toNat))] S (fun d S'=>d= .v (.int .u32 (eH s))∧S'=S):=fun S=>by
  refine bW [] mx Tryz.func162 rfl rfl (by kernel_rfl) ?_;simp(maxDischargeDepth:=12) (maxSteps:=1000000) -implicitDefEqProofs only[Tryz.ntmps162,go_sem,Nat.reduceAdd,Nat.reduceSub,Nat.reduceMul,Nat.reduceLeDiff,Nat.reduceEqDiff,Nat.reduceGT,Nat.reduceBEq,reduceCtorEq,↓reduceIte,Int.reduceToNat,Int.reduceLE,Int.reduceLT,Int.reduceNe,Int.reduceEq];refine ao (VI w0 hg s h _) ?_;simp(maxDischargeDepth:=12) (maxSteps:=1000000) -implicitDefEqProofs only[go_sem,Nat.reduceAdd,Nat.reduceSub,Nat.reduceMul,Nat.reduceLeDiff,Nat.reduceEqDiff,Nat.reduceGT,Nat.reduceBEq,reduceCtorEq,↓reduceIte,Int.reduceToNat,Int.reduceLE,Int.reduceLT,Int.reduceNe,Int.reduceEq]
 refine bW [] mx Tryz.func134 rfl rfl (by kernel_rfl) ?_;simp(maxDischargeDepth:=12) (maxSteps:=1000000) -implicitDefEqProofs only[Tryz.ntmps134,go_sem,Nat.reduceAdd,Nat.reduceSub,Nat.reduceMul,Nat.reduceLeDiff,Nat.reduceEqDiff,Nat.reduceGT,Nat.reduceBEq,reduceCtorEq,↓reduceIte,Int.reduceToNat,Int.reduceLE,Int.reduceLT,Int.reduceNe,Int.reduceEq];refine⟨by rw[dP];omega,ao (hof _) ?_⟩;simp(maxDischargeDepth:=12) (maxSteps:=1000000) -implicitDefEqProofs only[go_sem,Nat.reduceAdd,Nat.reduceSub,Nat.reduceMul,Nat.reduceLeDiff,Nat.reduceEqDiff,Nat.reduceGT,Nat.reduceBEq,reduceCtorEq,↓reduceIte,Int.reduceToNat,Int.reduceLE,Int.reduceLT,Int.reduceNe,Int.reduceEq]
end Go.Proofs.YtoepfmhnapedoaaGreatDoor
