/-
  Part 9 of the proof that the last text ends: from 'Texts compared; rows in order: walked' to 'A value's digest: walked'. By an AI agent.
-/
import Derived.Test.YtoepfmhnapedoaaGreatDoorMJ8
import Derived.Test.YtoepfmhnapedoaaGreatDoorMJ5
import Derived.Sort.Walk0
set_option linter.unusedVariables false
set_option linter.unusedSimpArgs false
set_option maxRecDepth 100000
set_option maxHeartbeats 16000000
namespace Go.Proofs.YtoepfmhnapedoaaGreatDoor
open Aml Go Rn Lat Grs
def xF(a b:List UInt8):Bool:=Op.bytesLess a b
@[go_sem] theorem Uv (a b:List UInt8) (K:DV→Prop):fZ .lss (tx a) (tx b) K=K (.v (.bool (xF a b))):=by
 show K (.v (.bool (Op.bytesLess (tx a).data.toList (tx b).data.toList)))=_;rw[dJ,dJ];rfl
@[go_sem] theorem Ue (a b:List UInt8) (K:DV→Prop):fZ .geq (tx a) (tx b) K=K (.v (.bool (!xF a b))):=by
 show K (.v (.bool (!Op.bytesLess (tx a).data.toList (tx b).data.toList)))=_;rw[dJ,dJ];rfl
@[go_sem] theorem Uo (a b:List UInt8) (K:DV→Prop):fZ .gtr (tx a) (tx b) K=K (.v (.bool (!(xF a b||decide (a=b))))):=by
 show K (.v (.bool (!(Op.bytesLess (tx a).data.toList (tx b).data.toList||decide ((tx a).data.toList=(tx b).data.toList)))))=_;rw[dJ,dJ];rfl
theorem PZ(w0:W0){S:St}{bx w m own:Nat}{o:bl}{full:Bool}(hb:lk S.box bx=some [bg w])(hw:lk S.box w=some (qY m own o full))(k:List UInt8):
 aa Tryz.prog w0 127 [dS (tx k),bg bx] S (fun d S'=>d=dB (!xF k o.key)∧S'=S):=by
 refine cb [] mx Tryz.func127 rfl rfl (by kernel_rfl) ?_;simp only[Tryz.ntmps127,Xo,XP,Nat.reduceAdd,Nat.reduceSub,List.reduceReplicate,Yi,Yx];simp(maxDischargeDepth:=12) (maxSteps:=1000000) -implicitDefEqProofs only[Tryz.ntmps127,go_sem,Nat.reduceAdd,Nat.reduceSub,Nat.reduceMul,Nat.reduceLeDiff,Nat.reduceEqDiff,Nat.reduceGT,Nat.reduceBEq,reduceCtorEq,↓reduceIte,Int.reduceToNat,Int.reduceLE,Int.reduceLT,Int.reduceNe,Int.reduceEq,hb,hw]
theorem EC(w0:W0)(x:List UInt8)(S:St):aa Tryz.prog w0 193 [dS (tx x)] S (fun d S'=>d=dB false∧S'=S):=by
 refine cb [] mx Tryz.func193 rfl rfl (by kernel_rfl) ?_;simp(maxDischargeDepth:=12) (maxSteps:=1000000) -implicitDefEqProofs only[Tryz.ntmps193,go_sem,Nat.reduceAdd,Nat.reduceSub,Nat.reduceMul,Nat.reduceLeDiff,Nat.reduceEqDiff,Nat.reduceGT,Nat.reduceBEq,reduceCtorEq,↓reduceIte,Int.reduceToNat,Int.reduceLE,Int.reduceLT,Int.reduceNe,Int.reduceEq]
def C2(x y:List UInt8):Int:=if xF x y then -1 else if x=y then 0 else 1
theorem Qv(w0:W0)(x y:List UInt8)(S:St):aa Tryz.prog w0 183 [dS (tx x),dS (tx y)] S (fun d S'=>d=dI (C2 x y)∧S'=S):=by
 refine cb [] mx Tryz.func183 rfl rfl (by kernel_rfl) ?_;simp(maxDischargeDepth:=12) (maxSteps:=1000000) -implicitDefEqProofs only[Tryz.ntmps183,go_sem,Nat.reduceAdd,Nat.reduceSub,Nat.reduceMul,Nat.reduceLeDiff,Nat.reduceEqDiff,Nat.reduceGT,Nat.reduceBEq,reduceCtorEq,↓reduceIte,Int.reduceToNat,Int.reduceLE,Int.reduceLT,Int.reduceNe,Int.reduceEq];refine aw (EC _ x _) ?_;simp(maxDischargeDepth:=12) (maxSteps:=1000000) -implicitDefEqProofs only[go_sem,Nat.reduceAdd,Nat.reduceSub,Nat.reduceMul,Nat.reduceLeDiff,Nat.reduceEqDiff,Nat.reduceGT,Nat.reduceBEq,reduceCtorEq,↓reduceIte,Int.reduceToNat,Int.reduceLE,Int.reduceLT,Int.reduceNe,Int.reduceEq];refine aw (EC _ y _) ?_;simp(maxDischargeDepth:=12) (maxSteps:=1000000) -implicitDefEqProofs only[go_sem,Nat.reduceAdd,Nat.reduceSub,Nat.reduceMul,Nat.reduceLeDiff,Nat.reduceEqDiff,Nat.reduceGT,Nat.reduceBEq,reduceCtorEq,↓reduceIte,Int.reduceToNat,Int.reduceLE,Int.reduceLT,Int.reduceNe,Int.reduceEq];unfold C2;refine⟨fun h=>by rw[if_pos h],fun h=>⟨fun h2=>?_,fun h2=>?_⟩⟩
 ·rw[h,YT,decide_eq_true_iff]at h2;rw[if_neg (by rw[h];simp),if_pos h2]
 ·rw[h,YT,decide_eq_false_iff_not]at h2;rw[if_neg (by rw[h];simp),if_neg h2]
def qW(a b:hY):Bool:=xF a.key b.key||(decide (a.key=b.key)&&decide (a.uw<b.uw))
theorem SX(w0:W0)(x y:Int)(S:St):aa Tryz.prog w0 177 [.sl 1 false [dI x,dI y]] S (fun d S'=>d=dI (if x≠0 then x else y)∧S'=S):=by
 refine cb [] mx Tryz.func177 rfl rfl (by kernel_rfl) ?_;simp(maxDischargeDepth:=12) (maxSteps:=1000000) -implicitDefEqProofs only[Tryz.ntmps177,go_sem,Nat.reduceAdd,Nat.reduceSub,Nat.reduceMul,Nat.reduceLeDiff,Nat.reduceEqDiff,Nat.reduceGT,Nat.reduceBEq,reduceCtorEq,↓reduceIte,Int.reduceToNat,Int.reduceLE,Int.reduceLT,Int.reduceNe,Int.reduceEq];refine aX [] 2 [3,6,7,8] (fun a=>[(8,dI a)]) (fun _=>S) (fun a=>(1≤a→x=0)∧(2≤a→y=0)) mx (by kernel_rfl) ?_ ?_
 ·simp(maxDischargeDepth:=12) (maxSteps:=1000000) -implicitDefEqProofs only[go_sem,Nat.reduceAdd,Nat.reduceSub,Nat.reduceMul,Nat.reduceLeDiff,Nat.reduceEqDiff,Nat.reduceGT,Nat.reduceBEq,reduceCtorEq,↓reduceIte,Int.reduceToNat,Int.reduceLE,Int.reduceLT,Int.reduceNe,Int.reduceEq]
 ·intro a ha hA;obtain rfl|rfl|rfl:a=0∨a=1∨a=2:=by omega
  ·simp(maxDischargeDepth:=12) (maxSteps:=1000000) -implicitDefEqProofs only[go_sem,Nat.reduceAdd,Nat.reduceSub,Nat.reduceMul,Nat.reduceLeDiff,Nat.reduceEqDiff,Nat.reduceGT,Nat.reduceBEq,reduceCtorEq,↓reduceIte,Int.reduceToNat,Int.reduceLE,Int.reduceLT,Int.reduceNe,Int.reduceEq];refine⟨fun h=>by rw[if_pos h],fun h=>⟨Xs.1 h,by rfl⟩⟩
  ·simp(maxDischargeDepth:=12) (maxSteps:=1000000) -implicitDefEqProofs only[go_sem,Nat.reduceAdd,Nat.reduceSub,Nat.reduceMul,Nat.reduceLeDiff,Nat.reduceEqDiff,Nat.reduceGT,Nat.reduceBEq,reduceCtorEq,↓reduceIte,Int.reduceToNat,Int.reduceLE,Int.reduceLT,Int.reduceNe,Int.reduceEq];have h0:=hA.1 (by omega);refine⟨fun h=>by rw[if_neg (by omega)],fun h=>⟨⟨h0,Xs.1 h⟩,by rfl⟩⟩
  ·simp(maxDischargeDepth:=12) (maxSteps:=1000000) -implicitDefEqProofs only[go_sem,Nat.reduceAdd,Nat.reduceSub,Nat.reduceMul,Nat.reduceLeDiff,Nat.reduceEqDiff,Nat.reduceGT,Nat.reduceBEq,reduceCtorEq,↓reduceIte,Int.reduceToNat,Int.reduceLE,Int.reduceLT,Int.reduceNe,Int.reduceEq];have h0:=hA.1 (by omega);have h1:=hA.2 (by omega);rw[if_neg (by omega),h1]
def wm(a b:hY):Int:=if C2 a.key b.key≠0 then C2 a.key b.key else qD a.uw b.uw
theorem rW(w0:W0)(a b:hY)(S:St):aa Tryz.prog w0 158 [pQ a,pQ b] S (fun d S'=>d=dI (wm a b)∧S'=S):=by
 refine cb [] mx Tryz.func158 rfl rfl (by kernel_rfl) ?_;simp(maxDischargeDepth:=12) (maxSteps:=1000000) -implicitDefEqProofs only[Tryz.ntmps158,go_sem,Nat.reduceAdd,Nat.reduceSub,Nat.reduceMul,Nat.reduceLeDiff,Nat.reduceEqDiff,Nat.reduceGT,Nat.reduceBEq,reduceCtorEq,↓reduceIte,Int.reduceToNat,Int.reduceLE,Int.reduceLT,Int.reduceNe,Int.reduceEq];intro b1 b2;have eb:=av b2 b1.n (by simp(maxDischargeDepth:=12) (maxSteps:=1000000) -implicitDefEqProofs only[go_sem,Nat.reduceAdd,Nat.reduceSub,Nat.reduceMul,Nat.reduceLeDiff,Nat.reduceEqDiff,Nat.reduceGT,Nat.reduceBEq,reduceCtorEq,↓reduceIte,Int.reduceToNat,Int.reduceLE,Int.reduceLT,Int.reduceNe,Int.reduceEq]);refine df (Qv _ a.key b.key _) ?_;simp(maxDischargeDepth:=12) (maxSteps:=1000000) -implicitDefEqProofs only[go_sem,Nat.reduceAdd,Nat.reduceSub,Nat.reduceMul,Nat.reduceLeDiff,Nat.reduceEqDiff,Nat.reduceGT,Nat.reduceBEq,reduceCtorEq,↓reduceIte,Int.reduceToNat,Int.reduceLE,Int.reduceLT,Int.reduceNe,Int.reduceEq,eb];refine df (lU _ a.uw b.uw _) ?_;simp(maxDischargeDepth:=12) (maxSteps:=1000000) -implicitDefEqProofs only[go_sem,Nat.reduceAdd,Nat.reduceSub,Nat.reduceMul,Nat.reduceLeDiff,Nat.reduceEqDiff,Nat.reduceGT,Nat.reduceBEq,reduceCtorEq,↓reduceIte,Int.reduceToNat,Int.reduceLE,Int.reduceLT,Int.reduceNe,Int.reduceEq,eb];refine df (SX _ (C2 a.key b.key) (qD a.uw b.uw) _) ?_ ⟨.full _ _ _,trivial⟩;simp(maxDischargeDepth:=12) (maxSteps:=1000000) -implicitDefEqProofs only[go_sem,Nat.reduceAdd,Nat.reduceSub,Nat.reduceMul,Nat.reduceLeDiff,Nat.reduceEqDiff,Nat.reduceGT,Nat.reduceBEq,reduceCtorEq,↓reduceIte,Int.reduceToNat,Int.reduceLE,Int.reduceLT,Int.reduceNe,Int.reduceEq];unfold wm;rfl
theorem rF(a b:hY):wm a b<0↔qW a b=true:=by
 unfold wm qW C2 qD
 cases h:xF a.key b.key with
 |true=>simp
 |false=>
  by_cases e:a.key=b.key
  ·simp only[e,if_true,XT,if_false,ne_eq,not_true_eq_false,decide_true,YE,YT,decide_eq_true_eq];split
   ·simp;assumption
   ·split <;>simp <;>omega
  ·simp[e]
theorem IY(w0:W0)(a b:hY)(S:St):aa Tryz.prog w0 185 [pQ a,pQ b] S (fun d S'=>d=dB (qW a b)∧S'=S):=by
 refine cb [] mx Tryz.func185 rfl rfl (by kernel_rfl) ?_;simp(maxDischargeDepth:=12) (maxSteps:=1000000) -implicitDefEqProofs only[Tryz.ntmps185,go_sem,Nat.reduceAdd,Nat.reduceSub,Nat.reduceMul,Nat.reduceLeDiff,Nat.reduceEqDiff,Nat.reduceGT,Nat.reduceBEq,reduceCtorEq,↓reduceIte,Int.reduceToNat,Int.reduceLE,Int.reduceLT,Int.reduceNe,Int.reduceEq];intro b1 b2;refine aw (rW _ a b _) ?_;simp(maxDischargeDepth:=12) (maxSteps:=1000000) -implicitDefEqProofs only[go_sem,Nat.reduceAdd,Nat.reduceSub,Nat.reduceMul,Nat.reduceLeDiff,Nat.reduceEqDiff,Nat.reduceGT,Nat.reduceBEq,reduceCtorEq,↓reduceIte,Int.reduceToNat,Int.reduceLE,Int.reduceLT,Int.reduceNe,Int.reduceEq];exact Bool.eq_iff_iff.2 (decide_eq_true_iff.trans (rF a b))
theorem EX(w0:W0)(l:List hY)(hl:l.length≤1048576)(ho:∀i x y,l[i]? =some x→l[i+1]? =some y→qW y x=false)(S:St):aa Tryz.prog w0 157 [cR l,.v (.func (.func 158) #[] #[])] S (fun d S'=>d=dB true∧S'=S):=by
 have e0:IntKind.i64.wrap ((l.length:Int)-1)=(l.length:Int)-1:=oN (by omega) (by omega);refine cb [] mx Tryz.func157 rfl rfl (by kernel_rfl) ?_;simp(maxDischargeDepth:=12) (maxSteps:=1000000) -implicitDefEqProofs only[Tryz.ntmps157,go_sem,Nat.reduceAdd,Nat.reduceSub,Nat.reduceMul,Nat.reduceLeDiff,Nat.reduceEqDiff,Nat.reduceGT,Nat.reduceBEq,reduceCtorEq,↓reduceIte,Int.reduceToNat,Int.reduceLE,Int.reduceLT,Int.reduceNe,Int.reduceEq,e0];refine cY [] [0,1,5] (σ:=Nat) (fun i=>[(5,dI ((i:Int)-1))]) (fun _=>S) (fun i=>i≤l.length) (fun i=>i) l.length mx (by kernel_rfl) ⟨Xg _,?_⟩ fun i hi=>?_
 ·simp(maxDischargeDepth:=12) (maxSteps:=1000000) -implicitDefEqProofs only[go_sem,Nat.reduceAdd,Nat.reduceSub,Nat.reduceMul,Nat.reduceLeDiff,Nat.reduceEqDiff,Nat.reduceGT,Nat.reduceBEq,reduceCtorEq,↓reduceIte,Int.reduceToNat,Int.reduceLE,Int.reduceLT,Int.reduceNe,Int.reduceEq]
 ·have e1:IntKind.i64.wrap ((i:Int)-1-1)=(i:Int)-1-1:=oN (by omega) (by omega);simp(maxDischargeDepth:=12) (maxSteps:=1000000) -implicitDefEqProofs only[go_sem,Nat.reduceAdd,Nat.reduceSub,Nat.reduceMul,Nat.reduceLeDiff,Nat.reduceEqDiff,Nat.reduceGT,Nat.reduceBEq,reduceCtorEq,↓reduceIte,Int.reduceToNat,Int.reduceLE,Int.reduceLT,Int.reduceNe,Int.reduceEq,e1];intro hi1;refine⟨by omega,by omega,fun y hy=>⟨by omega,by omega,fun x hx=>?_⟩⟩;have hord:=ho (i-2) x y (by rw[show i-2=((i:Int)-1-1).toNat by omega];exact hx) (by rw[show i-2+1=((i:Int)-1).toNat by omega];exact hy);have hc:¬wm y x<0:=fun h=>by rw[(rF y x).1 h]at hord;cases hord
  refine df (rW _ y x _) ?_;simp(maxDischargeDepth:=12) (maxSteps:=1000000) -implicitDefEqProofs only[go_sem,Nat.reduceAdd,Nat.reduceSub,Nat.reduceMul,Nat.reduceLeDiff,Nat.reduceEqDiff,Nat.reduceGT,Nat.reduceBEq,reduceCtorEq,↓reduceIte,Int.reduceToNat,Int.reduceLE,Int.reduceLT,Int.reduceNe,Int.reduceEq,e1];exact⟨hc,fun _=>⟨i-1,by omega,by omega,by omega⟩⟩
structure C4 where
 act:Int
 US:Int
 eX:Int
 bucket:List UInt8
 key:List UInt8
 VC:Int
@[go_sem] def sg (r:C4):DV:= .agg [dI r.act,dI r.US,dI r.eX,dS (tx r.bucket),dS (tx r.key),.v (.int .u32 r.VC)]
structure v8 where
 e:Int
 n:Int
 rows:List hY
 pd:List C4
@[go_sem] def Hx (r:v8):DV:= .agg [dI r.e,dI r.n,.sl 3 false (r.rows.map pQ),dI 0,dI 0,dI 0,dI 0,.sl 6 false (r.pd.map sg)]
structure nT where
 F:gu
 au:List C4
 has:Int
 D:gu
structure bc where
 l:List nT
 r:List RH
 sn:Int→Int→Int→Option (List gu)
inductive Ow where
 |no|tb|sm|sp
 |b (x:Nat)
 |d (x:Nat)
 |au (x:Nat)
def Ow.own(x:Nat):Ow→Prop
 | .b y=>y=x
 | .d y=>y=x
 | .au y=>y=x
 |_=>False
structure MG where
 m:Nat
 ls:List Nat
 θ:ec
 sn:Nat
 own:Nat→Ow
def MG.bx(g:MG):List Nat:=g.m::g.ls++g.θ.bx
def GQ(own:Nat→Ow)(o:Ow)(l:Nat)(ids:List UInt8→Option Nat):Prop:=own l=o∧∀n i,ids n=some i→own i=o
def OL(S:St)(r:Nat)(au:List C4):Prop:=lk S.acc r=some (.arr 6 (au.map sg))∨lk S.acc r=some (.tl 6 (au.map sg))
theorem OL.to{S S':St}{r:Nat}{au:List C4}(h:OL S r au)(k:∀v,lk S.acc r=some v→lk S'.acc r=some v):OL S' r au:=h.imp (k _) (k _)
def Of(S:St)(own:Nat→Ow)(N x bx:Nat)(l:nT):Prop:=∃b ids r dr,lk S.box bx=some (lC b (.acc r l.au.length) l.has dr)∧BM S b N ids l.F∧GQ own (.b x) b ids∧OL S r l.au∧own r= .au x∧(l.has≠0→∃d idd,dr= .mp d∧BM S d N idd l.D∧GQ own (.d x) d idd)
def HI(lv n k:Int):Value:= .agg [Value.int .i64 lv,.int .i64 n,.int .i64 k].toArray
def SW(S:St)(own:Nat→Ow)(N:Nat)(bs:List Nat)(Fs:List gu):Prop:=bs.length=Fs.length∧∀(j:Nat) b F,bs[j]? =some b→Fs[j]? =some F→∃ids,BM S b N ids F∧GQ own .sp b ids
def RB(S:St)(own:Nat→Ow)(N sm:Nat)(sn:Int→Int→Int→Option (List gu)):Prop:=∃es c,lk S.acc sm=some (.xo (.mp (.st [.i64,.i64,.i64]) es c))∧∀lv n k,(sn lv n k=none→aJ es (HI lv n k)=none)∧∀Fs,sn lv n k=some Fs→∃bs:List Nat,aJ es (HI lv n k)=some (.sl 1 false (bs.map DV.mp))∧SW S own N bs Fs
structure MI(S:St)(g:MG)(N:Nat)(c:Cf)(μ:bc):Prop where
 md:lk S.box g.m=some (DK c g.ls g.θ.t g.sn)
 up:dq c.up
 len:g.ls.length=μ.l.length
 nd:(g.m::g.ls).Nodup
 xA:∀i,i∈g.θ.bx→i∉g.m::g.ls
 lb:∀(x:Nat) bx l,g.ls[x]? =some bx→μ.l[x]? =some l→Of S g.own N x bx l
 tb:TI S g.θ μ.r
 uk:∀i,i∈g.θ.ax→g.own i= .tb
 CK:RB S g.own N g.sn μ.sn
 lX:g.own g.sn= .sm
 lD:∀i,g.own i≠ .no→lk S.acc i≠none
theorem z7{a b c a' b' c':Int}(h:HI a b c=HI a' b' c'):a=a'∧b=b'∧c=c':=by
 unfold HI at h;have h:=congrArg Array.toList (Value.agg.inj h);simp at h;exact h
theorem iV{S S':St}{own:Nat→Ow}{o:Ow}{l N:Nat}{ids:List UInt8→Option Nat}{F:gu}(h:BM S l N ids F)(ho:GQ own o l ids)(ha:∀i x,own i=o→lk S.acc i=some x→lk S'.acc i=some x):BM S' l N ids F:=
 h.mono fun c x hc hx=>ha c x (hc.elim (fun e=>by rw[e];exact ho.1) fun⟨n,hn⟩=>ho.2 n c hn) hx
theorem BM.le{S:St}{l N M:Nat}{ids:List UInt8→Option Nat}{F:gu}(h:BM S l N ids F)(k:N≤M):BM S l M ids F:=by
 obtain⟨es,c,h1,h2,h3⟩:=h.top;exact⟨⟨es,c,h1,by omega,h3⟩,h.some_,fun n i f q1 q2=>(h.low n i f q1 q2).le k,h.inj,h.ne⟩
theorem qt{own own':Nat→Ow}{o:Ow}{l:Nat}{ids:List UInt8→Option Nat}(h:GQ own o l ids)(k:∀i,own i=o→own' i=o):GQ own' o l ids:=⟨k _ h.1,fun n i q=>k _ (h.2 n i q)⟩
theorem sD{S S':St}{own own':Nat→Ow}{N M x bx:Nat}{l:nT}(h:Of S own N x bx l)(hNM:N≤M)(hb:∀v,lk S.box bx=some v→lk S'.box bx=some v)(ho:∀i,(own i).own x→own' i=own i)(ha:∀i v,(own i).own x→lk S.acc i=some v→lk S'.acc i=some v):Of S' own' M x bx l:=by
 obtain⟨b,ids,r,dr,h1,h2,h3,h4,h5,h6⟩:=h;have e1:∀i,own i= .b x→(own i).own x:=fun i e=>by rw[e];exact rfl
 have e2:∀i,own i= .d x→(own i).own x:=fun i e=>by rw[e];exact rfl
 have e3:∀i,own i= .au x→(own i).own x:=fun i e=>by rw[e];exact rfl
 refine⟨b,ids,r,dr,hb _ h1,(iV h2 h3 fun i v e=>ha i v (e1 i e)).le hNM,qt h3 fun i e=>(ho i (e1 i e)).trans e,h4.to fun v=>ha r v (e3 r h5),(ho r (e3 r h5)).trans h5,fun h=>?_⟩;obtain⟨d,idd,q1,q2,q3⟩:=h6 h;exact⟨d,idd,q1,(iV q2 q3 fun i v e=>ha i v (e2 i e)).le hNM,qt q3 fun i e=>(ho i (e2 i e)).trans e⟩
theorem w7{S S':St}{own own':Nat→Ow}{N M:Nat}{bs:List Nat}{Fs:List gu}(h:SW S own N bs Fs)(hNM:N≤M)(ho:∀i,own i= .sp→own' i= .sp)(ha:∀i v,own i= .sp→lk S.acc i=some v→lk S'.acc i=some v):SW S' own' M bs Fs:=
 ⟨h.1,fun j b F q1 q2=>let⟨ids,q3,q4⟩:=h.2 j b F q1 q2;⟨ids,(iV q3 q4 fun i v e=>ha i v e).le hNM,qt q4 ho⟩⟩
theorem tW{S S':St}{own own':Nat→Ow}{N M sm:Nat}{sn:Int→Int→Int→Option (List gu)}(h:RB S own N sm sn)(hNM:N≤M)(ho:∀i,own i= .sp→own' i= .sp)(ha:∀i v,own i= .sp→lk S.acc i=some v→lk S'.acc i=some v)(hs:∀v,lk S.acc sm=some v→lk S'.acc sm=some v):RB S' own' M sm sn:=by
 obtain⟨es,c,h1,h2⟩:=h;refine⟨es,c,hs _ h1,fun lv n k=>⟨(h2 lv n k).1,fun Fs hF=>?_⟩⟩;obtain⟨bs,q1,q2⟩:=(h2 lv n k).2 Fs hF;exact⟨bs,q1,w7 q2 hNM ho ha⟩
theorem MI.rz{S:St}{g:MG}{N:Nat}{c:Cf}{μ:bc}(h:MI S g N c μ){x bx:Nat}(hx:g.ls[x]? =some bx):∃l,μ.l[x]? =some l∧Of S g.own N x bx l:=by
 have hlt:=(Xc.1 hx).1;rw[h.len]at hlt;exact⟨_,Xb hlt,h.lb x bx _ hx (Xb hlt)⟩
theorem cq{α:Type}{L:List (Nat×α)}{b:Nat}{x v:α}(h:lk L b=some x):lk (up L b v) b=some v:=by rw[aE,h];rfl
theorem bF{α:Type}{o:Option α}(h:o≠none):∃x,o=some x:=XH.1 h
theorem MI.to{S S':St}{g:MG}{N M:Nat}{c:Cf}{μ:bc}(h:MI S g N c μ)(hNM:N≤M)(hb:∀i v,i∈g.bx→lk S.box i=some v→lk S'.box i=some v)(ha:∀i v,g.own i≠ .no→lk S.acc i=some v→lk S'.acc i=some v):MI S' g M c μ where
 md:=hb _ _ (by simp[MG.bx]) h.md
 up:=h.up
 len:=h.len
 nd:=h.nd
 xA:=h.xA
 lb:=fun x bx l h1 h2=>sD (h.lb x bx l h1 h2) hNM (fun v q=>hb bx v (by have:=Xd h1;simp[MG.bx,this]) q) (fun _ _=>rfl) fun i v q=>ha i v (fun e=>by rw[e]at q;exact q)
 tb:=h.tb.mono (fun i v q=>hb i v (by simp[MG.bx,q])) fun i v q=>ha i v (by rw[h.uk i q];simp)
 uk:=h.uk
 CK:=tW h.CK hNM (fun _ e=>e) (fun i v e=>ha i v (by rw[e];simp)) fun v=>ha _ v (by rw[h.lX];simp)
 lX:=h.lX
 lD:=fun i q=>by
  obtain⟨x,hx⟩:=bF (h.lD i q);rw[ha i x q hx];simp
theorem MI.le{S:St}{g:MG}{N M:Nat}{c:Cf}{μ:bc}(h:MI S g N c μ)(hNM:N≤M):MI S g M c μ:=h.to hNM (fun _ _ _ q=>q) fun _ _ _ q=>q
theorem MI.mn{S:St}{g:MG}{N:Nat}{c:Cf}{μ:bc}(h:MI S g N c μ){i:Nat}(hi:i∈g.bx):lk S.box i≠none:=by
 unfold MG.bx at hi;rcases Xn.1 hi with q|q
 ·rcases Xr.1 q with q|q
  ·rw[q,h.md];simp
  ·obtain⟨x,hx⟩:=XN.1 q;obtain⟨l,_,b,ids,r,dr,h1,_⟩:=h.rz hx;rw[h1];simp
 ·exact h.tb.mn i q
structure gz(S S':St)(g g':MG):Prop where
 m:g'.m=g.m
 box:∀i v,i∉g.bx→lk S.box i=some v→lk S'.box i=some v
 acc:∀i v,g.own i= .no→lk S.acc i=some v→lk S'.acc i=some v
 nb:∀i,i∈g'.bx→i∈g.bx∨lk S.box i=none
 na:∀i,g'.own i≠ .no→g.own i≠ .no∨lk S.acc i=none
theorem gz.refl(S:St)(g:MG):gz S S g g:=⟨rfl,fun _ _ _ q=>q,fun _ _ _ q=>q,fun _ q=> .inl q,fun _ q=> .inl q⟩
theorem gz.trans{S T U:St}{g h k:MG}(a:gz S T g h)(b:gz T U h k):gz S U g k:=by
 have kb:∀i v,i∉g.bx→lk S.box i=some v→i∉h.bx:=fun i v q1 q2 q3=>by
  rcases a.nb i q3 with q|q
  ·exact q1 q
  ·rw[q2]at q;cases q
 have ka:∀i v,g.own i= .no→lk S.acc i=some v→h.own i= .no:=fun i v q1 q2=>by
  refine Xs.1 fun q3=>?_;rcases a.na i q3 with q|q
  ·exact q q1
  ·rw[q2]at q;cases q
 refine⟨b.m.trans a.m,fun i v q1 q2=>b.box i v (kb i v q1 q2) (a.box i v q1 q2),fun i v q1 q2=>b.acc i v (ka i v q1 q2) (a.acc i v q1 q2),fun i q=>?_,fun i q=>?_⟩
 ·rcases b.nb i q with r|r
  ·exact a.nb i r
  ·refine(Zq (i∈g.bx)).imp id fun q1=>?_
   cases hx:lk S.box i with
   |none=>rfl
   |some v=>rw[a.box i v q1 hx]at r;cases r
 ·rcases b.na i q with r|r
  ·exact a.na i r
  ·refine(Zq (g.own i≠ .no)).imp id fun q1=>?_;have q1:=Xs.1 q1
   cases hx:lk S.acc i with
   |none=>rfl
   |some v=>rw[a.acc i v q1 hx]at r;cases r
theorem gz.has{S T:St}{g:MG}(h:Has S T):gz S T g g:=⟨rfl,fun i v _ q=>h.box i v q,fun i v _ q=>h.acc i v q,fun _ q=> .inl q,fun _ q=> .inl q⟩
theorem MI.has{S T:St}{g:MG}{N:Nat}{c:Cf}{μ:bc}(h:MI S g N c μ)(k:Has S T):MI T g N c μ:=h.to (Xg _) (fun i v _ q=>k.box i v q) fun i v _ q=>k.acc i v q
def wS(w0:W0)(S:St)(g:MG)(N:Nat)(c:Cf)(μ:bc)(e:Int):Prop:=∀T g',MI T g' (N+1) c μ→gz S T g g'→w0.pq (.ij 33 (dI e)) T
theorem wS.er{w0:W0}{S:St}{g:MG}{N:Nat}{c:Cf}{μ:bc}{e:Int}(h:wS w0 S g N c μ e)(hI:MI S g N c μ):mj w0 S e:=fun T hT=>h T g ((hI.has hT).le (XI N)) (.has hT)
theorem MI.BU{S S':St}{g:MG}{N M:Nat}{c:Cf}{μ:bc}(h:MI S g N c μ)(hNM:N≤M){x bx:Nat}(hx:g.ls[x]? =some bx)(own':Nat→Ow)(l':nT)
 (hb:∀i v,i≠bx→lk S.box i=some v→lk S'.box i=some v)
 (ho:∀i,g.own i≠ .no→¬(g.own i).own x→own' i=g.own i)
 (ha:∀i v,g.own i≠ .no→¬(g.own i).own x→lk S.acc i=some v→lk S'.acc i=some v)
 (hl:Of S' own' M x bx l') (hlv:∀i,own' i≠ .no→lk S'.acc i≠none):MI S' ⟨g.m,g.ls,g.θ,g.sn,own'⟩ M c ⟨μ.l.set x l',μ.r,μ.sn⟩ where
 md:=hb _ _ (fun e=>(Xu.1 h.nd).1 (e▸Xd hx)) h.md
 up:=h.up
 len:=by simp[h.len]
 nd:=h.nd
 xA:=h.xA
 lb:=fun y by_ l h1 h2=>by
  simp only at h1 h2;by_cases e:x=y
  ·subst e;rw[hx]at h1;cases h1;rw[Yd (by rw[←h.len];exact(Xc.1 hx).1)]at h2;cases h2;exact hl
  ·rw[Ye e]at h2
   have hnx:∀i,(g.own i).own y→g.own i≠ .no∧¬(g.own i).own x:=fun i q=>⟨fun r=>by rw[r]at q;exact q,fun r=>by
    cases hw:g.own i <;>rw[hw]at q r <;>simp only[Ow.own]at q r <;>omega⟩
   have hbne:by_≠bx:=fun r=>by
    have hnd:=(Xu.1 h.nd).2;rw[r]at h1;exact e ((List.getElem?_inj (Xc.1 hx).1 hnd).1 (by rw[hx,h1]))
   exact sD (h.lb y by_ l h1 h2) hNM (fun v q=>hb by_ v hbne q) (fun i q=>ho i (hnx i q).1 (hnx i q).2) fun i v q=>ha i v (hnx i q).1 (hnx i q).2
 tb:=h.tb.mono (fun i v q=>hb i v fun e=>h.xA i q (by rw[e];exact Xj _ (Xd hx))) fun i v q=>ha i v (by rw[h.uk i q];simp) (by rw[h.uk i q];exact id)
 uk:=fun i q=>by
  have:=h.uk i q;exact(ho i (by rw[this];simp) (by rw[this];exact id)).trans this
 CK:=tW h.CK hNM (fun i e=>(ho i (by rw[e];simp) (by rw[e];exact id)).trans e) (fun i v e=>ha i v (by rw[e];simp) (by rw[e];exact id)) fun v=>ha _ v (by rw[h.lX];simp) (by rw[h.lX];exact id)
 lX:=(ho _ (by rw[h.lX];simp) (by rw[h.lX];exact id)).trans h.lX
 lD:=hlv
def gv(e:Int):v8:=⟨e,0,[],[]⟩
def nY(n:Int):v8:=⟨0,n,[],[]⟩
abbrev ig:=Int ⊕ (v8×bc)
def bS(μ:bc)(o:bl)(l:nT):ig:= .inr (gv 0,⟨μ.l.set o.level.toNat l,μ.r,μ.sn⟩)
def aL(μ:bc)(x:Int):nT:=(if 0≤x then μ.l[x.toNat]? else none).getD ⟨fun _=>none,[],0,fun _=>none⟩
def ib(μ:bc)(o:bl):ig:=let l:=aL μ o.level
 .inr (gv 0,⟨μ.l.set o.level.toNat {l with has:=if l.has=o.aB then 0 else l.has},(mP μ.r o.level o.aB).1,μ.sn⟩)
def e9(μ:bc)(o:bl):ig:=let l:=aL μ o.level
 if l.has≠0 then .inl 36 else bS μ o {l with has:=o.aB,D:=l.F}
def eL(μ:bc)(o:bl):ig:=let l:=aL μ o.level
 if l.has≠o.aB then .inl 35 else bS μ o {l with has:=0,F:=l.D}
def bU(μ:bc)(o:bl):ig:=let l:=aL μ o.level
 if l.has≠o.aB then .inl 35 else bS μ o {l with has:=0}
def eZ(s:List UInt8)(m:Int):Prop:=s≠[]∧(s.length:Int)≤m
instance (s:List UInt8) (m:Int):Decidable (eZ s m):=by unfold eZ;infer_instance
def xf{α:Type}(f:List UInt8→Option α)(k:List UInt8):List UInt8→Option α:=fun j=>if j=k then none else f j
def gC(μ:bc)(o:bl)(full:Bool):ig:=let l:=aL μ o.level
 if l.has≠o.aB then .inl 35 else if¬eZ o.bucket 15 then .inl 34 else if(l.D o.bucket).isSome then .inl 38 else if full then .inl 37 else bS μ o {l with D:=fI l.D o.bucket fun _=>none}
def iz(μ:bc)(o:bl)(full:Bool):ig:=let l:=aL μ o.level
 if l.has≠o.aB then .inl 35 else if(l.D o.bucket).isNone then .inl 32 else if full then .inl 37 else bS μ o {l with D:=xf l.D o.bucket}
def mh(μ:bc)(o:bl)(full:Bool):ig:=let l:=aL μ o.level
 if l.has≠o.aB then .inl 35 else if¬(eZ o.key 16∧o.value.length≤400)then .inl 34 else
 match l.D o.bucket with
 |none=> .inl 32
 |some f=>if full then .inl 37 else bS μ o {l with D:=fI l.D o.bucket fun j=>if j=o.key then some o.value else f j}
def cI(μ:bc)(o:bl)(full:Bool):ig:=let l:=aL μ o.level
 if l.has≠o.aB then .inl 35 else
 match l.D o.bucket with
 |none=> .inl 32
 |some f=>if(f o.key).isNone then .inl 33 else if full then .inl 37 else bS μ o {l with D:=fI l.D o.bucket (xf f o.key)}
def gk(μ:bc)(o:bl)(x:Nat):gu:=if o.snap≠0 then(((μ.sn o.level o.aB o.snap).getD [])[x]?).getD fun _=>none else if(x:Int)=o.level∧(aL μ o.level).has=o.aB then(aL μ o.level).D else(aL μ x).F
noncomputable def pI(x:Nat)(p:List UInt8→Bool)(f:Option (List UInt8→Option (List UInt8))):List hY:=match f with
 |none=>[]
 |some f=>((cO f).filter p).map fun k=>⟨k,x,(f k).getD []⟩
def iB(c:Cf)(μ:bc)(o:bl)(i:Nat):List Nat:=(List.range i).filter fun x:Nat=>jl c.up (x:Int) o.level
noncomputable def bG(c:Cf)(μ:bc)(o:bl)(p:List UInt8→Bool)(i:Nat):List (List hY):=(iB c μ o i).map fun x=>pI x p (gk μ o x o.bucket)
def ft(c:Cf)(μ:bc)(o:bl)(i:Nat):Bool:=(iB c μ o i).any fun x=>(gk μ o x o.bucket).isSome
def kz:List hY→List hY→List hY
 |[],m=>m
 |l,[]=>l
 |a::l,b::m=>if qW b a then b::kz (a::l) m else a::kz l (b::m)
termination_by l m=>l.length+m.length
def OJ(rows:List (List hY))(most:Int):List hY:=(rows.foldl kz []).take most.toNat
def fc(μ:bc)(o:bl):Prop:=o.snap≠0∧o.snap∉Bg μ.r o.level o.aB
instance (μ:bc) (o:bl):Decidable (fc μ o):=by unfold fc;infer_instance
noncomputable def getM(c:Cf)(μ:bc)(o:bl):ig:=
 if fc μ o then .inl 39 else if ft c μ o μ.l.length=false then .inl 32 else
 let rows:=(bG c μ o (fun k=>decide (k=o.key)) μ.l.length).flatten
 if rows=[]then .inl 33 else .inr (⟨0,0,rows,[]⟩,μ)
noncomputable def fw(c:Cf)(μ:bc)(o:bl):ig:=
 if fc μ o then .inl 39 else if ft c μ o μ.l.length=false then .inl 32 else
 .inr (⟨0,0,OJ (bG c μ o (fun k=>!xF k o.key) μ.l.length) (qv o.n),[]⟩,μ)
def ja(sn:Int→Int→Int→Option (List gu))(lv n k:Int)(v:Option (List gu)):Int→Int→Int→Option (List gu):=fun a b d=>if a=lv∧b=n∧d=k then v else sn a b d
def kK(μ:bc)(o:bl):ig:= .inr (nY (oy μ.r o.level o.aB).2,⟨μ.l,(oy μ.r o.level o.aB).1,ja μ.sn o.level o.aB (oy μ.r o.level o.aB).2 (some (μ.l.map nT.F))⟩)
def db(μ:bc)(o:bl):ig:=if(mo μ.r o.level o.aB o.snap).2=false then .inl 39 else .inr (gv 0,⟨μ.l,(mo μ.r o.level o.aB o.snap).1,ja μ.sn o.level o.aB o.snap none⟩)
def ia(c:Cf)(μ:bc)(o:bl):ig:=if jl c.up o.label o.level=false then .inl 31 else .inr (gv 0,μ)
def fX(c:Cf)(μ:bc)(o:bl):ig:=if jl c.up o.label o.level=false then .inl 31 else .inr (⟨0,0,[],(((aL μ o.label).au).drop o.n.toNat).take 50⟩,μ)
def fA(dg:List UInt8→Int)(c:Cf)(μ:bc)(o:bl)(full:Bool):ig:=
 if¬(jl c.up o.label o.level=true∧jl c.up o.eX o.level=true∧(⟨o.level,o.label,o.eX⟩:G)∈c.gr)then .inl 31 else
 let t:=aL μ o.eX
 if t.has≠0 then .inl 36 else
 match(aL μ o.label).F o.bucket with
 |none=> .inl 32
 |some f=>match f o.key with
  |none=> .inl 33
  |some v=>match t.F o.bucket with
   |none=> .inl 32
   |some g=>if full then .inl 37 else .inr (nY t.au.length,⟨μ.l.set o.eX.toNat {t with F:=fI t.F o.bucket (fun j=>if j=o.key then some v else g j),au:=t.au++[⟨o.level,o.label,o.eX,o.bucket,o.key,dg v⟩]},μ.r,μ.sn⟩)
def bd(μ:bc)(o:bl)(full:Bool):bc:=⟨(List.range μ.l.length).map fun x:Nat=>let l:=aL μ x
 {l with has:=0,F:=if(x:Int)=o.level∧0<o.aB∧l.has=o.aB∧full=false then l.D else l.F},[],fun _ _ _=>none⟩
noncomputable def ed(dg:List UInt8→Int)(c:Cf)(μ:bc)(o:bl)(full:Bool):ig:=
 if o.kind=1 then ib μ o else if o.kind=2 then e9 μ o else if o.kind=3 then eL μ o else if o.kind=4 then bU μ o else if o.kind=5 then gC μ o full else if o.kind=6 then iz μ o full else
 if o.kind=7 then mh μ o full else if o.kind=8 then cI μ o full else if o.kind=9 then getM c μ o else if o.kind=10 then fw c μ o else if o.kind=11 then kK μ o else if o.kind=12 then db μ o else
 if o.kind=13 then ia c μ o else if o.kind=14 then fX c μ o else fA dg c μ o full
def DW(μ:bc):ig→v8×bc
 | .inl e=>(gv e,μ)
 | .inr p=>p
noncomputable def eK(dg:List UInt8→Int)(c:Cf)(μ:bc)(o:bl)(full:Bool):v8×bc:=
 if uo μ.l.length o=false then(gv 40,μ)else if o.kind=0 then(nY (eu μ.r o.level).2,⟨μ.l,(eu μ.r o.level).1,μ.sn⟩)else if o.kind=16 then(gv 0,bd μ o full)else
 if¬cX μ.r o.level o.aB<μ.r.length then(gv 30,μ)else DW μ (ed dg c μ o full)
end Go.Proofs.YtoepfmhnapedoaaGreatDoor
namespace Go.Proofs.YtoepfmhnapedoaaGreatDoor
open Aml Go Rn Lat Grs
structure lV(S:St)(g:MG)(w own:Nat)(o:bl)(full:Bool):Prop where
 k:lk S.box w=some (qY g.m own o full)
 l:g.ls[o.level.toNat]? =some own
 p:0≤o.level
 f:w∉g.bx
 s:o.aB≠0
def ku(S:St)(g:MG)(M:Nat)(c:Cf)(out:ig)(d:DV)(S':St):Prop:=∃r μ' g',out= .inr (r,μ')∧Wk d (Hx r)∧MI S' g' M c μ'∧gz S S' g g'
theorem gZ:Wk HH (Hx (gv 0)):= .agg ⟨.refl _,.refl _,.nil _ _ _,.refl _,.refl _,.refl _,.refl _,.nil _ _ _,trivial⟩
theorem bD{μ:bc}{x:Int}{l:nT}(h:μ.l[x.toNat]? =some l)(hp:0≤x):aL μ x=l:=by unfold aL;rw[if_pos hp,h];rfl
theorem lV.bx{S:St}{g:MG}{w own:Nat}{o:bl}{full:Bool}(h:lV S g w own o full):own∈g.bx:=by
 have:=Xd h.l;simp[MG.bx,this]
theorem lV.ne{S:St}{g:MG}{w own:Nat}{o:bl}{full:Bool}(h:lV S g w own o full):own≠w:=fun e=>h.f (e▸h.bx)
theorem gz.BU{S S':St}{g:MG}{bx:Nat}(hx:bx∈g.bx)(own':Nat→Ow)(hb:∀i v,i≠bx→lk S.box i=some v→lk S'.box i=some v)(ha:∀i v,g.own i= .no→lk S.acc i=some v→lk S'.acc i=some v)(na:∀i,own' i≠ .no→g.own i≠ .no∨lk S.acc i=none):gz S S' g ⟨g.m,g.ls,g.θ,g.sn,own'⟩:=
 ⟨rfl,fun i v q1 q2=>hb i v (fun e=>q1 (e▸hx)) q2,ha,fun i q=> .inl q,na⟩
theorem iN{S S':St}{l N:Nat}{ids:List UInt8→Option Nat}{F:gu}(h:BM S l N ids F)(e:S'.acc=S.acc):BM S' l N ids F:=h.mono fun c x _ q=>by rw[e];exact q
theorem qq{S:St}{own:Nat→Ow}{N x:Nat}{l:nT}{dr:DV}{aB:Int}(h6:l.has≠0→∃d idd,dr= .mp d∧BM S d N idd l.D∧GQ own (.d x) d idd)(hs:aB≠0):∃d idd,l.has=aB→dr= .mp d∧BM S d N idd l.D∧GQ own (.d x) d idd:=by
 by_cases e:l.has=aB
 ·obtain⟨d,idd,h⟩:=h6 (by rw[e];exact hs);exact⟨d,idd,fun _=>h⟩
 ·exact⟨0,fun _=>none,fun q=>absurd q e⟩
theorem hZ{S:St}{l N:Nat}{ids:List UInt8→Option Nat}{F:gu}(h:BM S l N ids F){n:List UInt8}{i:Nat}(hi:ids n=some i):∃f,F n=some f:=bF fun q=>by rw[(h.some_ n).2 q]at hi;cases hi
section
variable {w0:W0} {S:St} {g:MG} {N:Nat} {c:Cf} {μ:bc} {w own:Nat} {o:bl} {full:Bool}
theorem AN(hI:MI S g N c μ)(hw:lV S g w own o full)(hq:∀e,bU μ o= .inl e→wS w0 S g N c μ e):aa Tryz.prog w0 72 [bg w] S (ku S g (N+1) c (bU μ o)):=by
 obtain⟨l,hl,b,ids,r,dr,h1,h2,h3,h4,h5,h6⟩:=hI.rz hw.l;have el:=bD hl hw.p;refine(Cd w0 hw.k h1 fun hh=>(hq 35 (by unfold bU;rw[el];exact if_pos hh)).er hI).mono ?_;rintro d S' ⟨hh,rfl,rfl⟩;refine⟨gv 0,_,⟨g.m,g.ls,g.θ,g.sn,g.own⟩,by unfold bU bS;rw[el];exact if_neg (fun q=>q hh),gZ,?_,?_⟩
 ·refine hI.BU (by omega) hw.l g.own {l with has:=0} (fun i v q1 q2=>by show lk (up _ _ _) _=_;rw[ab (Yj q1)];exact q2) (fun _ _ _=>rfl) (fun i v _ _ q=>q) ⟨b,ids,r,dr,cq h1,iN (h2.le (XI N)) rfl,h3,h4,h5,fun q=>absurd rfl q⟩ hI.lD
 ·exact .BU hw.bx _ (fun i v q1 q2=>by show lk (up _ _ _) _=_;rw[ab (Yj q1)];exact q2) (fun i v _ q=>q) fun i q=> .inl q
def yx(x:Nat)(own:Nat→Ow):Nat→Ow:=fun i=>match own i with
 | .d y=>if y=x then .b x else .d y
 |o=>o
theorem gA{x:Nat}{own:Nat→Ow}{i:Nat}(h:own i≠ .d x):yx x own i=own i:=by
 unfold yx;cases hi:own i <;>try rfl
 rename_i y;simp only;rw[if_neg];rintro rfl;exact h hi
theorem pV{x:Nat}{own:Nat→Ow}{i:Nat}(h:own i= .d x):yx x own i= .b x:=by unfold yx;rw[h];simp
theorem td{x:Nat}{own:Nat→Ow}{i:Nat}:yx x own i≠ .no↔own i≠ .no:=by
 by_cases h:own i= .d x
 ·rw[pV h,h];simp
 ·rw[gA h]
theorem J4(hI:MI S g N c μ)(hw:lV S g w own o full)(hq:∀e,eL μ o= .inl e→wS w0 S g N c μ e):aa Tryz.prog w0 71 [bg w] S (ku S g (N+1) c (eL μ o)):=by
 obtain⟨l,hl,b,ids,r,dr,h1,h2,h3,h4,h5,h6⟩:=hI.rz hw.l;have el:=bD hl hw.p;obtain⟨d,idd,hd⟩:=qq h6 hw.s;refine(JK w0 hw.k h1 (fun hh=>(hd hh).1) (eq_false hw.ne) fun hh=>(hq 35 (by unfold eL;rw[el];exact if_pos hh)).er hI).mono ?_;rintro _ S' ⟨hh,rfl,rfl⟩;obtain⟨rfl,hB,hO⟩:=hd hh;refine⟨gv 0,_,⟨g.m,g.ls,g.θ,g.sn,yx o.level.toNat g.own⟩,by unfold eL bS;rw[el];exact if_neg (fun q=>q hh),gZ,?_,?_⟩
 ·refine hI.BU (by omega) hw.l _ {l with has:=0,F:=l.D} (fun i v q1 q2=>by show lk (up _ _ _) _=_;rw[ab (Yj q1)];exact q2) (fun i _ q=>gA fun e=>q (by rw[e];exact rfl)) (fun i v _ _ q=>q) ⟨d,idd,r,.mp d,cq h1,iN (hB.le (XI N)) rfl,⟨pV hO.1,fun n i q=>pV (hO.2 n i q)⟩,h4,(gA (by rw[h5];simp)).trans h5,fun q=>absurd rfl q⟩ fun i q=>hI.lD i (td.1 q)
 ·exact .BU hw.bx _ (fun i v q1 q2=>by show lk (up _ _ _) _=_;rw[ab (Yj q1)];exact q2) (fun i v _ q=>q) fun i q=> .inl (td.1 q)
theorem sX(hI:MI S g N c μ)(hw:lV S g w own o full){l:nT}(hl:μ.l[o.level.toNat]? =some l){b r d:Nat}{ids:List UInt8→Option Nat}(h1:lk S.box own=some (lC b (.acc r l.au.length) l.has (.mp d)))(h2:BM S b N ids l.F)(h3:GQ g.own (.b o.level.toNat) b ids)(h4:OL S r l.au)(h5:g.own r= .au o.level.toNat)
 {S':St} (hbx:S'.box=S.box) (own':Nat→Ow) {D:gu} {idd:List UInt8→Option Nat} (hB:BM S' d (N+1) idd D) (hO:GQ own' (.d o.level.toNat) d idd)
 (hk:∀i v,g.own i≠ .d o.level.toNat→lk S.acc i=some v→lk S'.acc i=some v) (ho:∀i,g.own i≠ .no→own' i=g.own i) (hn:∀i,own' i≠ .no→lk S'.acc i≠none∧(g.own i≠ .no∨lk S.acc i=none)):MI S' ⟨g.m,g.ls,g.θ,g.sn,own'⟩ (N+1) c ⟨μ.l.set o.level.toNat {l with D:=D},μ.r,μ.sn⟩∧gz S S' g ⟨g.m,g.ls,g.θ,g.sn,own'⟩:=by
 refine⟨?_,?_⟩
 ·refine hI.BU (by omega) hw.l own' {l with D:=D} (fun i v _ q2=>by rw[hbx];exact q2) (fun i q _=>ho i q) (fun i v _ q1 q2=>hk i v (fun e=>q1 (by rw[e];exact rfl)) q2) ⟨b,ids,r,.mp d,by rw[hbx];exact h1,(iV h2 h3 fun i v e q=>hk i v (by rw[e];simp) q).le (by omega),qt h3 fun i e=>(ho i (by rw[e];simp)).trans e,h4.to fun v=>hk r v (by rw[h5];simp),(ho r (by rw[h5];simp)).trans h5,fun _=>⟨d,idd,rfl,hB,hO⟩⟩ fun i q=>(hn i q).1
 ·exact .BU hw.bx _ (fun i v _ q2=>by rw[hbx];exact q2) (fun i v e q=>hk i v (by rw[e];simp) q) fun i q=>(hn i q).2
theorem gU{S:St}{i j:Nat}{o:Ob}(h:lk S.acc j≠none):lk (up S.acc i o) j≠none:=eG h
theorem Sh(hI:MI S g N c μ)(hw:lV S g w own o full)(hq:∀e,mh μ o full= .inl e→wS w0 S g N c μ e):aa Tryz.prog w0 75 [bg w] S (ku S g (N+1) c (mh μ o full)):=by
 obtain⟨l,hl,b,ids,r,dr,h1,h2,h3,h4,h5,h6⟩:=hI.rz hw.l;have el:=bD hl hw.p;obtain⟨d,idd,hd⟩:=qq h6 hw.s;refine(Qe w0 hw.k h1 (fun hh=>⟨(hd hh).1,(hd hh).2.1⟩) (fun hh=>(hq 35 ?_).er hI) (fun hh hk=>(hq 34 ?_).er hI) (fun hh hk hi=>(hq 32 ?_).er hI) (fun hh hk hi hf=>(hq 37 ?_).er hI)).mono ?_
 ·unfold mh;rw[el];exact if_pos hh
 ·unfold mh eZ;rw[el];simp only;rw[if_neg (fun q=>q hh),if_pos (fun q=>hk ⟨q.1.1,q.1.2,q.2⟩)]
 ·unfold mh eZ;rw[el];simp only;rw[if_neg (fun q=>q hh),if_neg (fun q=>q ⟨⟨hk.1,hk.2.1⟩,hk.2.2⟩),((hd hh).2.1.some_ _).1 hi]
 ·obtain⟨i,hi⟩:=bF hi;obtain⟨f,hf'⟩:=hZ (hd hh).2.1 hi;unfold mh eZ;rw[el];simp only;rw[if_neg (fun q=>q hh),if_neg (fun q=>q ⟨⟨hk.1,hk.2.1⟩,hk.2.2⟩),hf',hf];simp
 ·rintro _ S' ⟨hh,hk,hf,i,es,cl,hi,g1,rfl,rfl⟩;obtain⟨rfl,hB,hO⟩:=hd hh;obtain⟨f,hf'⟩:=hZ hB hi;have hB':=Dh hB hi hf' g1 o.key o.value;have oi:=hO.2 _ _ hi;obtain⟨k1,k2⟩:=sX hI hw hl h1 h2 h3 h4 h5 (S':=⟨S.box,up S.acc i _⟩) rfl g.own hB' hO (fun j v e q=>by show lk (up _ _ _) _=_;rw[ab (fun q=>e (by rw[←q];exact oi))];exact q) (fun _ _=>rfl) fun j q=>⟨gU (hI.lD j q),.inl q⟩;exact⟨gv 0,_,_,by unfold mh eZ bS;rw[el];simp only;rw[if_neg (fun q=>q hh),if_neg (fun q=>q ⟨⟨hk.1,hk.2.1⟩,hk.2.2⟩),hf',hf];rfl,gZ,k1,k2⟩
theorem P7(hI:MI S g N c μ)(hw:lV S g w own o full)(hq:∀e,iz μ o full= .inl e→wS w0 S g N c μ e):aa Tryz.prog w0 74 [bg w] S (ku S g (N+1) c (iz μ o full)):=by
 obtain⟨l,hl,b,ids,r,dr,h1,h2,h3,h4,h5,h6⟩:=hI.rz hw.l;have el:=bD hl hw.p;obtain⟨d,idd,hd⟩:=qq h6 hw.s;refine(Q7 w0 hw.k h1 (fun hh=>⟨(hd hh).1,(hd hh).2.1⟩) (fun hh=>(hq 35 ?_).er hI) (fun hh hi=>(hq 32 ?_).er hI) (fun hh hi hf=>(hq 37 ?_).er hI)).mono ?_
 ·unfold iz;rw[el];exact if_pos hh
 ·unfold iz;rw[el];simp only;rw[if_neg (fun q=>q hh),((hd hh).2.1.some_ _).1 hi];rfl
 ·obtain⟨i,hi⟩:=bF hi;obtain⟨f,hf'⟩:=hZ (hd hh).2.1 hi;unfold iz;rw[el];simp only;rw[if_neg (fun q=>q hh),hf',hf];rfl
 ·rintro _ S' ⟨hh,hf,i,es,cl,hi,g1,rfl,rfl⟩;obtain⟨rfl,hB,hO⟩:=hd hh;obtain⟨f,hf'⟩:=hZ hB hi;have hB':=(HS hB g1 o.bucket).le (XI N)
  obtain⟨k1,k2⟩:=sX hI hw hl h1 h2 h3 h4 h5 (S':=⟨S.box,up S.acc d _⟩) rfl g.own hB' ⟨hO.1,fun n j q=>by
   simp only at q;by_cases e:n=o.bucket
   ·rw[if_pos e]at q;cases q
   ·rw[if_neg e]at q;exact hO.2 n j q⟩ (fun j v e q=>by show lk (up _ _ _) _=_;rw[ab (fun q=>e (by rw[←q];exact hO.1))];exact q) (fun _ _=>rfl) fun j q=>⟨gU (hI.lD j q),.inl q⟩
  exact⟨gv 0,_,_,by unfold iz bS;rw[el];simp only;rw[if_neg (fun q=>q hh),hf',hf];rfl,gZ,k1,k2⟩
theorem Ir(hI:MI S g N c μ)(hw:lV S g w own o full)(hq:∀e,cI μ o full= .inl e→wS w0 S g N c μ e):aa Tryz.prog w0 76 [bg w] S (ku S g (N+1) c (cI μ o full)):=by
 obtain⟨l,hl,b,ids,r,dr,h1,h2,h3,h4,h5,h6⟩:=hI.rz hw.l;have el:=bD hl hw.p;obtain⟨d,idd,hd⟩:=qq h6 hw.s;refine(I1 w0 hw.k h1 (fun hh=>⟨(hd hh).1,(hd hh).2.1⟩) (fun hh=>(hq 35 ?_).er hI) (fun hh hi=>(hq 32 ?_).er hI) (fun hh f hf hv=>(hq 33 ?_).er hI) (fun hh f v hf hv hfl=>(hq 37 ?_).er hI)).mono ?_
 ·unfold cI;rw[el];exact if_pos hh
 ·unfold cI;rw[el];simp only;rw[if_neg (fun q=>q hh),((hd hh).2.1.some_ _).1 hi]
 ·unfold cI;rw[el];simp only;rw[if_neg (fun q=>q hh),hf];simp only;rw[hv];rfl
 ·unfold cI;rw[el];simp only;rw[if_neg (fun q=>q hh),hf];simp only;rw[hv,hfl];rfl
 ·rintro _ S' ⟨hh,hfl,i,es,cl,f,v,hi,hf,hv,g1,rfl,rfl⟩;obtain⟨rfl,hB,hO⟩:=hd hh;have hB':=(Cs hB hi hf g1 o.key).le (XI N);have oi:=hO.2 _ _ hi;obtain⟨k1,k2⟩:=sX hI hw hl h1 h2 h3 h4 h5 (S':=⟨S.box,up S.acc i _⟩) rfl g.own hB' hO (fun j v e q=>by show lk (up _ _ _) _=_;rw[ab (fun q=>e (by rw[←q];exact oi))];exact q) (fun _ _=>rfl) fun j q=>⟨gU (hI.lD j q),.inl q⟩;exact⟨gv 0,_,_,by unfold cI bS;rw[el];simp only;rw[if_neg (fun q=>q hh),hf];simp only;rw[hv,hfl];rfl,gZ,k1,k2⟩
theorem QF(hI:MI S g N c μ)(hw:lV S g w own o full)(hq:∀e,gC μ o full= .inl e→wS w0 S g N c μ e):aa Tryz.prog w0 73 [bg w] S (ku S g (N+1) c (gC μ o full)):=by
 obtain⟨l,hl,b,ids,r,dr,h1,h2,h3,h4,h5,h6⟩:=hI.rz hw.l;have el:=bD hl hw.p;obtain⟨d,idd,hd⟩:=qq h6 hw.s;refine(PO w0 hw.k h1 (fun hh=>⟨(hd hh).1,(hd hh).2.1⟩) (fun hh=>(hq 35 ?_).er hI) (fun hh hk=>(hq 34 ?_).er hI) (fun hh hk hi=>(hq 38 ?_).er hI) (fun hh hk hi hf=>(hq 37 ?_).er hI)).mono ?_
 ·unfold gC;rw[el];exact if_pos hh
 ·unfold gC eZ;rw[el];simp only;rw[if_neg (fun q=>q hh),if_pos hk]
 ·obtain⟨i,hi⟩:=bF hi;obtain⟨f,hf'⟩:=hZ (hd hh).2.1 hi;unfold gC eZ;rw[el];simp only;rw[if_neg (fun q=>q hh),if_neg (fun q=>q hk),hf'];rfl
 ·unfold gC eZ;rw[el];simp only;rw[if_neg (fun q=>q hh),if_neg (fun q=>q hk),((hd hh).2.1.some_ _).1 hi,hf];rfl
 ·rintro _ S' ⟨hh,hk,hf,hi,ln,es,cl,g1,rfl,rfl⟩;obtain⟨rfl,hB,hO⟩:=hd hh;have hln:=ak ln;have hB':=HT hB g1 o.bucket hln;have hno:g.own ln.n= .no:=Xs.1 fun q=>hI.lD _ q hln
  obtain⟨k1,k2⟩:=sX hI hw hl h1 h2 h3 h4 h5 (S':=⟨S.box,(ln.n,.xo (.mp .str [] 0))::up S.acc d _⟩) rfl (fun i=>if i=ln.n then .d o.level.toNat else g.own i) hB' ⟨by
   simp only;rw[if_neg (fun e=>by rw[e,hln]at g1;cases g1)];exact hO.1,fun n j q=>by
   simp only at q ⊢;by_cases e:n=o.bucket
   ·rw[if_pos e]at q;cases q;rw[if_pos rfl]
   ·rw[if_neg e]at q;split
    ·rfl
    ·exact hO.2 n j q⟩ (fun j v e q=>by
     show lk (_::_) _=_;simp only[lk];rw[if_neg (fun r=>by rw[←r,hln]at q;cases q),ab (fun q=>e (by rw[←q];exact hO.1))];exact q) (fun i q=>by
     try simp only
     rw[if_neg (fun e=>q (by rw[e];exact hno))]) fun j q=>by
    by_cases e:j=ln.n
    ·refine⟨?_,.inr (by rw[e];exact hln)⟩;show lk (_::_) _≠none;rw[e];simp[lk]
    ·try simp only at q
     rw[if_neg e]at q;refine⟨?_,.inl q⟩;show lk (_::_) _≠none;simp only[lk];rw[if_neg (fun r=>e r.symm)];exact gU (hI.lD j q)
  refine⟨gv 0,_,_,?_,gZ,k1,k2⟩;unfold gC eZ bS;rw[el];simp only;rw[if_neg (fun q=>q hh),if_neg (fun q=>q hk),(hB.some_ _).1 hi,hf];rfl
theorem N7(hI:MI S g N c μ)(hN:N≤1048576)(hw:lV S g w own o full)(hq:∀e,e9 μ o= .inl e→wS w0 S g N c μ e):aa Tryz.prog w0 70 [bg w] S (ku S g (N+1) c (e9 μ o)):=by
 obtain⟨l,hl,b,ids,r,dr,h1,h2,h3,h4,h5,h6⟩:=hI.rz hw.l;have el:=bD hl hw.p;refine(L2 w0 hw.k h1 (eq_false hw.ne) h2 hN fun hh=>(hq 36 (by unfold e9;rw[el];exact if_pos hh)).er hI).mono ?_;rintro _ S' ⟨h0,d,idd,rfl,hB,hbx,hac,hd0,hid⟩;have hold:∀i,g.own i≠ .no→∃v,lk S.acc i=some v:=fun i q=>bF (hI.lD i q)
 have hE:∃own':Nat→Ow,(∀i,lk S.acc i=none→(i=d∨∃n,idd n=some i)→own' i= .d o.level.toNat)∧(∀i,g.own i≠ .no→own' i=g.own i)∧∀i,own' i≠ .no→g.own i≠ .no∨(lk S.acc i=none∧(i=d∨∃n,idd n=some i)):=by
  classical
  refine⟨fun i=>if lk S.acc i=none∧(i=d∨∃n,idd n=some i)then .d o.level.toNat else g.own i,fun i q1 q2=>if_pos ⟨q1,q2⟩,fun i q=>if_neg fun r=>?_,fun i q=>?_⟩
  ·exact hI.lD i q r.1
  ·simp only at q;split at q
   ·rename_i q2;exact .inr q2
   ·exact .inl q
 obtain⟨own',o1,o2,o3⟩:=hE;refine⟨gv 0,_,⟨g.m,g.ls,g.θ,g.sn,own'⟩,by unfold e9 bS;rw[el];exact if_neg (fun q=>q h0),gZ,?_,?_⟩
 ·refine hI.BU (by omega) hw.l own' {l with has:=o.aB,D:=l.F} (fun i v q1 q2=>by rw[hbx,ab (Yj q1)];exact q2) (fun i q _=>o2 i q) (fun i v _ _ q=>hac i v q) ⟨b,ids,r,.mp d,by rw[hbx];exact cq h1,(h2.mono fun i v _ q=>hac i v q).le (by omega),qt h3 fun i e=>(o2 i (by rw[e];simp)).trans e,h4.to fun v=>hac r v,(o2 r (by rw[h5];simp)).trans h5,fun _=>⟨d,idd,rfl,hB.le (by omega),o1 d hd0 (.inl rfl),fun n i q=>o1 i (hid n i q) (.inr ⟨n,q⟩)⟩⟩ fun i q=>?_;rcases o3 i q with q|⟨q1,rfl|⟨n,q2⟩⟩
  ·obtain⟨v,hv⟩:=hold i q;rw[hac i v hv];simp
  ·exact hB.lk
  ·obtain⟨f,hf⟩:=hZ hB q2;exact(hB.low n i f q2 hf).lk
 ·exact .BU hw.bx _ (fun i v q1 q2=>by rw[hbx,ab (Yj q1)];exact q2) (fun i v _ q=>hac i v q) fun i q=>(o3 i q).imp id fun q=>q.1
end
end Go.Proofs.YtoepfmhnapedoaaGreatDoor
namespace Go.Proofs.YtoepfmhnapedoaaGreatDoor
open Aml Go Rn Lat Grs
theorem MI.O6{S S':St}{g:MG}{N M:Nat}{c:Cf}{μ:bc}(h:MI S g N c μ)(hNM:N≤M){θ':ec}{r':List RH}(hT:TI S' θ' r')(hF:vD S S' g.θ θ'):∃own',MI S' ⟨g.m,g.ls,θ',g.sn,own'⟩ M c ⟨μ.l,r',μ.sn⟩∧gz S S' g ⟨g.m,g.ls,θ',g.sn,own'⟩∧(∀i,g.own i≠ .tb→g.own i≠ .no→own' i=g.own i)∧∀i,g.own i= .tb∨g.own i= .no→own' i= .tb∨own' i= .no:=by
 classical
 have hnt:∀i,g.own i≠ .tb→g.own i≠ .no→i∉θ'.ax:=fun i q1 q2 q3=>by
  rcases hF.na i q3 with q|q
  ·exact q1 (h.uk i q)
  ·exact h.lD i q2 q
 have hnt0:∀i,g.own i≠ .tb→i∉g.θ.ax:=fun i q1 q2=>q1 (h.uk i q2);have hac:∀i v,g.own i≠ .tb→lk S.acc i=some v→lk S'.acc i=some v:=fun i v q=>hF.acc i v (hnt0 i q);have hb:∀i v,i∈g.m::g.ls→lk S.box i=some v→lk S'.box i=some v:=fun i v q=>hF.box i v fun r=>h.xA i r q;let own':Nat→Ow:=fun i=>if i∈θ'.ax then .tb else if g.own i= .tb then .no else g.own i
 have ho:∀i,g.own i≠ .tb→g.own i≠ .no→own' i=g.own i:=fun i q1 q2=>by
  show(if _ then _ else _)=_;rw[if_neg (hnt i q1 q2),if_neg q1]
 have hno:∀i,own' i≠ .no→i∈θ'.ax∨(i∉θ'.ax∧g.own i≠ .tb∧g.own i≠ .no):=fun i q=>by
  have q:(if i∈θ'.ax then Ow.tb else if g.own i= .tb then .no else g.own i)≠ .no:=q;by_cases e:i∈θ'.ax
  ·exact .inl e
  ·rw[if_neg e]at q;by_cases e2:g.own i= .tb
   ·rw[if_pos e2]at q;exact absurd rfl q
   ·rw[if_neg e2]at q;exact .inr ⟨e,e2,q⟩
 refine⟨own',⟨?_,h.up,h.len,h.nd,?_,?_,hT,?_,?_,?_,?_⟩,⟨rfl,?_,?_,?_,?_⟩,ho,?_⟩
 ·show lk S'.box g.m=some (DK c g.ls θ'.t g.sn);rw[hF.t];exact hb _ _ (Xm ..) h.md
 ·intro i hi q;rcases hF.nb i hi with r|r
  ·exact h.xA i r q
  ·exact h.mn (i:=i) (by unfold MG.bx;exact XX _ q) r
 ·intro x bx l h1 h2;refine sD (h.lb x bx l h1 h2) hNM (fun v q=>hb bx v (Xj _ (Xd h1)) q) (fun i q=>ho i ?_ ?_) fun i v q=>hac i v ?_
  ·intro r;rw[r]at q;exact q
  ·intro r;rw[r]at q;exact q
  ·intro r;rw[r]at q;exact q
 ·intro i hi;show(if _ then _ else _)=_;rw[if_pos hi]
 ·exact tW h.CK hNM (fun i e=>(ho i (by rw[e];simp) (by rw[e];simp)).trans e) (fun i v e=>hac i v (by rw[e];simp)) fun v=>hac _ v (by rw[h.lX];simp)
 ·exact(ho _ (by rw[h.lX];simp) (by rw[h.lX];simp)).trans h.lX
 ·intro i q;rcases hno i q with r|⟨_,r1,r2⟩
  ·exact hT.uE i r
  ·obtain⟨v,hv⟩:=bF (h.lD i r2);rw[hac i v r1 hv];simp
 ·intro i v q;exact hF.box i v fun r=>q (by unfold MG.bx;exact Yy _ r)
 ·intro i v q;exact hac i v (by rw[q];simp)
 ·intro i q;unfold MG.bx at q ⊢;rcases Xn.1 q with r|r
  ·exact .inl (XX _ r)
  ·exact(hF.nb i r).imp (fun q=>Yy _ q) id
 ·intro i q;rcases hno i q with r|⟨_,_,r⟩
  ·exact(hF.na i r).imp (fun q=>by rw[h.uk i q];simp) id
  ·exact .inl r
 ·intro i q;show(if _ then _ else _)=_∨(if _ then _ else _)=_;by_cases e:i∈θ'.ax
  ·rw[if_pos e];exact .inl rfl
  ·rw[if_neg e];right;rcases q with q|q
   ·rw[if_pos q]
   ·rw[if_neg (by rw[q];simp),q]
section
variable {w0:W0} {S:St} {g:MG} {N:Nat} {c:Cf} {μ:bc} {w own:Nat} {o:bl} {full:Bool}
theorem Nf(hI:MI S g N c μ)(hw:lV S g w own o full):aa Tryz.prog w0 69 [bg w] S (ku S g (N+1) c (ib μ o)):=by
 obtain⟨l,hl,b,ids,r,dr,h1,h2,h3,h4,h5,h6⟩:=hI.rz hw.l;have el:=bD hl hw.p;have hm:own≠g.m:=fun e=>(Xu.1 hI.nd).1 (by rw[←e];exact Xd hw.l);have hθ:own∉g.θ.bx:=fun q=>hI.xA own q (Xj _ (Xd hw.l));refine(L8 w0 hw.k h1 hI.md hI.tb (eq_false hw.ne) (eq_false hm) hθ).mono ?_;rintro _ S' ⟨rfl,hT,hF⟩
 have k1:=hI.BU (S':=⟨up S.box own (lC b (.acc r l.au.length) (if l.has=o.aB then 0 else l.has) dr),S.acc⟩) (XI N) hw.l g.own {l with has:=if l.has=o.aB then 0 else l.has} (fun i v q1 q2=>by show lk (up _ _ _) _=_;rw[ab (Yj q1)];exact q2) (fun _ _ _=>rfl) (fun i v _ _ q=>q) ⟨b,ids,r,dr,cq h1,iN (h2.le (XI N)) rfl,h3,h4,h5,fun q=>by
  simp only at q;split at q
  ·exact absurd rfl q
  ·obtain⟨d,idd,q1,q2,q3⟩:=h6 q;exact⟨d,idd,q1,iN (q2.le (XI N)) rfl,q3⟩⟩ hI.lD
 have k2:gz S ⟨up S.box own (lC b (.acc r l.au.length) (if l.has=o.aB then 0 else l.has) dr),S.acc⟩ g ⟨g.m,g.ls,g.θ,g.sn,g.own⟩:= .BU hw.bx _ (fun i v q1 q2=>by show lk (up _ _ _) _=_;rw[ab (Yj q1)];exact q2) (fun i v _ q=>q) fun i q=> .inl q;obtain⟨own',k3,k4,_,_⟩:=k1.O6 (Xg _) hT hF;exact⟨gv 0,_,_,by unfold ib;rw[el],gZ,k3,k2.trans k4⟩
end
end Go.Proofs.YtoepfmhnapedoaaGreatDoor
namespace Go.Proofs.YtoepfmhnapedoaaGreatDoor
open Aml Go Rn Lat Grs
theorem LN(w0:W0)(l:List Int)(s:Int)(hl:l.length≤4611686018427387904)(S:St):aa Tryz.prog w0 182 [dL l,dI s] S (fun d S'=>∃i:Int,d=dI i∧(0≤i↔s∈l)∧S'=S):=by
 refine jj [] mx Tryz.func182 rfl rfl (by kernel_rfl) ?_;simp(maxDischargeDepth:=12) (maxSteps:=1000000) -implicitDefEqProofs only[Tryz.ntmps182,go_sem,Nat.reduceAdd,Nat.reduceSub,Nat.reduceMul,Nat.reduceLeDiff,Nat.reduceEqDiff,Nat.reduceGT,Nat.reduceBEq,reduceCtorEq,↓reduceIte,Int.reduceToNat,Int.reduceLE,Int.reduceLT,Int.reduceNe,Int.reduceEq];refine aX [] l.length [0,1,7,8] (fun a=>[(8,dI a)]) (fun _=>S) (fun a=>s∉l.take a) mx (by kernel_rfl) ?_ ?_
 ·simp(maxDischargeDepth:=12) (maxSteps:=1000000) -implicitDefEqProofs only[go_sem,Nat.reduceAdd,Nat.reduceSub,Nat.reduceMul,Nat.reduceLeDiff,Nat.reduceEqDiff,Nat.reduceGT,Nat.reduceBEq,reduceCtorEq,↓reduceIte,Int.reduceToNat,Int.reduceLE,Int.reduceLT,Int.reduceNe,Int.reduceEq];exact YB
 ·intro a ha hA;simp(maxDischargeDepth:=12) (maxSteps:=1000000) -implicitDefEqProofs only[go_sem,Nat.reduceAdd,Nat.reduceSub,Nat.reduceMul,Nat.reduceLeDiff,Nat.reduceEqDiff,Nat.reduceGT,Nat.reduceBEq,reduceCtorEq,↓reduceIte,Int.reduceToNat,Int.reduceLE,Int.reduceLT,Int.reduceNe,Int.reduceEq];refine⟨fun hla=>⟨hla,fun x hx=>⟨fun e=>⟨a,rfl,⟨fun _=>by rw[e];exact Xd hx,fun _=>by omega⟩⟩,fun e=>⟨hla,fun hm=>?_,aH (by omega)⟩⟩⟩,fun hge=>?_⟩
  ·rw[X8,hx]at hm;rcases Xn.1 hm with hm|hm
   ·exact hA hm
   ·simp only[YV,Xl]at hm;exact e hm
  ·rw[XL (by omega)]at hA;exact⟨-1,rfl,⟨fun h=>by omega,fun h=>absurd h hA⟩⟩
theorem CO(w0:W0)(l:List Int)(s:Int)(hl:l.length≤4611686018427387904)(S:St):aa Tryz.prog w0 154 [dL l,dI s] S (fun d S'=>d=dB (decide (s∈l))∧S'=S):=by
 refine cb [] mx Tryz.func154 rfl rfl (by kernel_rfl) ?_;simp(maxDischargeDepth:=12) (maxSteps:=1000000) -implicitDefEqProofs only[Tryz.ntmps154,go_sem,Nat.reduceAdd,Nat.reduceSub,Nat.reduceMul,Nat.reduceLeDiff,Nat.reduceEqDiff,Nat.reduceGT,Nat.reduceBEq,reduceCtorEq,↓reduceIte,Int.reduceToNat,Int.reduceLE,Int.reduceLT,Int.reduceNe,Int.reduceEq];refine aj (LN _ l s hl _) ?_;rintro _ _ ⟨i,rfl,h,rfl⟩;simp(maxDischargeDepth:=12) (maxSteps:=1000000) -implicitDefEqProofs only[go_sem,Nat.reduceAdd,Nat.reduceSub,Nat.reduceMul,Nat.reduceLeDiff,Nat.reduceEqDiff,Nat.reduceGT,Nat.reduceBEq,reduceCtorEq,↓reduceIte,Int.reduceToNat,Int.reduceLE,Int.reduceLT,Int.reduceNe,Int.reduceEq];exact h
theorem N9(w0:W0)(l:List G)(g:G)(hl:l.length≤4611686018427387904)(S:St):aa Tryz.prog w0 186 [jk l,gD g] S (fun d S'=>∃i:Int,d=dI i∧(0≤i↔g∈l)∧S'=S):=by
 refine mi [] mx Tryz.func186 rfl rfl (by kernel_rfl) ?_;simp(maxDischargeDepth:=12) (maxSteps:=1000000) -implicitDefEqProofs only[Tryz.ntmps186,go_sem,Nat.reduceAdd,Nat.reduceSub,Nat.reduceMul,Nat.reduceLeDiff,Nat.reduceEqDiff,Nat.reduceGT,Nat.reduceBEq,reduceCtorEq,↓reduceIte,Int.reduceToNat,Int.reduceLE,Int.reduceLT,Int.reduceNe,Int.reduceEq];intro b;refine aX [] l.length [0,3,7,8] (fun a=>[(8,dI a)]) (fun _=>⟨(b.n,[dI g.a,dI g.f,dI g.t])::S.box,S.acc⟩) (fun a=>g∉l.take a) mx (by kernel_rfl) ?_ ?_
 ·simp(maxDischargeDepth:=12) (maxSteps:=1000000) -implicitDefEqProofs only[go_sem,Nat.reduceAdd,Nat.reduceSub,Nat.reduceMul,Nat.reduceLeDiff,Nat.reduceEqDiff,Nat.reduceGT,Nat.reduceBEq,reduceCtorEq,↓reduceIte,Int.reduceToNat,Int.reduceLE,Int.reduceLT,Int.reduceNe,Int.reduceEq];exact YB
 ·intro a ha hA;simp(maxDischargeDepth:=12) (maxSteps:=1000000) -implicitDefEqProofs only[go_sem,Nat.reduceAdd,Nat.reduceSub,Nat.reduceMul,Nat.reduceLeDiff,Nat.reduceEqDiff,Nat.reduceGT,Nat.reduceBEq,reduceCtorEq,↓reduceIte,Int.reduceToNat,Int.reduceLE,Int.reduceLT,Int.reduceNe,Int.reduceEq]
  have key:∀x:G,(decide (g.a=x.a)&&decide (g.f=x.f)&&decide (g.t=x.t))=decide (g=x):=fun x=>by
   rw[Bool.eq_iff_iff];simp only[Xe,decide_eq_true_eq];obtain⟨a,f,t⟩:=x;obtain⟨a',f',t'⟩:=g;simp only[G.mk.injEq,and_assoc]
  refine⟨fun hla=>⟨hla,fun x hx=>⟨fun q=>?_,fun q=>⟨hla,fun hm=>?_,aH (by omega)⟩⟩⟩,fun hge=>?_⟩
  ·rw[key,decide_eq_true_eq]at q;exact⟨_,_,.refl _,(Sub.refl _).aP,a,rfl,⟨fun _=>by rw[q];exact Xd hx,fun _=>by omega⟩,rfl⟩
  ·rw[key,decide_eq_false_iff_not]at q;rw[X8,hx]at hm;rcases Xn.1 hm with hm|hm
   ·exact hA hm
   ·simp only[YV,Xl]at hm;exact q hm
  ·rw[XL (by omega)]at hA;exact⟨_,_,.refl _,(Sub.refl _).aP, -1,rfl,⟨fun h=>by omega,fun h=>absurd h hA⟩,rfl⟩
theorem Qw(w0:W0)(l:List G)(g:G)(hl:l.length≤4611686018427387904)(S:St):aa Tryz.prog w0 133 [jk l,gD g] S (fun d S'=>d=dB (decide (g∈l))∧S'=S):=by
 have hc:∀S,aa Tryz.prog w0 161 [jk l,gD g] S (fun d S'=>d=dB (decide (g∈l))∧S'=S):=fun S=>by
  refine cb [] mx Tryz.func161 rfl rfl (by kernel_rfl) ?_;simp(maxDischargeDepth:=12) (maxSteps:=1000000) -implicitDefEqProofs only[Tryz.ntmps161,go_sem,Nat.reduceAdd,Nat.reduceSub,Nat.reduceMul,Nat.reduceLeDiff,Nat.reduceEqDiff,Nat.reduceGT,Nat.reduceBEq,reduceCtorEq,↓reduceIte,Int.reduceToNat,Int.reduceLE,Int.reduceLT,Int.reduceNe,Int.reduceEq];intro b;refine aj (N9 _ l g hl _) ?_;rintro _ _ ⟨i,rfl,h,rfl⟩;simp(maxDischargeDepth:=12) (maxSteps:=1000000) -implicitDefEqProofs only[go_sem,Nat.reduceAdd,Nat.reduceSub,Nat.reduceMul,Nat.reduceLeDiff,Nat.reduceEqDiff,Nat.reduceGT,Nat.reduceBEq,reduceCtorEq,↓reduceIte,Int.reduceToNat,Int.reduceLE,Int.reduceLT,Int.reduceNe,Int.reduceEq];exact h
 refine cb [] mx Tryz.func133 rfl rfl (by kernel_rfl) ?_;simp(maxDischargeDepth:=12) (maxSteps:=1000000) -implicitDefEqProofs only[Tryz.ntmps133,go_sem,Nat.reduceAdd,Nat.reduceSub,Nat.reduceMul,Nat.reduceLeDiff,Nat.reduceEqDiff,Nat.reduceGT,Nat.reduceBEq,reduceCtorEq,↓reduceIte,Int.reduceToNat,Int.reduceLE,Int.reduceLT,Int.reduceNe,Int.reduceEq]
 try intro b
 refine aw (hc _) ?_;simp(maxDischargeDepth:=12) (maxSteps:=1000000) -implicitDefEqProofs only[go_sem,Nat.reduceAdd,Nat.reduceSub,Nat.reduceMul,Nat.reduceLeDiff,Nat.reduceEqDiff,Nat.reduceGT,Nat.reduceBEq,reduceCtorEq,↓reduceIte,Int.reduceToNat,Int.reduceLE,Int.reduceLT,Int.reduceNe,Int.reduceEq]
theorem Nl(a b:Nat)(h:a+b<2^62):IntKind.i64.wrap ((a:Int)+(b:Int))=((a+b:Nat):Int):=by rw[oN (by omega) (by omega)];omega
def lE{α:Type}(rows:List (List α)):List α:=rows.flatten
theorem pS{α:Type}{rows:List (List α)}{k:Nat}{a:List α}(h:rows[k]? =some a):lE (rows.take (k+1))=lE (rows.take k)++a:=by
 unfold lE;rw[X8,h];simp
theorem za{α:Type}(rows:List (List α))(k:Nat):(lE (rows.take k)).length≤(lE rows).length:=by
 have:lE rows=lE (rows.take k)++lE (rows.drop k):=by
  unfold lE;rw[←List.flatten_append,Y2]
 rw[this];simp
theorem ep{P:Program}{w0:W0}{f:FuncId}{args:List DV}{S:St}{r:DV}(h1:aa P w0 f args S (fun d S'=>oc S' d fun d S''=>Wk d r∧Aml.Sub S S'')):aa P w0 f args S (fun d S'=>d=r∧S'=S):=by
 intro g vs w k1 k2;refine(h1 g vs w k1 k2).mono ?_;rintro e w' (⟨v,g',d,S',q1,q2,q3,q4,q5⟩|hp)
 ·obtain⟨g2,d',S2,p1,p2,p3,p4,p5⟩:=zY q3 q4 q5;exact .inl ⟨v,g2,r,S,q1,q2.trans p1,p2.forget p5.box p5.acc,p4 _ _ p3,rfl,rfl⟩
 ·exact .inr hp
theorem Nt(w0:W0)(n:Int)(S:St)(h0:0≤n)(h1:n≤109951162777):aa Tryz.prog w0 152 [.sl 0 true [],dI n] S (fun d S'=>∃l:FN S.acc,d= .acc l.n 0∧S'=⟨S.box,(l.n,.arr 3 [])::S.acc⟩):=by
 refine so (K':=fun d S'=>(d= .sl 0 true []∧S'=S)∨∃l:FN S.acc,d= .acc l.n 0∧S'=⟨S.box,(l.n,.arr 3 [])::S.acc⟩) ?_ 3 (by omega) ?_
 ·refine jj [] mx Tryz.func152 rfl rfl (by kernel_rfl) ?_;simp(maxDischargeDepth:=12) (maxSteps:=1000000) -implicitDefEqProofs only[Tryz.ntmps152,go_sem,Nat.reduceAdd,Nat.reduceSub,Nat.reduceMul,Nat.reduceLeDiff,Nat.reduceEqDiff,Nat.reduceGT,Nat.reduceBEq,reduceCtorEq,↓reduceIte,Int.reduceToNat,Int.reduceLE,Int.reduceLT,Int.reduceNe,Int.reduceEq];have e1:IntKind.i64.wrap (0-0)=0:=oN (by omega) (by omega);rw[e1,Int.sub_zero,oN (by omega) (by omega)];refine⟨fun h=>by omega,fun h h2=>⟨by omega,by omega,by omega,fun l=> .inl ⟨⟨_,_,_,rfl⟩,by simp,fun l'=>⟨⟨l'.n,l'.h.2.2⟩,rfl,rfl⟩⟩⟩⟩
 ·rintro d S' (⟨rfl,rfl⟩|h)
  ·exact .inr ⟨⟨0,rfl⟩,fun l hl=>⟨⟨l,hl⟩,rfl,rfl⟩⟩
  ·exact .inl h
theorem GK(w0:W0)(rows:List (List hY))(S:St)(h0:rows.length≤1099511627776)(h1:(lE rows).length≤104857600):
 aa Tryz.prog w0 123 [.sl 1 false (rows.map cR)] S (fun d S'=>d=cR (lE rows)∧S'=S):=by
 refine cb [] mx Tryz.func123 rfl rfl (by kernel_rfl) ?_;simp(maxDischargeDepth:=12) (maxSteps:=1000000) -implicitDefEqProofs only[Tryz.ntmps123,go_sem,Nat.reduceAdd,Nat.reduceSub,Nat.reduceMul,Nat.reduceLeDiff,Nat.reduceEqDiff,Nat.reduceGT,Nat.reduceBEq,reduceCtorEq,↓reduceIte,Int.reduceToNat,Int.reduceLE,Int.reduceLT,Int.reduceNe,Int.reduceEq];refine aX [] rows.length [0,3,9,10,11] (fun k=>[(3,dI (lE (rows.take k)).length),(11,dI k)]) (fun _=>S) (fun k=>True) mx (by kernel_rfl) ?_ ?_
 ·simp(maxDischargeDepth:=12) (maxSteps:=1000000) -implicitDefEqProofs only[go_sem,Nat.reduceAdd,Nat.reduceSub,Nat.reduceMul,Nat.reduceLeDiff,Nat.reduceEqDiff,Nat.reduceGT,Nat.reduceBEq,reduceCtorEq,↓reduceIte,Int.reduceToNat,Int.reduceLE,Int.reduceLT,Int.reduceNe,Int.reduceEq];simp[lE]
 ·intro k hk _;simp(maxDischargeDepth:=12) (maxSteps:=1000000) -implicitDefEqProofs only[go_sem,Nat.reduceAdd,Nat.reduceSub,Nat.reduceMul,Nat.reduceLeDiff,Nat.reduceEqDiff,Nat.reduceGT,Nat.reduceBEq,reduceCtorEq,↓reduceIte,Int.reduceToNat,Int.reduceLE,Int.reduceLT,Int.reduceNe,Int.reduceEq];refine⟨fun hlt=>⟨hlt,fun a ha=>?_⟩,fun hge=>?_⟩
  ·have h2:=pS ha;have h3:=za rows (k+1);rw[h2,Xp]at h3;rw[oN (by omega) (by omega)];refine⟨fun h=>by omega,fun h=>⟨hlt,?_,oN (by omega) (by omega)⟩⟩;rw[h2,Xp];omega
  ·rw[XL (by omega)];refine aj (Nt w0 (lE rows).length S (by omega) (by omega)) ?_;rintro d S' ⟨l,rfl,rfl⟩;simp(maxDischargeDepth:=12) (maxSteps:=1000000) -implicitDefEqProofs only[go_sem,Nat.reduceAdd,Nat.reduceSub,Nat.reduceMul,Nat.reduceLeDiff,Nat.reduceEqDiff,Nat.reduceGT,Nat.reduceBEq,reduceCtorEq,↓reduceIte,Int.reduceToNat,Int.reduceLE,Int.reduceLT,Int.reduceNe,Int.reduceEq];refine aX [] rows.length [6,25,26,27] (fun k=>[(6,.acc l.n (lE (rows.take k)).length),(27,dI k)]) (fun k=>⟨S.box,(l.n,.arr 3 ((lE (rows.take k)).map pQ))::S.acc⟩) (fun k=>True) mx (by kernel_rfl) ?_ ?_
   ·simp(maxDischargeDepth:=12) (maxSteps:=1000000) -implicitDefEqProofs only[go_sem,Nat.reduceAdd,Nat.reduceSub,Nat.reduceMul,Nat.reduceLeDiff,Nat.reduceEqDiff,Nat.reduceGT,Nat.reduceBEq,reduceCtorEq,↓reduceIte,Int.reduceToNat,Int.reduceLE,Int.reduceLT,Int.reduceNe,Int.reduceEq];simp[lE,Wk.refl,Sub.refl]
   ·intro k hk _;simp(maxDischargeDepth:=12) (maxSteps:=1000000) -implicitDefEqProofs only[go_sem,Nat.reduceAdd,Nat.reduceSub,Nat.reduceMul,Nat.reduceLeDiff,Nat.reduceEqDiff,Nat.reduceGT,Nat.reduceBEq,reduceCtorEq,↓reduceIte,Int.reduceToNat,Int.reduceLE,Int.reduceLT,Int.reduceNe,Int.reduceEq];refine⟨fun hlt=>⟨hlt,fun a ha=>?_⟩,fun hge=>?_⟩
    ·have h2:=pS ha;have h3:=za rows (k+1);rw[h2,Xp]at h3;refine⟨by omega,by unfold maxLen;omega,hlt,⟨?_,oN (by omega) (by omega)⟩,?_⟩
     ·rw[h2,Xp];exact .refl _
     ·rw[h2,XB];exact .refl _
    ·rw[XL (by omega)];exact .full _ _ _
theorem JE(w0:W0)(l:List hY)(S:St)(h0:l.length≤1048576):aa Tryz.prog w0 156 [cR l] S fun d S'=>d=cR l∧S'=S:=by
 refine ep (aa.mono (K:=fun d S'=>∃b:FN S.acc,d= .acc b.n (l.map pQ).length∧S'=⟨S.box,(b.n,.arr 3 (l.map pQ))::S.acc⟩) ?_ ?_)
 ·refine Cy 3 (by omega) ?_;refine jj [] mx Tryz.func156 rfl rfl (by kernel_rfl) ?_;simp(maxDischargeDepth:=12) (maxSteps:=1000000) -implicitDefEqProofs only[Tryz.ntmps156,go_sem,Nat.reduceAdd,Nat.reduceSub,Nat.reduceMul,Nat.reduceLeDiff,Nat.reduceEqDiff,Nat.reduceGT,Nat.reduceBEq,reduceCtorEq,↓reduceIte,Int.reduceToNat,Int.reduceLE,Int.reduceLT,Int.reduceNe,Int.reduceEq];intro b hb;refine⟨fun h1=> .inl ⟨X5 fun hn=>?_,0,rfl⟩,fun h1=>⟨by omega,by unfold maxLen;omega,fun c=> .inr ⟨c,rfl,rfl⟩⟩⟩;rw[hb hn]at h1;cases h1
 ·rintro d S' ⟨b,rfl,rfl⟩;simp(maxDischargeDepth:=12) (maxSteps:=1000000) -implicitDefEqProofs only[go_sem,Nat.reduceAdd,Nat.reduceSub,Nat.reduceMul,Nat.reduceLeDiff,Nat.reduceEqDiff,Nat.reduceGT,Nat.reduceBEq,reduceCtorEq,↓reduceIte,Int.reduceToNat,Int.reduceLE,Int.reduceLT,Int.reduceNe,Int.reduceEq]
theorem Ak(w0:W0)(l:List C4)(S:St)(h0:l.length≤1048576):aa Tryz.prog w0 132 [.sl 6 false (l.map sg)] S fun d S'=>d= .sl 6 false (l.map sg)∧S'=S:=by
 refine ep (aa.mono (K:=fun d S'=>∃b:FN S.acc,d= .acc b.n (l.map sg).length∧S'=⟨S.box,(b.n,.arr 6 (l.map sg))::S.acc⟩) ?_ ?_)
 ·refine Cy 6 (by omega) ?_;refine jj [] mx Tryz.func132 rfl rfl (by kernel_rfl) ?_;simp(maxDischargeDepth:=12) (maxSteps:=1000000) -implicitDefEqProofs only[Tryz.ntmps132,go_sem,Nat.reduceAdd,Nat.reduceSub,Nat.reduceMul,Nat.reduceLeDiff,Nat.reduceEqDiff,Nat.reduceGT,Nat.reduceBEq,reduceCtorEq,↓reduceIte,Int.reduceToNat,Int.reduceLE,Int.reduceLT,Int.reduceNe,Int.reduceEq];intro b hb;refine⟨fun h1=> .inl ⟨X5 fun hn=>?_,0,rfl⟩,fun h1=>⟨by omega,by unfold maxLen;omega,fun c=> .inr ⟨c,rfl,rfl⟩⟩⟩;rw[hb hn]at h1;cases h1
 ·rintro d S' ⟨b,rfl,rfl⟩;simp(maxDischargeDepth:=12) (maxSteps:=1000000) -implicitDefEqProofs only[go_sem,Nat.reduceAdd,Nat.reduceSub,Nat.reduceMul,Nat.reduceLeDiff,Nat.reduceEqDiff,Nat.reduceGT,Nat.reduceBEq,reduceCtorEq,↓reduceIte,Int.reduceToNat,Int.reduceLE,Int.reduceLT,Int.reduceNe,Int.reduceEq]
theorem Lc(w0:W0){S:St}{g:MG}{N:Nat}{c:Cf}{μ:bc}{w own:Nat}{o:bl}{full:Bool}(hI:MI S g N c μ)(hw:lV S g w own o full)(hs:o.snap≠0→∃Fs,μ.sn o.level o.aB o.snap=some Fs∧Fs.length=μ.l.length){x:Nat}(hx:x<μ.l.length):
 ∃m ids,BM S m N ids (gk μ o x)∧∀T,Has S T→aa Tryz.prog w0 155 [bg w,dI x] T (fun d S'=>d= .mp m∧S'=T):=by
 have hbx:g.ls[x]? =some (g.ls[x]'(by rw[hI.len];exact hx)):=Xb _;generalize g.ls[x]'(by rw[hI.len];exact hx)=bx at hbx;have hlen:=hI.len;obtain⟨l,hl,b,ids,r,dr,h1,h2,h3,h4,h5,h6⟩:=hI.rz hbx;by_cases h0:o.snap=0
 case neg=>
  obtain⟨Fs,hF,hFl⟩:=hs h0;obtain⟨es,cl,s1,s2⟩:=hI.CK;obtain⟨bs,s3,s4,s5⟩:=(s2 o.level o.aB o.snap).2 Fs hF;have hbs:bs[x]? =some (bs[x]'(by omega)):=Xb _;have hFs:Fs[x]? =some (Fs[x]'(by omega)):=Xb _;generalize bs[x]'(by omega)=bj at hbs;generalize Fs[x]'(by omega)=Fj at hFs;obtain⟨idj,q1,q2⟩:=s5 x bj Fj hbs hFs;have e:gk μ o x=Fj:=by unfold gk;rw[if_pos h0,hF,YA,hFs];rfl
  rw[e];refine⟨bj,idj,q1,fun T hT=>?_⟩;have t1:=hT.box _ _ hw.k;have t2:=hT.box _ _ hI.md;have t3:=hT.acc _ _ s1;have e0:(o.snap=0)=False:=eq_false h0;unfold HI at s3;refine cb [] mx Tryz.func155 rfl rfl (by kernel_rfl) ?_;simp(maxDischargeDepth:=12) (maxSteps:=1000000) -implicitDefEqProofs only[Tryz.ntmps155,go_sem,Nat.reduceAdd,Nat.reduceSub,Nat.reduceMul,Nat.reduceLeDiff,Nat.reduceEqDiff,Nat.reduceGT,Nat.reduceBEq,reduceCtorEq,↓reduceIte,Int.reduceToNat,Int.reduceLE,Int.reduceLT,Int.reduceNe,Int.reduceEq,t1,t2,e0];refine df (dG w0 t1) ?_;simp(maxDischargeDepth:=12) (maxSteps:=1000000) -implicitDefEqProofs only[go_sem,Nat.reduceAdd,Nat.reduceSub,Nat.reduceMul,Nat.reduceLeDiff,Nat.reduceEqDiff,Nat.reduceGT,Nat.reduceBEq,reduceCtorEq,↓reduceIte,Int.reduceToNat,Int.reduceLE,Int.reduceLT,Int.reduceNe,Int.reduceEq,t1,t2,t3,s3,e0,hbs];have hxb:x<bs.length:=(Xc.1 hbs).1
  first|exact hxb|exact⟨hxb,hxb,.refl _⟩|skip
 have hs0:gk μ o x=if(x:Int)=o.level∧(aL μ o.level).has=o.aB then(aL μ o.level).D else(aL μ x).F:=by unfold gk;rw[if_neg (fun q=>q h0)]
 have elx:aL μ (x:Int)=l:=bD (by simpa using hl) (by omega);by_cases hc:(x:Int)=o.level∧(aL μ o.level).has=o.aB
 ·rw[hs0,if_pos hc];obtain⟨hc1,hc2⟩:=hc;rw[←hc1]at hc2 ⊢;rw[elx]at hc2 ⊢
  have hox:own=bx:=by
   have:=hw.l;rw[←hc1,YS,hbx]at this;exact(XJ this).symm
  subst hox;obtain⟨d,idd,rfl,q2,q3⟩:=h6 (by rw[hc2];exact hw.s);refine⟨d,idd,q2,fun T hT=>?_⟩;have t1:=hT.box _ _ hw.k;have t2:=hT.box _ _ hI.md;have t3:=hT.box _ _ h1;have e0:(o.snap=0)=True:=eq_true h0;have e1:((x:Int)=o.level)=True:=eq_true hc1;refine cb [] mx Tryz.func155 rfl rfl (by kernel_rfl) ?_;simp(maxDischargeDepth:=12) (maxSteps:=1000000) -implicitDefEqProofs only[Tryz.ntmps155,go_sem,Nat.reduceAdd,Nat.reduceSub,Nat.reduceMul,Nat.reduceLeDiff,Nat.reduceEqDiff,Nat.reduceGT,Nat.reduceBEq,reduceCtorEq,↓reduceIte,Int.reduceToNat,Int.reduceLE,Int.reduceLT,Int.reduceNe,Int.reduceEq,t1,t2,e0,e1];refine aw (tu w0 t1 t3) ?_;rw[decide_eq_true hc2];simp(maxDischargeDepth:=12) (maxSteps:=1000000) -implicitDefEqProofs only[go_sem,Nat.reduceAdd,Nat.reduceSub,Nat.reduceMul,Nat.reduceLeDiff,Nat.reduceEqDiff,Nat.reduceGT,Nat.reduceBEq,reduceCtorEq,↓reduceIte,Int.reduceToNat,Int.reduceLE,Int.reduceLT,Int.reduceNe,Int.reduceEq,t1,t3]
 ·rw[hs0,if_neg hc,elx];refine⟨b,ids,h2,fun T hT=>?_⟩;have t1:=hT.box _ _ hw.k;have t2:=hT.box _ _ hI.md;have t3:=hT.box _ _ h1;have hlx:x<g.ls.length:=by omega
  have e0:(o.snap=0)=True:=eq_true h0;by_cases hc1:(x:Int)=o.level
  ·have hox:own=bx:=by
    have:=hw.l;rw[←hc1,YS,hbx]at this;exact(XJ this).symm
   subst hox;have hc2:¬l.has=o.aB:=fun q=>hc ⟨hc1,by rw[←hc1,elx];exact q⟩;have e1:((x:Int)=o.level)=True:=eq_true hc1;refine cb [] mx Tryz.func155 rfl rfl (by kernel_rfl) ?_;simp(maxDischargeDepth:=12) (maxSteps:=1000000) -implicitDefEqProofs only[Tryz.ntmps155,go_sem,Nat.reduceAdd,Nat.reduceSub,Nat.reduceMul,Nat.reduceLeDiff,Nat.reduceEqDiff,Nat.reduceGT,Nat.reduceBEq,reduceCtorEq,↓reduceIte,Int.reduceToNat,Int.reduceLE,Int.reduceLT,Int.reduceNe,Int.reduceEq,t1,t2,e0,e1];refine aw (tu w0 t1 t3) ?_;rw[decide_eq_false hc2];simp(maxDischargeDepth:=12) (maxSteps:=1000000) -implicitDefEqProofs only[go_sem,Nat.reduceAdd,Nat.reduceSub,Nat.reduceMul,Nat.reduceLeDiff,Nat.reduceEqDiff,Nat.reduceGT,Nat.reduceBEq,reduceCtorEq,↓reduceIte,Int.reduceToNat,Int.reduceLE,Int.reduceLT,Int.reduceNe,Int.reduceEq,t1,t2,t3,hbx]
   first|exact hlx|exact⟨hlx,hlx,.refl _⟩|skip
  ·have e1:((x:Int)=o.level)=False:=eq_false hc1;refine cb [] mx Tryz.func155 rfl rfl (by kernel_rfl) ?_;simp(maxDischargeDepth:=12) (maxSteps:=1000000) -implicitDefEqProofs only[Tryz.ntmps155,go_sem,Nat.reduceAdd,Nat.reduceSub,Nat.reduceMul,Nat.reduceLeDiff,Nat.reduceEqDiff,Nat.reduceGT,Nat.reduceBEq,reduceCtorEq,↓reduceIte,Int.reduceToNat,Int.reduceLE,Int.reduceLT,Int.reduceNe,Int.reduceEq,t1,t2,e0,e1,hbx,t3]
   first|exact hlx|exact⟨hlx,hlx,.refl _⟩|skip
theorem Bh(w1:W0)(l b:Nat)(X:List (List UInt8)→St)(hb:∀pre,lk (X pre).box b=some [.v (.map none)]):
 ∀T,Has (X []) T→aa Tryz.prog w1 100 [.v (.func (.yield l) #[] #[]),.v (.pointer (some ⟨b,0,none⟩))] T fun _ T'=>∃V,V=[]∧Has (X V) T':=by
 intro T hT;have t1:lk T.box b=some [.v (.map none)]:=hT.box _ _ (hb []);refine jj [] mx Tryz.func100 rfl rfl (by kernel_rfl) ?_;simp only[Tryz.ntmps100,Xo,XP,Nat.reduceAdd,Nat.reduceSub,List.reduceReplicate,Yi,Yx];simp(maxDischargeDepth:=12) (maxSteps:=1000000) -implicitDefEqProofs only[Tryz.ntmps100,go_sem,Nat.reduceAdd,Nat.reduceSub,Nat.reduceMul,Nat.reduceLeDiff,Nat.reduceEqDiff,Nat.reduceGT,Nat.reduceBEq,reduceCtorEq,↓reduceIte,Int.reduceToNat,Int.reduceLE,Int.reduceLT,Int.reduceNe,Int.reduceEq,t1];intro li;have hnone:lk T.acc li.n=none:=ak li;refine cY [] [0,5] (fun _:Unit=>[]) (fun _=>⟨T.box,(li.n,.xo .ni)::T.acc⟩) (fun _=>True) (fun _=>0) () mx (by kernel_rfl) ?_ ?_
 ·simp(maxDischargeDepth:=12) (maxSteps:=1000000) -implicitDefEqProofs only[go_sem,Nat.reduceAdd,Nat.reduceSub,Nat.reduceMul,Nat.reduceLeDiff,Nat.reduceEqDiff,Nat.reduceGT,Nat.reduceBEq,reduceCtorEq,↓reduceIte,Int.reduceToNat,Int.reduceLE,Int.reduceLT,Int.reduceNe,Int.reduceEq]
  try exact⟨trivial,.refl _⟩
 ·intro _ _;simp(maxDischargeDepth:=12) (maxSteps:=1000000) -implicitDefEqProofs only[go_sem,Nat.reduceAdd,Nat.reduceSub,Nat.reduceMul,Nat.reduceLeDiff,Nat.reduceEqDiff,Nat.reduceGT,Nat.reduceBEq,reduceCtorEq,↓reduceIte,Int.reduceToNat,Int.reduceLE,Int.reduceLT,Int.reduceNe,Int.reduceEq];refine⟨[],rfl,hT.box,fun l' o ho=>?_⟩;have:=hT.acc _ _ ho;show lk ((li.n,_)::T.acc) l'=_;simp only[lk];rw[if_neg (fun e=>by rw[e,this]at hnone;cases hnone)];exact this
theorem vq(w0:W0){b:Nat}{S:St}(hb:lk S.box b=some [.v (.map none)]):
 aa Tryz.prog w0 139 [.sl 0 true [],.v (.func (.func 100) #[] #[.pointer (some ⟨b,0,none⟩)])] S (fun d S'=>∃r:FN S.acc,d= .acc r.n 0∧S'=⟨S.box,(r.n,.arr 1 [])::S.acc⟩):=by
 refine mi [] mx Tryz.func139 rfl rfl (by kernel_rfl) ?_;simp(maxDischargeDepth:=12) (maxSteps:=1000000) -implicitDefEqProofs only[Tryz.ntmps139,go_sem,Nat.reduceAdd,Nat.reduceSub,Nat.reduceMul,Nat.reduceLeDiff,Nat.reduceEqDiff,Nat.reduceGT,Nat.reduceBEq,reduceCtorEq,↓reduceIte,Int.reduceToNat,Int.reduceLE,Int.reduceLT,Int.reduceNe,Int.reduceEq];intro s;refine fR s.n 0 1 (by omega) (ds:=[.sl 0 true []]) (by simp(maxDischargeDepth:=12) (maxSteps:=1000000) -implicitDefEqProofs only[go_sem,Nat.reduceAdd,Nat.reduceSub,Nat.reduceMul,Nat.reduceLeDiff,Nat.reduceEqDiff,Nat.reduceGT,Nat.reduceBEq,reduceCtorEq,↓reduceIte,Int.reduceToNat,Int.reduceLE,Int.reduceLT,Int.reduceNe,Int.reduceEq]) rfl fun lb=>?_;simp(maxDischargeDepth:=12) (maxSteps:=1000000) -implicitDefEqProofs only[go_sem,Nat.reduceAdd,Nat.reduceSub,Nat.reduceMul,Nat.reduceLeDiff,Nat.reduceEqDiff,Nat.reduceGT,Nat.reduceBEq,reduceCtorEq,↓reduceIte,Int.reduceToNat,Int.reduceLE,Int.reduceLT,Int.reduceNe,Int.reduceEq];refine sZ [] (fun pre=>⟨(s.n,[.acc lb.n pre.length])::S.box,(lb.n,.arr 1 (pre.map eJ))::S.acc⟩) (fun x=>[eJ x]) (fun _=>False) (fun V=>V=[]) mx (by kernel_rfl) rfl rfl rfl (fun _=>rfl) (fun _=>rfl) (fun _=>rfl) ?_ ?_ ?_
 ·intro l w1 hy T hT;refine Bh w1 l b _ (fun pre=>?_) T hT;have hsb:¬s.n=b:=fun e=>by have:=ak s;rw[e,hb]at this;cases this
  simp(maxDischargeDepth:=12) (maxSteps:=1000000) -implicitDefEqProofs only[go_sem,Nat.reduceAdd,Nat.reduceSub,Nat.reduceMul,Nat.reduceLeDiff,Nat.reduceEqDiff,Nat.reduceGT,Nat.reduceBEq,reduceCtorEq,↓reduceIte,Int.reduceToNat,Int.reduceLE,Int.reduceLT,Int.reduceNe,Int.reduceEq,hsb,hb]
 ·intro pre x T hOk hT;exact hOk.elim
 ·rintro V rfl;simp(maxDischargeDepth:=12) (maxSteps:=1000000) -implicitDefEqProofs only[go_sem,Nat.reduceAdd,Nat.reduceSub,Nat.reduceMul,Nat.reduceLeDiff,Nat.reduceEqDiff,Nat.reduceGT,Nat.reduceBEq,reduceCtorEq,↓reduceIte,Int.reduceToNat,Int.reduceLE,Int.reduceLT,Int.reduceNe,Int.reduceEq];exact⟨_,_,.refl _,(Sub.refl _).aP,lb,rfl,rfl⟩
theorem EA(w0:W0){b:Nat}{S:St}(hb:lk S.box b=some [.v (.map none)]):
 aa Tryz.prog w0 52 [.v (.func (.func 100) #[] #[.pointer (some ⟨b,0,none⟩)])] S (fun d S'=>∃r:FN S.acc,d= .acc r.n 0∧S'=⟨S.box,(r.n,.arr 1 [])::S.acc⟩):=by
 have hcol:∀S,lk S.box b=some [.v (.map none)]→aa Tryz.prog w0 97 [.v (.func (.func 100) #[] #[.pointer (some ⟨b,0,none⟩)])] S (fun d S'=>∃r:FN S.acc,d= .acc r.n 0∧S'=⟨S.box,(r.n,.arr 1 [])::S.acc⟩):=fun S hb=>by
  refine jj [] mx Tryz.func97 rfl rfl (by kernel_rfl) ?_;simp(maxDischargeDepth:=12) (maxSteps:=1000000) -implicitDefEqProofs only[Tryz.ntmps97,go_sem,Nat.reduceAdd,Nat.reduceSub,Nat.reduceMul,Nat.reduceLeDiff,Nat.reduceEqDiff,Nat.reduceGT,Nat.reduceBEq,reduceCtorEq,↓reduceIte,Int.reduceToNat,Int.reduceLE,Int.reduceLT,Int.reduceNe,Int.reduceEq];refine aj (vq w0 hb) ?_;rintro _ _ ⟨r,rfl,rfl⟩;simp(maxDischargeDepth:=12) (maxSteps:=1000000) -implicitDefEqProofs only[go_sem,Nat.reduceAdd,Nat.reduceSub,Nat.reduceMul,Nat.reduceLeDiff,Nat.reduceEqDiff,Nat.reduceGT,Nat.reduceBEq,reduceCtorEq,↓reduceIte,Int.reduceToNat,Int.reduceLE,Int.reduceLT,Int.reduceNe,Int.reduceEq];exact⟨r,rfl,rfl⟩
 refine jj [] mx Tryz.func52 rfl rfl (by kernel_rfl) ?_;simp(maxDischargeDepth:=12) (maxSteps:=1000000) -implicitDefEqProofs only[Tryz.ntmps52,go_sem,Nat.reduceAdd,Nat.reduceSub,Nat.reduceMul,Nat.reduceLeDiff,Nat.reduceEqDiff,Nat.reduceGT,Nat.reduceBEq,reduceCtorEq,↓reduceIte,Int.reduceToNat,Int.reduceLE,Int.reduceLT,Int.reduceNe,Int.reduceEq];refine aj (hcol S hb) ?_;rintro _ _ ⟨r,rfl,rfl⟩;simp(maxDischargeDepth:=12) (maxSteps:=1000000) -implicitDefEqProofs only[go_sem,Nat.reduceAdd,Nat.reduceSub,Nat.reduceMul,Nat.reduceLeDiff,Nat.reduceEqDiff,Nat.reduceGT,Nat.reduceBEq,reduceCtorEq,↓reduceIte,Int.reduceToNat,Int.reduceLE,Int.reduceLT,Int.reduceNe,Int.reduceEq];refine .inl (aj (FQ w0 (l:=r.n) (zs:=[]) (S:=⟨S.box,(r.n,.arr 1 [])::S.acc⟩) (by simp[lk]) (by simp)) ?_);rintro _ _ ⟨rfl,rfl⟩;simp(maxDischargeDepth:=12) (maxSteps:=1000000) -implicitDefEqProofs only[go_sem,Nat.reduceAdd,Nat.reduceSub,Nat.reduceMul,Nat.reduceLeDiff,Nat.reduceEqDiff,Nat.reduceGT,Nat.reduceBEq,reduceCtorEq,↓reduceIte,Int.reduceToNat,Int.reduceLE,Int.reduceLT,Int.reduceNe,Int.reduceEq];have e0:kr []=[]:=by unfold kr;simp
 exact⟨r,rfl,by rw[e0];rfl⟩
theorem Od(w0:W0)(S:St):aa Tryz.prog w0 54 [.v (.map none)] S (fun d S'=>∃b:FN S.box,d= .v (.func (.func 100) #[] #[.pointer (some ⟨b.n,0,none⟩)])∧S'=⟨(b.n,[.v (.map none)])::S.box,S.acc⟩):=by
 refine jj [] mx Tryz.func54 rfl rfl (by kernel_rfl) ?_;simp(maxDischargeDepth:=12) (maxSteps:=1000000) -implicitDefEqProofs only[Tryz.ntmps54,go_sem,Nat.reduceAdd,Nat.reduceSub,Nat.reduceMul,Nat.reduceLeDiff,Nat.reduceEqDiff,Nat.reduceGT,Nat.reduceBEq,reduceCtorEq,↓reduceIte,Int.reduceToNat,Int.reduceLE,Int.reduceLT,Int.reduceNe,Int.reduceEq];intro b;exact⟨b,rfl,rfl⟩
theorem zU{c:Cf}{μ:bc}{o:bl}{i:Nat}(h:jl c.up (i:Int) o.level=true):iB c μ o (i+1)=iB c μ o i++[i]:=by
 unfold iB;rw[Y5,YY];simp[h]
theorem zT{c:Cf}{μ:bc}{o:bl}{i:Nat}(h:jl c.up (i:Int) o.level=false):iB c μ o (i+1)=iB c μ o i:=by
 unfold iB;rw[Y5,YY];simp[h]
theorem Bk(c:Cf)(μ:bc)(o:bl)(i:Nat):(iB c μ o i).length≤i:=by
 unfold iB;have:=List.length_filter_le (fun x:Nat=>jl c.up (x:Int) o.level) (List.range i);simpa using this
theorem j9(c:Cf)(μ:bc)(o:bl)(p:List UInt8→Bool)(i:Nat):(bG c μ o p i).length≤i:=by
 unfold bG;rw[XS];exact Bk c μ o i
noncomputable def mK(x:Nat)(p:List UInt8→Bool)(f:List UInt8→Option (List UInt8))(j:Nat):List hY:=(((cO f).take j).filter p).map fun k=>⟨k,x,(f k).getD []⟩
theorem L0{x:Nat}{p:List UInt8→Bool}{f:List UInt8→Option (List UInt8)}{j:Nat}{k v:List UInt8}(hk:(cO f)[j]? =some k)(hv:f k=some v)(h:p k=true):mK x p f (j+1)=mK x p f j++[⟨k,x,v⟩]:=by
 unfold mK;rw[X8,hk,YY,XB];simp[h,hv]
theorem Mo{x:Nat}{p:List UInt8→Bool}{f:List UInt8→Option (List UInt8)}{j:Nat}{k:List UInt8}(hk:(cO f)[j]? =some k)(h:p k=false):mK x p f (j+1)=mK x p f j:=by
 unfold mK;rw[X8,hk,YY,XB];simp[h]
theorem EO(x:Nat)(p:List UInt8→Bool)(f:List UInt8→Option (List UInt8)):mK x p f (cO f).length=pI x p (some f):=by
 unfold mK pI;rw[XL (Xg _)]
theorem Fa(x:Nat)(p:List UInt8→Bool)(f:List UInt8→Option (List UInt8))(j:Nat):(mK x p f j).length≤j:=by
 unfold mK;rw[XS];have h1:=List.length_filter_le p ((cO f).take j);have h2:=List.length_take_le j (cO f);omega
theorem Lj(w0:W0){S:St}{g:MG}{N:Nat}{c:Cf}{μ:bc}{w own:Nat}{o:bl}{full:Bool}(hI:MI S g N c μ)(hw:lV S g w own o full)(hN:N≤10000)(hn:μ.l.length≤64){k0:Int}(hk:oq μ.r k0)(hk2:k0≤10000)
 (hs:o.snap≠0→o.snap∈Bg μ.r o.level o.aB→∃Fs,μ.sn o.level o.aB o.snap=some Fs∧Fs.length=μ.l.length) (p:List UInt8→Bool) (fn:FuncId) (bx:Nat) (hok:okF Tryz.prog fn=true)
 (hp:∀k T,Has S T→aa Tryz.prog w0 fn [dS (tx k),bg bx] T (fun d S'=>d=dB (p k)∧S'=T))
 (q39:fc μ o→mj w0 S 39) (q32:¬fc μ o→ft c μ o μ.l.length=false→mj w0 S 32):
 aa Tryz.prog w0 124 [bg w,.v (.func (.func fn) #[] #[.pointer (some ⟨bx,0,none⟩)])] S (fun d S'=>¬fc μ o∧ft c μ o μ.l.length=true∧∃lo:FN S.acc,d= .acc lo.n (bG c μ o p μ.l.length).length∧S'=⟨S.box,(lo.n,.arr 1 ((bG c μ o p μ.l.length).map cR))::S.acc⟩):=by
 have hwk:=hw.k;have hmd:=hI.md
 have hsl:(Bg μ.r o.level o.aB).length≤4611686018427387904:=by
  unfold Bg;split
  ·rename_i s hs';have:=D6 hI.tb hk (Xd hs');omega
  ·simp
 have hlen:=hI.len;refine mi [2] mx Tryz.func124 rfl rfl (by kernel_rfl) ?_;simp(maxDischargeDepth:=12) (maxSteps:=1000000) -implicitDefEqProofs only[Tryz.ntmps124,go_sem,Nat.reduceAdd,Nat.reduceSub,Nat.reduceMul,Nat.reduceLeDiff,Nat.reduceEqDiff,Nat.reduceGT,Nat.reduceBEq,reduceCtorEq,↓reduceIte,Int.reduceToNat,Int.reduceLE,Int.reduceLT,Int.reduceNe,Int.reduceEq];simp(maxDischargeDepth:=12) (maxSteps:=1000000) -implicitDefEqProofs only[go_sem,Nat.reduceAdd,Nat.reduceSub,Nat.reduceMul,Nat.reduceLeDiff,Nat.reduceEqDiff,Nat.reduceGT,Nat.reduceBEq,reduceCtorEq,↓reduceIte,Int.reduceToNat,Int.reduceLE,Int.reduceLT,Int.reduceNe,Int.reduceEq,hwk,hmd];refine df (dG w0 hwk) ?_;simp(maxDischargeDepth:=12) (maxSteps:=1000000) -implicitDefEqProofs only[go_sem,Nat.reduceAdd,Nat.reduceSub,Nat.reduceMul,Nat.reduceLeDiff,Nat.reduceEqDiff,Nat.reduceGT,Nat.reduceBEq,reduceCtorEq,↓reduceIte,Int.reduceToNat,Int.reduceLE,Int.reduceLT,Int.reduceNe,Int.reduceEq];refine df (Oh w0 hI.tb hk (by omega) o.level o.aB) ?_;simp(maxDischargeDepth:=12) (maxSteps:=1000000) -implicitDefEqProofs only[go_sem,Nat.reduceAdd,Nat.reduceSub,Nat.reduceMul,Nat.reduceLeDiff,Nat.reduceEqDiff,Nat.reduceGT,Nat.reduceBEq,reduceCtorEq,↓reduceIte,Int.reduceToNat,Int.reduceLE,Int.reduceLT,Int.reduceNe,Int.reduceEq];refine yc (σ:=Unit) [] [0,1] (fun _=>[]) (fun _=>S) (fun _=>¬fc μ o) mx (by kernel_rfl) ?_ ?_
 ·by_cases h0:o.snap=0
  ·have hns:¬fc μ o:=fun q=>q.1 h0;have e0:(o.snap=0)=True:=eq_true h0;simp(maxDischargeDepth:=12) (maxSteps:=1000000) -implicitDefEqProofs only[go_sem,Nat.reduceAdd,Nat.reduceSub,Nat.reduceMul,Nat.reduceLeDiff,Nat.reduceEqDiff,Nat.reduceGT,Nat.reduceBEq,reduceCtorEq,↓reduceIte,Int.reduceToNat,Int.reduceLE,Int.reduceLT,Int.reduceNe,Int.reduceEq,hwk,hmd,e0];refine aj (aC w0 true 39 _ fun h=>by cases h) ?_;rintro _ _ ⟨_,rfl,rfl⟩;simp(maxDischargeDepth:=12) (maxSteps:=1000000) -implicitDefEqProofs only[go_sem,Nat.reduceAdd,Nat.reduceSub,Nat.reduceMul,Nat.reduceLeDiff,Nat.reduceEqDiff,Nat.reduceGT,Nat.reduceBEq,reduceCtorEq,↓reduceIte,Int.reduceToNat,Int.reduceLE,Int.reduceLT,Int.reduceNe,Int.reduceEq];exact⟨(),hns⟩
  ·have e0:(o.snap=0)=False:=eq_false h0;simp(maxDischargeDepth:=12) (maxSteps:=1000000) -implicitDefEqProofs only[go_sem,Nat.reduceAdd,Nat.reduceSub,Nat.reduceMul,Nat.reduceLeDiff,Nat.reduceEqDiff,Nat.reduceGT,Nat.reduceBEq,reduceCtorEq,↓reduceIte,Int.reduceToNat,Int.reduceLE,Int.reduceLT,Int.reduceNe,Int.reduceEq,hwk,hmd,e0];refine aw (CO w0 _ _ hsl _) ?_;by_cases hm:o.snap∈Bg μ.r o.level o.aB
   ·rw[decide_eq_true hm];simp(maxDischargeDepth:=12) (maxSteps:=1000000) -implicitDefEqProofs only[go_sem,Nat.reduceAdd,Nat.reduceSub,Nat.reduceMul,Nat.reduceLeDiff,Nat.reduceEqDiff,Nat.reduceGT,Nat.reduceBEq,reduceCtorEq,↓reduceIte,Int.reduceToNat,Int.reduceLE,Int.reduceLT,Int.reduceNe,Int.reduceEq];refine aj (aC w0 true 39 _ fun h=>by cases h) ?_;rintro _ _ ⟨_,rfl,rfl⟩;simp(maxDischargeDepth:=12) (maxSteps:=1000000) -implicitDefEqProofs only[go_sem,Nat.reduceAdd,Nat.reduceSub,Nat.reduceMul,Nat.reduceLeDiff,Nat.reduceEqDiff,Nat.reduceGT,Nat.reduceBEq,reduceCtorEq,↓reduceIte,Int.reduceToNat,Int.reduceLE,Int.reduceLT,Int.reduceNe,Int.reduceEq];exact⟨(),fun q=>q.2 hm⟩
   ·rw[decide_eq_false hm];simp(maxDischargeDepth:=12) (maxSteps:=1000000) -implicitDefEqProofs only[go_sem,Nat.reduceAdd,Nat.reduceSub,Nat.reduceMul,Nat.reduceLeDiff,Nat.reduceEqDiff,Nat.reduceGT,Nat.reduceBEq,reduceCtorEq,↓reduceIte,Int.reduceToNat,Int.reduceLE,Int.reduceLT,Int.reduceNe,Int.reduceEq];refine aj (aC w0 false 39 _ fun _=>q39 ⟨h0,hm⟩) ?_;rintro _ _ ⟨q,_⟩;cases q
 rintro _ hns;simp(maxDischargeDepth:=12) (maxSteps:=1000000) -implicitDefEqProofs only[go_sem,Nat.reduceAdd,Nat.reduceSub,Nat.reduceMul,Nat.reduceLeDiff,Nat.reduceEqDiff,Nat.reduceGT,Nat.reduceBEq,reduceCtorEq,↓reduceIte,Int.reduceToNat,Int.reduceLE,Int.reduceLT,Int.reduceNe,Int.reduceEq,hwk,hmd];refine nJ 7 1 rfl (by omega) fun lo=>?_;have hlo:lk S.acc lo.n=none:=ak lo;have hH:∀X:Ob,Has S ⟨S.box,(lo.n,X)::S.acc⟩:=fun X=>⟨fun _ _ q=>q,fun l x q=>ai hlo q⟩;refine aX [10,18] μ.l.length [0,1,6,7,47,48] (fun i=>[(6,dB (ft c μ o i)),(7,.acc lo.n (bG c μ o p i).length),(47,dI μ.l.length),(48,dI i)]) (fun i=>⟨S.box,(lo.n,.arr 1 ((bG c μ o p i).map cR))::S.acc⟩) (fun _=>True) mx (by kernel_rfl) ?_ ?_
 ·simp(maxDischargeDepth:=12) (maxSteps:=1000000) -implicitDefEqProofs only[go_sem,Nat.reduceAdd,Nat.reduceSub,Nat.reduceMul,Nat.reduceLeDiff,Nat.reduceEqDiff,Nat.reduceGT,Nat.reduceBEq,reduceCtorEq,↓reduceIte,Int.reduceToNat,Int.reduceLE,Int.reduceLT,Int.reduceNe,Int.reduceEq,hlen];exact⟨⟨rfl,.refl _⟩,.refl _⟩
 ·intro i hi _;have hil':=j9 c μ o p i;by_cases hil:i<μ.l.length
  ·have e1:IntKind.i64.wrap ((i:Int)+1)=((i+1:Nat):Int):=aH (by omega);simp(maxDischargeDepth:=12) (maxSteps:=1000000) -implicitDefEqProofs only[go_sem,Nat.reduceAdd,Nat.reduceSub,Nat.reduceMul,Nat.reduceLeDiff,Nat.reduceEqDiff,Nat.reduceGT,Nat.reduceBEq,reduceCtorEq,↓reduceIte,Int.reduceToNat,Int.reduceLE,Int.reduceLT,Int.reduceNe,Int.reduceEq,e1];refine⟨fun _=>?_,fun h=>absurd hil h⟩;refine aw (mF w0 (S:=⟨S.box,(lo.n,.arr 1 ((bG c μ o p i).map cR))::S.acc⟩) hwk hmd hI.up (i:Int)) ?_
   cases hle:jl c.up (i:Int) o.level with
   |false=>
    have r1:bG c μ o p (i+1)=bG c μ o p i:=by unfold bG;rw[zT hle]
    have r2:ft c μ o (i+1)=ft c μ o i:=by unfold ft;rw[zT hle]
    simp(maxDischargeDepth:=12) (maxSteps:=1000000) -implicitDefEqProofs only[go_sem,Nat.reduceAdd,Nat.reduceSub,Nat.reduceMul,Nat.reduceLeDiff,Nat.reduceEqDiff,Nat.reduceGT,Nat.reduceBEq,reduceCtorEq,↓reduceIte,Int.reduceToNat,Int.reduceLE,Int.reduceLT,Int.reduceNe,Int.reduceEq,e1];rw[r1,r2];exact⟨hil,⟨rfl,.refl _⟩,.refl _⟩
   |true=>
    have r1:bG c μ o p (i+1)=bG c μ o p i++[pI i p (gk μ o i o.bucket)]:=by unfold bG;rw[zU hle,XB];rfl
    have r2:ft c μ o (i+1)=(ft c μ o i||(gk μ o i o.bucket).isSome):=by unfold ft;rw[zU hle,List.any_append];simp
    obtain⟨m,ids,hB,hsee⟩:=Lc w0 hI hw (fun q=>hs q (Xs.1 fun r=>hns ⟨q,r⟩)) hil;obtain⟨et,ct,u1,u2,u3⟩:=hB.top;have u3b:=u3 o.bucket;unfold kT at u3b;have hlm:(lo.n=m)=False:=eq_false fun e=>by rw[e,u1]at hlo;cases hlo
    simp(maxDischargeDepth:=12) (maxSteps:=1000000) -implicitDefEqProofs only[go_sem,Nat.reduceAdd,Nat.reduceSub,Nat.reduceMul,Nat.reduceLeDiff,Nat.reduceEqDiff,Nat.reduceGT,Nat.reduceBEq,reduceCtorEq,↓reduceIte,Int.reduceToNat,Int.reduceLE,Int.reduceLT,Int.reduceNe,Int.reduceEq];refine df (hsee _ (hH _)) ?_
    cases hid:ids o.bucket with
    |none=>
     rw[hid]at u3b;rw[(hB.some_ _).1 hid]at r1 r2;simp(maxDischargeDepth:=12) (maxSteps:=1000000) -implicitDefEqProofs only[go_sem,Nat.reduceAdd,Nat.reduceSub,Nat.reduceMul,Nat.reduceLeDiff,Nat.reduceEqDiff,Nat.reduceGT,Nat.reduceBEq,reduceCtorEq,↓reduceIte,Int.reduceToNat,Int.reduceLE,Int.reduceLT,Int.reduceNe,Int.reduceEq,hlm,u1,u3b,hwk];refine yc (σ:=Unit) [] [0,1,6,7,8,9,47,48] (fun _=>[(6,dB (ft c μ o (i+1)))]) (fun _=>⟨S.box,(lo.n,.arr 1 ((bG c μ o p i).map cR))::S.acc⟩) (fun _=>True) mx (by kernel_rfl) ?_ ?_
     ·rw[r2];simp(maxDischargeDepth:=12) (maxSteps:=1000000) -implicitDefEqProofs only[go_sem,Nat.reduceAdd,Nat.reduceSub,Nat.reduceMul,Nat.reduceLeDiff,Nat.reduceEqDiff,Nat.reduceGT,Nat.reduceBEq,reduceCtorEq,↓reduceIte,Int.reduceToNat,Int.reduceLE,Int.reduceLT,Int.reduceNe,Int.reduceEq];exact⟨fun h=>⟨(),h.symm⟩,fun h=>⟨(),h.symm⟩⟩
     rintro _ _;simp(maxDischargeDepth:=12) (maxSteps:=1000000) -implicitDefEqProofs only[go_sem,Nat.reduceAdd,Nat.reduceSub,Nat.reduceMul,Nat.reduceLeDiff,Nat.reduceEqDiff,Nat.reduceGT,Nat.reduceBEq,reduceCtorEq,↓reduceIte,Int.reduceToNat,Int.reduceLE,Int.reduceLT,Int.reduceNe,Int.reduceEq];refine aj (Od w0 _) ?_;rintro _ _ ⟨bk,rfl,rfl⟩;simp(maxDischargeDepth:=12) (maxSteps:=1000000) -implicitDefEqProofs only[go_sem,Nat.reduceAdd,Nat.reduceSub,Nat.reduceMul,Nat.reduceLeDiff,Nat.reduceEqDiff,Nat.reduceGT,Nat.reduceBEq,reduceCtorEq,↓reduceIte,Int.reduceToNat,Int.reduceLE,Int.reduceLT,Int.reduceNe,Int.reduceEq];refine aj (EA w0 (b:=bk.n) (by simp[lk])) ?_;rintro _ _ ⟨r2,rfl,rfl⟩;simp(maxDischargeDepth:=12) (maxSteps:=1000000) -implicitDefEqProofs only[go_sem,Nat.reduceAdd,Nat.reduceSub,Nat.reduceMul,Nat.reduceLeDiff,Nat.reduceEqDiff,Nat.reduceGT,Nat.reduceBEq,reduceCtorEq,↓reduceIte,Int.reduceToNat,Int.reduceLE,Int.reduceLT,Int.reduceNe,Int.reduceEq];refine nJ 11 3 rfl (by omega) fun l2=>?_;have n1:=av l2 r2.n (by simp(maxDischargeDepth:=12) (maxSteps:=1000000) -implicitDefEqProofs only[go_sem,Nat.reduceAdd,Nat.reduceSub,Nat.reduceMul,Nat.reduceLeDiff,Nat.reduceEqDiff,Nat.reduceGT,Nat.reduceBEq,reduceCtorEq,↓reduceIte,Int.reduceToNat,Int.reduceLE,Int.reduceLT,Int.reduceNe,Int.reduceEq]);have n2:=av l2 lo.n (by simp(maxDischargeDepth:=12) (maxSteps:=1000000) -implicitDefEqProofs only[go_sem,Nat.reduceAdd,Nat.reduceSub,Nat.reduceMul,Nat.reduceLeDiff,Nat.reduceEqDiff,Nat.reduceGT,Nat.reduceBEq,reduceCtorEq,↓reduceIte,Int.reduceToNat,Int.reduceLE,Int.reduceLT,Int.reduceNe,Int.reduceEq,n1]);have n3:=av r2 lo.n (by simp(maxDischargeDepth:=12) (maxSteps:=1000000) -implicitDefEqProofs only[go_sem,Nat.reduceAdd,Nat.reduceSub,Nat.reduceMul,Nat.reduceLeDiff,Nat.reduceEqDiff,Nat.reduceGT,Nat.reduceBEq,reduceCtorEq,↓reduceIte,Int.reduceToNat,Int.reduceLE,Int.reduceLT,Int.reduceNe,Int.reduceEq]);refine aX [18] 0 [0,1,6,7,8,9,11,47,48,73,74,75] (fun j=>[(11,.acc l2.n 0),(73,.acc r2.n 0),(74,dI 0),(75,dI j)]) (fun j=>⟨(bk.n,[.v (.map none)])::S.box,(l2.n,.arr 3 [])::(r2.n,.arr 1 [])::(lo.n,.arr 1 ((bG c μ o p i).map cR))::S.acc⟩) (fun _=>True) mx (by kernel_rfl) ?_ ?_
     ·simp(maxDischargeDepth:=12) (maxSteps:=1000000) -implicitDefEqProofs only[go_sem,Nat.reduceAdd,Nat.reduceSub,Nat.reduceMul,Nat.reduceLeDiff,Nat.reduceEqDiff,Nat.reduceGT,Nat.reduceBEq,reduceCtorEq,↓reduceIte,Int.reduceToNat,Int.reduceLE,Int.reduceLT,Int.reduceNe,Int.reduceEq,n1,n2,n3]
     ·intro j hj _;have hj0:j=0:=by omega
      subst hj0;simp(maxDischargeDepth:=12) (maxSteps:=1000000) -implicitDefEqProofs only[go_sem,Nat.reduceAdd,Nat.reduceSub,Nat.reduceMul,Nat.reduceLeDiff,Nat.reduceEqDiff,Nat.reduceGT,Nat.reduceBEq,reduceCtorEq,↓reduceIte,Int.reduceToNat,Int.reduceLE,Int.reduceLT,Int.reduceNe,Int.reduceEq,n1,n2,n3];refine QH [] [11] mx (by kernel_rfl) ?_;simp(maxDischargeDepth:=12) (maxSteps:=1000000) -implicitDefEqProofs only[go_sem,Nat.reduceAdd,Nat.reduceSub,Nat.reduceMul,Nat.reduceLeDiff,Nat.reduceEqDiff,Nat.reduceGT,Nat.reduceBEq,reduceCtorEq,↓reduceIte,Int.reduceToNat,Int.reduceLE,Int.reduceLT,Int.reduceNe,Int.reduceEq,n1,n2,n3,e1];rw[r1];refine⟨by omega,by unfold maxLen;omega,hil,?_,?_⟩
      ·rw[Xp];exact .refl _
      ·rw[XB];exact .aP (.qy (.qy (.refl _)))
    |some id=>
     rw[hid]at u3b;obtain⟨f,hf⟩:=hZ hB hid;obtain⟨esi,ci,i1,i2,i3⟩:=hB.low _ id f hid hf;rw[hf]at r1 r2;simp(maxDischargeDepth:=12) (maxSteps:=1000000) -implicitDefEqProofs only[go_sem,Nat.reduceAdd,Nat.reduceSub,Nat.reduceMul,Nat.reduceLeDiff,Nat.reduceEqDiff,Nat.reduceGT,Nat.reduceBEq,reduceCtorEq,↓reduceIte,Int.reduceToNat,Int.reduceLE,Int.reduceLT,Int.reduceNe,Int.reduceEq,hlm,u1,u3b,hwk];refine yc (σ:=Unit) [] [0,1,6,7,8,9,47,48] (fun _=>[(6,dB (ft c μ o (i+1)))]) (fun _=>⟨S.box,(lo.n,.arr 1 ((bG c μ o p i).map cR))::S.acc⟩) (fun _=>True) mx (by kernel_rfl) ?_ ?_
     ·rw[r2];simp(maxDischargeDepth:=12) (maxSteps:=1000000) -implicitDefEqProofs only[go_sem,Nat.reduceAdd,Nat.reduceSub,Nat.reduceMul,Nat.reduceLeDiff,Nat.reduceEqDiff,Nat.reduceGT,Nat.reduceBEq,reduceCtorEq,↓reduceIte,Int.reduceToNat,Int.reduceLE,Int.reduceLT,Int.reduceNe,Int.reduceEq];exact⟨fun _=>⟨(),trivial⟩,fun _=>⟨(),trivial⟩⟩
     rintro _ _;have hli:(lo.n=id)=False:=eq_false fun e=>by rw[e,i1]at hlo;cases hlo
     simp(maxDischargeDepth:=12) (maxSteps:=1000000) -implicitDefEqProofs only[go_sem,Nat.reduceAdd,Nat.reduceSub,Nat.reduceMul,Nat.reduceLeDiff,Nat.reduceEqDiff,Nat.reduceGT,Nat.reduceBEq,reduceCtorEq,↓reduceIte,Int.reduceToNat,Int.reduceLE,Int.reduceLT,Int.reduceNe,Int.reduceEq];refine aj (zt w0 (m:=id) _) ?_;rintro _ _ ⟨bk,rfl,rfl⟩;simp(maxDischargeDepth:=12) (maxSteps:=1000000) -implicitDefEqProofs only[go_sem,Nat.reduceAdd,Nat.reduceSub,Nat.reduceMul,Nat.reduceLeDiff,Nat.reduceEqDiff,Nat.reduceGT,Nat.reduceBEq,reduceCtorEq,↓reduceIte,Int.reduceToNat,Int.reduceLE,Int.reduceLT,Int.reduceNe,Int.reduceEq];have hIM:IM ⟨(bk.n,[.mp id])::S.box,(lo.n,.arr 1 ((bG c μ o p i).map cR))::S.acc⟩ id N f:=⟨esi,ci,by simp(maxDischargeDepth:=12) (maxSteps:=1000000) -implicitDefEqProofs only[go_sem,Nat.reduceAdd,Nat.reduceSub,Nat.reduceMul,Nat.reduceLeDiff,Nat.reduceEqDiff,Nat.reduceGT,Nat.reduceBEq,reduceCtorEq,↓reduceIte,Int.reduceToNat,Int.reduceLE,Int.reduceLT,Int.reduceNe,Int.reduceEq,hli,i1],i2,i3⟩;refine aj (G3 w0 (b:=bk.n) (by simp[lk]) hIM (by omega)) ?_;rintro _ _ ⟨r2,rfl,hkf,rfl⟩;simp(maxDischargeDepth:=12) (maxSteps:=1000000) -implicitDefEqProofs only[go_sem,Nat.reduceAdd,Nat.reduceSub,Nat.reduceMul,Nat.reduceLeDiff,Nat.reduceEqDiff,Nat.reduceGT,Nat.reduceBEq,reduceCtorEq,↓reduceIte,Int.reduceToNat,Int.reduceLE,Int.reduceLT,Int.reduceNe,Int.reduceEq];refine nJ 11 3 rfl (by omega) fun l2=>?_;have n1:=av l2 r2.n (by simp(maxDischargeDepth:=12) (maxSteps:=1000000) -implicitDefEqProofs only[go_sem,Nat.reduceAdd,Nat.reduceSub,Nat.reduceMul,Nat.reduceLeDiff,Nat.reduceEqDiff,Nat.reduceGT,Nat.reduceBEq,reduceCtorEq,↓reduceIte,Int.reduceToNat,Int.reduceLE,Int.reduceLT,Int.reduceNe,Int.reduceEq]);have n2:=av l2 lo.n (by simp(maxDischargeDepth:=12) (maxSteps:=1000000) -implicitDefEqProofs only[go_sem,Nat.reduceAdd,Nat.reduceSub,Nat.reduceMul,Nat.reduceLeDiff,Nat.reduceEqDiff,Nat.reduceGT,Nat.reduceBEq,reduceCtorEq,↓reduceIte,Int.reduceToNat,Int.reduceLE,Int.reduceLT,Int.reduceNe,Int.reduceEq,n1]);have n3:=av r2 lo.n (by simp(maxDischargeDepth:=12) (maxSteps:=1000000) -implicitDefEqProofs only[go_sem,Nat.reduceAdd,Nat.reduceSub,Nat.reduceMul,Nat.reduceLeDiff,Nat.reduceEqDiff,Nat.reduceGT,Nat.reduceBEq,reduceCtorEq,↓reduceIte,Int.reduceToNat,Int.reduceLE,Int.reduceLT,Int.reduceNe,Int.reduceEq]);have n4:(r2.n=id)=False:=av r2 id (by simp(maxDischargeDepth:=12) (maxSteps:=1000000) -implicitDefEqProofs only[go_sem,Nat.reduceAdd,Nat.reduceSub,Nat.reduceMul,Nat.reduceLeDiff,Nat.reduceEqDiff,Nat.reduceGT,Nat.reduceBEq,reduceCtorEq,↓reduceIte,Int.reduceToNat,Int.reduceLE,Int.reduceLT,Int.reduceNe,Int.reduceEq,n3,i1,hli]);have n5:(l2.n=id)=False:=av l2 id (by simp(maxDischargeDepth:=12) (maxSteps:=1000000) -implicitDefEqProofs only[go_sem,Nat.reduceAdd,Nat.reduceSub,Nat.reduceMul,Nat.reduceLeDiff,Nat.reduceEqDiff,Nat.reduceGT,Nat.reduceBEq,reduceCtorEq,↓reduceIte,Int.reduceToNat,Int.reduceLE,Int.reduceLT,Int.reduceNe,Int.reduceEq,n3,n1,n2,i1,hli]);refine aX [18] (cO f).length [0,1,6,7,8,9,11,47,48,73,74,75] (fun j=>[(11,.acc l2.n (mK i p f j).length),(73,.acc r2.n (cO f).length),(74,dI (cO f).length),(75,dI j)]) (fun j=>⟨(bk.n,[.mp id])::S.box,(l2.n,.arr 3 ((mK i p f j).map pQ))::(r2.n,.arr 1 ((cO f).map eJ))::(lo.n,.arr 1 ((bG c μ o p i).map cR))::S.acc⟩) (fun _=>True) mx (by kernel_rfl) ?_ ?_
     ·simp(maxDischargeDepth:=12) (maxSteps:=1000000) -implicitDefEqProofs only[go_sem,Nat.reduceAdd,Nat.reduceSub,Nat.reduceMul,Nat.reduceLeDiff,Nat.reduceEqDiff,Nat.reduceGT,Nat.reduceBEq,reduceCtorEq,↓reduceIte,Int.reduceToNat,Int.reduceLE,Int.reduceLT,Int.reduceNe,Int.reduceEq,n1,n2,n3];exact⟨.refl _,.refl _⟩
     ·intro j hj _;have hjn:=Fa i p f j;by_cases hjl:j<(cO f).length
      ·have e2:IntKind.i64.wrap ((j:Int)+1)=((j+1:Nat):Int):=aH (by omega);have hy:(cO f)[j]? =some (cO f)[j]:=Xb hjl;generalize (cO f)[j]=k at hy;obtain⟨v,hv⟩:=XH.1 (oI (Xd hy));have i3k:=i3 k;rw[hv]at i3k;unfold kT at i3k
       have hT:Has S ⟨(bk.n,[.mp id])::S.box,(l2.n,.arr 3 ((mK i p f j).map pQ))::(r2.n,.arr 1 ((cO f).map eJ))::(lo.n,.arr 1 ((bG c μ o p i).map cR))::S.acc⟩:=⟨fun b x q=>ai (ak bk) q,fun a x q=>by
        simp only[lk];have q0:¬lo.n=a:=fun e=>by rw[←e,hlo]at q;cases q
        have z1:=ak r2;have z2:=ak l2;simp only[lk]at z1 z2;rw[if_neg (fun e=>by rw[←n3];exact e.symm)]at z1;rw[if_neg (fun e=>by rw[←n1];exact e.symm),if_neg (fun e=>by rw[←n2];exact e.symm)]at z2;rw[if_neg (fun e=>by rw[←e,z2]at q;cases q),if_neg (fun e=>by rw[←e,z1]at q;cases q),if_neg q0];exact q⟩
       have hm8:maxLen=9223372036854775807:=rfl;simp(maxDischargeDepth:=12) (maxSteps:=1000000) -implicitDefEqProofs only[go_sem,Nat.reduceAdd,Nat.reduceSub,Nat.reduceMul,Nat.reduceLeDiff,Nat.reduceEqDiff,Nat.reduceGT,Nat.reduceBEq,reduceCtorEq,↓reduceIte,Int.reduceToNat,Int.reduceLE,Int.reduceLT,Int.reduceNe,Int.reduceEq,hy,e2,n1,n2,n3,hok];refine⟨fun _=>⟨hjl,hjl,?_⟩,fun h=>absurd hjl h⟩;refine aw (hp k _ hT) ?_
       cases hpk:p k with
       |true=>
        have hrj:=L0 (x:=i) hy hv hpk;simp(maxDischargeDepth:=12) (maxSteps:=1000000) -implicitDefEqProofs only[go_sem,Nat.reduceAdd,Nat.reduceSub,Nat.reduceMul,Nat.reduceLeDiff,Nat.reduceEqDiff,Nat.reduceGT,Nat.reduceBEq,reduceCtorEq,↓reduceIte,Int.reduceToNat,Int.reduceLE,Int.reduceLT,Int.reduceNe,Int.reduceEq,hy,e2,n1,n2,n3,n4,n5,hli,i1,i3k,hm8];rw[hrj];refine⟨by omega,by omega,hjl,?_,?_⟩
        ·rw[Xp];exact .refl _
        ·rw[XB];exact .refl _
       |false=>
        have hrj:=Mo (x:=i) (p:=p) hy hpk;simp(maxDischargeDepth:=12) (maxSteps:=1000000) -implicitDefEqProofs only[go_sem,Nat.reduceAdd,Nat.reduceSub,Nat.reduceMul,Nat.reduceLeDiff,Nat.reduceEqDiff,Nat.reduceGT,Nat.reduceBEq,reduceCtorEq,↓reduceIte,Int.reduceToNat,Int.reduceLE,Int.reduceLT,Int.reduceNe,Int.reduceEq,hy,e2,n1,n2,n3];rw[hrj];exact⟨hjl,.refl _,.refl _⟩
      ·have hje:j=(cO f).length:=by omega
       subst hje;rw[EO];simp(maxDischargeDepth:=12) (maxSteps:=1000000) -implicitDefEqProofs only[go_sem,Nat.reduceAdd,Nat.reduceSub,Nat.reduceMul,Nat.reduceLeDiff,Nat.reduceEqDiff,Nat.reduceGT,Nat.reduceBEq,reduceCtorEq,↓reduceIte,Int.reduceToNat,Int.reduceLE,Int.reduceLT,Int.reduceNe,Int.reduceEq,n1,n2,n3];refine⟨fun h=>absurd h hjl,fun _=>?_⟩;refine QH [] [11] mx (by kernel_rfl) ?_;simp(maxDischargeDepth:=12) (maxSteps:=1000000) -implicitDefEqProofs only[go_sem,Nat.reduceAdd,Nat.reduceSub,Nat.reduceMul,Nat.reduceLeDiff,Nat.reduceEqDiff,Nat.reduceGT,Nat.reduceBEq,reduceCtorEq,↓reduceIte,Int.reduceToNat,Int.reduceLE,Int.reduceLT,Int.reduceNe,Int.reduceEq,n1,n2,n3,e1];rw[r1];refine⟨by omega,by unfold maxLen;omega,hil,?_,?_⟩
       ·rw[Xp];exact .refl _
       ·rw[XB];exact .aP (.qy (.qy (.refl _)))
  ·have hie:i=μ.l.length:=by omega
   subst hie;simp(maxDischargeDepth:=12) (maxSteps:=1000000) -implicitDefEqProofs only[go_sem,Nat.reduceAdd,Nat.reduceSub,Nat.reduceMul,Nat.reduceLeDiff,Nat.reduceEqDiff,Nat.reduceGT,Nat.reduceBEq,reduceCtorEq,↓reduceIte,Int.reduceToNat,Int.reduceLE,Int.reduceLT,Int.reduceNe,Int.reduceEq];refine⟨fun h=>absurd h hil,fun _=>?_⟩
   cases hso:ft c μ o μ.l.length with
   |false=>
    refine aj (aC w0 false 32 _ fun _=>(q32 hns hso).to (hH _)) ?_;rintro _ _ ⟨q,_⟩;cases q
   |true=>
    refine aj (aC w0 true 32 _ fun h=>by cases h) ?_;rintro _ _ ⟨_,rfl,rfl⟩;simp(maxDischargeDepth:=12) (maxSteps:=1000000) -implicitDefEqProofs only[go_sem,Nat.reduceAdd,Nat.reduceSub,Nat.reduceMul,Nat.reduceLeDiff,Nat.reduceEqDiff,Nat.reduceGT,Nat.reduceBEq,reduceCtorEq,↓reduceIte,Int.reduceToNat,Int.reduceLE,Int.reduceLT,Int.reduceNe,Int.reduceEq];exact⟨_,_,.refl _,.refl _,hns,lo,rfl,rfl⟩
end Go.Proofs.YtoepfmhnapedoaaGreatDoor
namespace Aml
open Go Go.RowKit
section
variable {P:Program} {w0:W0}
theorem Rel.Na{g:Gh}{S:St}{w:World}(h:Rel w0 g S w):Rel ⟨w0.w,g,w0.pq⟩ g S w:=⟨⟨h.below.base,h.below.obj,Gh.sub.refl g⟩,h.aO,h.nb,h.na,h.dt,h.fresh,h.top,h.own⟩
theorem Rel.LC{g0 g:Gh}{S:St}{w:World}(h:Rel ⟨w0.w,g0,w0.pq⟩ g S w)(k:w0.gh.sub g):Rel w0 g S w:=⟨⟨h.below.base,h.below.obj,k⟩,h.aO,h.nb,h.na,h.dt,h.fresh,h.top,h.own⟩
theorem yE{g:Gh}{s:Nat}{f:Bool}{xs:List DV}{u:Value}(r:aA g (.sl s f xs) u):u.oneCell'=true:=by
 generalize hd:DV.sl s f xs=d at r;cases r <;>first|(cases hd;done)|rfl|skip
 all_goals first|assumption|rfl|skip
theorem G4(i:Nat){s:Nat}{f:Bool}{xs:List DV}{c:Code}{fr:List DV}{S:St}{Q:Exit→List DV→St→Prop}(hi:fr[i]? =some (.sl s f xs))
 (h:∀(w1:W0) (u:Value),w1.w=w0.w→w1.pq=w0.pq→w0.gh.sub w1.gh→u.oneCell'=true→(∀g',w1.gh.sub g'→aA g' (.sl s f xs) u)→fF P w1 c (fr.set i (.v u)) S Q):fF P w0 c fr S Q:=by
 intro g a w h1 h2 h3;have hlt:i<fr.length:=(Xc.1 hi).1;obtain⟨u,hu⟩:∃u,a.tmps.toList[i]? =some u:=⟨_,Xb (by rw[←h2.len];exact hlt)⟩;have hr:=h2.at_ i _ u hi hu;have ho:=yE hr
 have h2':ae g (fr.set i (.v u)) a.tmps.toList:=by
  have:=h2.set i (d:= .v u) (u:=u) (.v u ho)
  have e:a.tmps.toList.set i u=a.tmps.toList:=by
   refine Ya fun j=>?_;by_cases q:i=j
   ·subst q;rw[Yd (Xc.1 hu).1,hu]
   ·rw[Ye q]
  rw[e]at this;exact this
 have hsub:∀g',g.le g'→w0.gh.sub g':=fun g' k=>h1.below.dw.le k;have h3':Dk ⟨w0.w,g,w0.pq⟩ g a w:=h3;refine aR (h ⟨w0.w,g,w0.pq⟩ u rfl rfl h1.below.dw ho (fun g' k=>hr.of k.aO k.acc) g a w h1.Na h2' h3') ?_;rintro e a' w' ⟨hd,g',fr',S',k1,k2,k3,k4⟩;exact⟨hd,g',fr',S',k1,k2.LC (hsub g' k1),k3,by cases e <;>exact k4⟩
theorem vg{f:FuncId}{u:Value}{d:DV}{ds:List DV}{S:St}{K:DV→St→Prop}(hu:∀g',w0.gh.sub g'→aA g' d u)(h:aa P w0 f (d::ds) S K):aa P w0 f (.v u::ds) S K:=by
 intro g vs w h1 h2;refine h g vs w h1 ⟨h2.len,fun i d' u' q1 q2=>?_⟩
 cases i with
 |zero=>
  simp only[List.getElem?_cons_zero,Xw]at q1;subst q1;have:=h2.at_ 0 (.v u) u' rfl q2;rw[an this];exact hu g h1.below.dw
 |succ i=>exact h2.at_ (i+1) d' u' q1 q2
end
end Aml
namespace Go.Proofs.YtoepfmhnapedoaaGreatDoor
open Aml Go Rn Lat Grs
theorem Et(m:List hY):kz [] m=m:=by rw[kz]
theorem Du(l:List hY):kz l []=l:=by
 cases l with
 |nil=>rw[kz]
 |cons a l=>rw[kz];intro h;cases h
theorem xM(a b:hY)(l m:List hY):kz (a::l) (b::m)=if qW b a then b::kz (a::l) m else a::kz l (b::m):=by rw[kz]
theorem tL:∀(n:Nat) (l m:List hY),l.length+m.length≤n→(kz l m).length=l.length+m.length
 |_,[],m,_=>by rw[Et];simp
 |_,a::l,[],_=>by rw[Du];simp
 |0,a::l,b::m,h=>by simp at h
 |n+1,a::l,b::m,h=>by
  rw[xM];simp only[Xo]at h;split
  ·rw[Xo,tL n (a::l) m (by simp only[Xo];omega)];simp only[Xo];omega
  ·rw[Xo,tL n l (b::m) (by simp only[Xo];omega)];simp only[Xo];omega
theorem jv(B:List (Nat×List DV))(A:List (Nat×Ob)):Has ⟨B,[]⟩ ⟨B,A⟩:=⟨fun _ _ q=>q,fun l o q=>by cases q⟩
theorem Mw(w0:W0)(l m:List hY)(h0:l.length+m.length≤104857600)(S:St):aa Tryz.prog w0 160 [cR l,cR m] S (fun d S'=>d=cR (kz l m)∧S'=S):=by
 refine cb [8] mx Tryz.func160 rfl rfl (by kernel_rfl) ?_;simp(maxDischargeDepth:=12) (maxSteps:=1000000) -implicitDefEqProofs only[Tryz.ntmps160,go_sem,Nat.reduceAdd,Nat.reduceSub,Nat.reduceMul,Nat.reduceLeDiff,Nat.reduceEqDiff,Nat.reduceGT,Nat.reduceBEq,reduceCtorEq,↓reduceIte,Int.reduceToNat,Int.reduceLE,Int.reduceLT,Int.reduceNe,Int.reduceEq];intro b2 b3;have n1:=av b3 b2.n (by simp(maxDischargeDepth:=12) (maxSteps:=1000000) -implicitDefEqProofs only[go_sem,Nat.reduceAdd,Nat.reduceSub,Nat.reduceMul,Nat.reduceLeDiff,Nat.reduceEqDiff,Nat.reduceGT,Nat.reduceBEq,reduceCtorEq,↓reduceIte,Int.reduceToNat,Int.reduceLE,Int.reduceLT,Int.reduceNe,Int.reduceEq]);have n1':(b2.n=b3.n)=False:=by rw[←n1];exact propext eq_comm
 have e0:=Nl l.length m.length (by omega);simp(maxDischargeDepth:=12) (maxSteps:=1000000) -implicitDefEqProofs only[go_sem,Nat.reduceAdd,Nat.reduceSub,Nat.reduceMul,Nat.reduceLeDiff,Nat.reduceEqDiff,Nat.reduceGT,Nat.reduceBEq,reduceCtorEq,↓reduceIte,Int.reduceToNat,Int.reduceLE,Int.reduceLT,Int.reduceNe,Int.reduceEq,n1,n1',e0];refine⟨by omega,by omega,fun lo=>?_⟩;refine cY [8] [2,3,5] (σ:=List hY×List hY×List hY) (fun s=>[(5,.acc lo.n s.1.length)]) (fun s=>⟨(b3.n,[cR s.2.2])::(b2.n,[cR s.2.1])::S.box,(lo.n,.arr 3 (s.1.map pQ))::S.acc⟩) (fun s=>s.1++kz s.2.1 s.2.2=kz l m∧s.1.length+s.2.1.length+s.2.2.length=l.length+m.length) (fun s=>s.2.1.length+s.2.2.length) ([],l,m) mx (by kernel_rfl) ⟨by simp,?_⟩ ?_
 ·simp(maxDischargeDepth:=12) (maxSteps:=1000000) -implicitDefEqProofs only[go_sem,Nat.reduceAdd,Nat.reduceSub,Nat.reduceMul,Nat.reduceLeDiff,Nat.reduceEqDiff,Nat.reduceGT,Nat.reduceBEq,reduceCtorEq,↓reduceIte,Int.reduceToNat,Int.reduceLE,Int.reduceLT,Int.reduceNe,Int.reduceEq]
 ·rintro⟨o,l',m'⟩ ⟨h1,h2⟩;simp only at h1 h2;have hm8:maxLen=9223372036854775807:=rfl;have z0:((0:Int)>0)=False:=by simp
  have zp:∀n:Nat,(((n+1:Nat):Int)>0)=True:=fun n=>eq_true (by omega);rcases l' with _|⟨a,l'⟩
  ·rw[Et]at h1;simp only[XP]at h2;simp(maxDischargeDepth:=12) (maxSteps:=1000000) -implicitDefEqProofs only[go_sem,Nat.reduceAdd,Nat.reduceSub,Nat.reduceMul,Nat.reduceLeDiff,Nat.reduceEqDiff,Nat.reduceGT,Nat.reduceBEq,reduceCtorEq,↓reduceIte,Int.reduceToNat,Int.reduceLE,Int.reduceLT,Int.reduceNe,Int.reduceEq,n1,n1',z0]
   try refine⟨fun h=>by omega,fun _=>?_⟩
   refine Y.PV ⟨(b3.n,[cR m'])::(b2.n,[cR []])::S.box,[]⟩ ⟨[],[]⟩ [2,4] [] [0,1,3,2,4,5] mx (by kernel_rfl) (fun T _=>Y.pg T) ?_;simp(maxDischargeDepth:=12) (maxSteps:=1000000) -implicitDefEqProofs only[go_sem,Nat.reduceAdd,Nat.reduceSub,Nat.reduceMul,Nat.reduceLeDiff,Nat.reduceEqDiff,Nat.reduceGT,Nat.reduceBEq,reduceCtorEq,↓reduceIte,Int.reduceToNat,Int.reduceLE,Int.reduceLT,Int.reduceNe,Int.reduceEq,n1,n1',hm8];refine⟨jv _ _,jv _ _,by omega,by omega,jv _ _,by omega,by omega,jv _ _,?_⟩;rw[h1];exact .refl _
  ·rcases m' with _|⟨b,m'⟩
   ·rw[Du]at h1;simp only[XP,Xo]at h2;simp(maxDischargeDepth:=12) (maxSteps:=1000000) -implicitDefEqProofs only[go_sem,Nat.reduceAdd,Nat.reduceSub,Nat.reduceMul,Nat.reduceLeDiff,Nat.reduceEqDiff,Nat.reduceGT,Nat.reduceBEq,reduceCtorEq,↓reduceIte,Int.reduceToNat,Int.reduceLE,Int.reduceLT,Int.reduceNe,Int.reduceEq,n1,n1',z0,zp l'.length];refine Y.PV ⟨(b3.n,[cR []])::(b2.n,[cR (a::l')])::S.box,[]⟩ ⟨[],[]⟩ [2,4] [] [0,1,3,2,4,5] mx (by kernel_rfl) (fun T _=>Y.pg T) ?_;simp(maxDischargeDepth:=12) (maxSteps:=1000000) -implicitDefEqProofs only[go_sem,Nat.reduceAdd,Nat.reduceSub,Nat.reduceMul,Nat.reduceLeDiff,Nat.reduceEqDiff,Nat.reduceGT,Nat.reduceBEq,reduceCtorEq,↓reduceIte,Int.reduceToNat,Int.reduceLE,Int.reduceLT,Int.reduceNe,Int.reduceEq,n1,n1',hm8];refine⟨jv _ _,jv _ _,by omega,by omega,jv _ _,by omega,by omega,jv _ _,?_⟩;rw[←h1];simp only[XB,XE];exact .refl _
   ·simp only[Xo]at h2;simp(maxDischargeDepth:=12) (maxSteps:=1000000) -implicitDefEqProofs only[go_sem,Nat.reduceAdd,Nat.reduceSub,Nat.reduceMul,Nat.reduceLeDiff,Nat.reduceEqDiff,Nat.reduceGT,Nat.reduceBEq,reduceCtorEq,↓reduceIte,Int.reduceToNat,Int.reduceLE,Int.reduceLT,Int.reduceNe,Int.reduceEq,n1,n1',zp l'.length,zp m'.length];refine df (IY _ b a _) ?_
    cases hlt:qW b a with
    |true=>
     simp(maxDischargeDepth:=12) (maxSteps:=1000000) -implicitDefEqProofs only[go_sem,Nat.reduceAdd,Nat.reduceSub,Nat.reduceMul,Nat.reduceLeDiff,Nat.reduceEqDiff,Nat.reduceGT,Nat.reduceBEq,reduceCtorEq,↓reduceIte,Int.reduceToNat,Int.reduceLE,Int.reduceLT,Int.reduceNe,Int.reduceEq,n1,n1',hm8];rw[xM,if_pos hlt]at h1;refine⟨by omega,by omega,by omega,by omega,⟨o++[b],a::l',m'⟩,⟨by simpa using h1,by simp only[Xp,Xo,XP];omega⟩,by simp only[Xo];omega,by simp only[Xp,Y4];exact .refl _,by simp only[XB];exact .refl _⟩
    |false=>
     simp(maxDischargeDepth:=12) (maxSteps:=1000000) -implicitDefEqProofs only[go_sem,Nat.reduceAdd,Nat.reduceSub,Nat.reduceMul,Nat.reduceLeDiff,Nat.reduceEqDiff,Nat.reduceGT,Nat.reduceBEq,reduceCtorEq,↓reduceIte,Int.reduceToNat,Int.reduceLE,Int.reduceLT,Int.reduceNe,Int.reduceEq,n1,n1',hm8];rw[xM,if_neg (by rw[hlt];simp)]at h1;refine⟨by omega,by omega,by omega,by omega,⟨o++[a],l',b::m'⟩,⟨by simpa using h1,by simp only[Xp,Xo,XP];omega⟩,by simp only[Xo];omega,by simp only[Xp,Y4];exact .refl _,by simp only[XB];exact .refl _⟩
theorem HQ(rows:List (List hY)):(rows.foldl kz []).length=(lE rows).length:=by
 have key:∀(rows:List (List hY)) (x:List hY),(rows.foldl kz x).length=x.length+(lE rows).length:=by
  intro rows
  induction rows with
  |nil=>intro x;simp[lE]
  |cons r rows ih=>
   intro x;rw[List.foldl_cons,ih,tL _ _ _ (Xg _)];simp[lE];omega
 rw[key];simp
theorem GN{rows:List (List hY)}{k:Nat}{a:List hY}(h:rows[k]? =some a):(rows.take (k+1)).foldl kz []=kz ((rows.take k).foldl kz []) a:=by
 rw[X8,h,Zp];rfl
theorem Ij(w0:W0)(rows:List (List hY))(most:Int)(h0:rows.length≤1048576)(h1:(lE rows).length≤1048576)(hs:∀l,l∈rows→∀i x y,l[i]? =some x→l[i+1]? =some y→qW y x=false)(S:St):
 aa Tryz.prog w0 126 [.sl 1 false (rows.map cR),dI most] S (fun d S'=>d=cR (OJ rows most)∧S'=S):=by
 refine cb [] mx Tryz.func126 rfl rfl (by kernel_rfl) ?_;simp(maxDischargeDepth:=12) (maxSteps:=1000000) -implicitDefEqProofs only[Tryz.ntmps126,go_sem,Nat.reduceAdd,Nat.reduceSub,Nat.reduceMul,Nat.reduceLeDiff,Nat.reduceEqDiff,Nat.reduceGT,Nat.reduceBEq,reduceCtorEq,↓reduceIte,Int.reduceToNat,Int.reduceLE,Int.reduceLT,Int.reduceNe,Int.reduceEq];refine aX [1001] rows.length [1,5,10,11,12] (fun i=>[(5,cR ((rows.take i).foldl kz [])),(12,dI i)]) (fun _=>S) (fun _=>True) mx (by kernel_rfl) ?_ ?_
 ·simp(maxDischargeDepth:=12) (maxSteps:=1000000) -implicitDefEqProofs only[go_sem,Nat.reduceAdd,Nat.reduceSub,Nat.reduceMul,Nat.reduceLeDiff,Nat.reduceEqDiff,Nat.reduceGT,Nat.reduceBEq,reduceCtorEq,↓reduceIte,Int.reduceToNat,Int.reduceLE,Int.reduceLT,Int.reduceNe,Int.reduceEq];exact .Tq _ _ _
 ·intro i hi _;by_cases hil:i<rows.length
  ·have e1:IntKind.i64.wrap ((i:Int)+1)=((i+1:Nat):Int):=aH (by omega);have hx:rows[i]? =some rows[i]:=Xb hil;have hus:=GN hx;have hfs:=pS hx;have hfl:=za rows (i+1);have hsi:=hs _ (List.getElem_mem hil);have hul:=HQ (rows.take i);generalize rows[i]=l at hx hus hfs hsi;rw[hfs,Xp]at hfl;simp(maxDischargeDepth:=12) (maxSteps:=1000000) -implicitDefEqProofs only[go_sem,Nat.reduceAdd,Nat.reduceSub,Nat.reduceMul,Nat.reduceLeDiff,Nat.reduceEqDiff,Nat.reduceGT,Nat.reduceBEq,reduceCtorEq,↓reduceIte,Int.reduceToNat,Int.reduceLE,Int.reduceLT,Int.reduceNe,Int.reduceEq,hx,e1];refine⟨fun _=>?_,fun h=>absurd hil h⟩;refine G4 5 rfl fun w1 u hw1 hp1 hs1 ho hu=>LW [] mx (by kernel_rfl) ?_;simp(maxDischargeDepth:=12) (maxSteps:=1000000) -implicitDefEqProofs only[go_sem,Nat.reduceAdd,Nat.reduceSub,Nat.reduceMul,Nat.reduceLeDiff,Nat.reduceEqDiff,Nat.reduceGT,Nat.reduceBEq,reduceCtorEq,↓reduceIte,Int.reduceToNat,Int.reduceLE,Int.reduceLT,Int.reduceNe,Int.reduceEq,hx,e1];refine⟨hil,?_⟩;refine aw (JE w1 l _ (by omega)) ?_;simp(maxDischargeDepth:=12) (maxSteps:=1000000) -implicitDefEqProofs only[go_sem,Nat.reduceAdd,Nat.reduceSub,Nat.reduceMul,Nat.reduceLeDiff,Nat.reduceEqDiff,Nat.reduceGT,Nat.reduceBEq,reduceCtorEq,↓reduceIte,Int.reduceToNat,Int.reduceLE,Int.reduceLT,Int.reduceNe,Int.reduceEq];refine aw (EX w1 l (by omega) hsi _) ?_;simp(maxDischargeDepth:=12) (maxSteps:=1000000) -implicitDefEqProofs only[go_sem,Nat.reduceAdd,Nat.reduceSub,Nat.reduceMul,Nat.reduceLeDiff,Nat.reduceEqDiff,Nat.reduceGT,Nat.reduceBEq,reduceCtorEq,↓reduceIte,Int.reduceToNat,Int.reduceLE,Int.reduceLT,Int.reduceNe,Int.reduceEq,ho];refine⟨ho,aw (vg hu (Mw w1 ((rows.take i).foldl kz []) l (by omega) _)) ?_⟩;rw[hus];simp(maxDischargeDepth:=12) (maxSteps:=1000000) -implicitDefEqProofs only[go_sem,Nat.reduceAdd,Nat.reduceSub,Nat.reduceMul,Nat.reduceLeDiff,Nat.reduceEqDiff,Nat.reduceGT,Nat.reduceBEq,reduceCtorEq,↓reduceIte,Int.reduceToNat,Int.reduceLE,Int.reduceLT,Int.reduceNe,Int.reduceEq,e1];exact hil
  ·have hie:i=rows.length:=by omega
   subst hie;rw[XL (Xg _)];simp(maxDischargeDepth:=12) (maxSteps:=1000000) -implicitDefEqProofs only[go_sem,Nat.reduceAdd,Nat.reduceSub,Nat.reduceMul,Nat.reduceLeDiff,Nat.reduceEqDiff,Nat.reduceGT,Nat.reduceBEq,reduceCtorEq,↓reduceIte,Int.reduceToNat,Int.reduceLE,Int.reduceLT,Int.reduceNe,Int.reduceEq];refine⟨fun h=>absurd h hil,fun _=>?_⟩
   have hmin:(if((rows.foldl kz []).length:Int)<if most<0 then 0 else most then((rows.foldl kz []).length:Int)else if most<0 then 0 else most).toNat=min most.toNat (rows.foldl kz []).length:=by
    split <;>split at* <;>omega
   have hmin2:0≤(if((rows.foldl kz []).length:Int)<if most<0 then 0 else most then((rows.foldl kz []).length:Int)else if most<0 then 0 else most)∧(if((rows.foldl kz []).length:Int)<if most<0 then 0 else most then((rows.foldl kz []).length:Int)else if most<0 then 0 else most)≤((rows.foldl kz []).length:Int):=by
    split <;>split at* <;>omega
   rw[hmin];refine⟨hmin2.1,hmin2.2,?_⟩
   have e:OJ rows most=(rows.foldl kz []).take (min most.toNat (rows.foldl kz []).length):=by
    unfold OJ;rw[←List.take_take,List.take_length]
   rw[e];exact .refl _
end Go.Proofs.YtoepfmhnapedoaaGreatDoor
namespace Go.Proofs.YtoepfmhnapedoaaGreatDoor
open Aml Go Rn Lat Grs
def um(F:gu):Prop:=∀n f,F n=some f→n.length≤1000∧∀k v,f k=some v→k.length≤1000∧v.length≤1000
structure fx(N:Nat)(c:Cf)(μ:bc):Prop where
 n:μ.l.length≤64
 nl:μ.l.length=c.up.length
 r:μ.r.length≤N
 la:oq μ.r N
 CX:jh μ.r
 sp:∀lv n k,k∈Bg μ.r lv n→∃Fs,μ.sn lv n k=some Fs∧Fs.length=μ.l.length
 au:∀l,l∈μ.l→l.au.length≤N
 sz:∀l,l∈μ.l→um l.F∧um l.D
theorem Mc(a b:List UInt8):xF a b=decide (a<b):=Go.Proofs.bytesLess_eq a b
theorem wW{α:Type}(f:List UInt8→Option α):(cO f).Pairwise (·≤·):=by
 unfold cO;split
 ·exact jR _
 ·exact .nil
theorem Fl{es:List (Value×DV×Nat)}{α:Type}{d:α→DV}{f:List UInt8→Option α}(h:∀k,aJ es (kT k)=(f k).map d):(cO f).length≤es.length:=by
 unfold cO;split
 ·rename_i hx;rw[jw];have h1:((hx.choose).map kT).Nodup:=aN (fun x y h=>dy h) hx.choose_spec.1
  have h2:(hx.choose).map kT⊆es.map (·.1):=fun u hu=>by
   obtain⟨v,hv,rfl⟩:=Xq.1 hu;have h3:=(hx.choose_spec.2 v).1 hv;obtain⟨x,hx'⟩:=XH.1 h3;have h4:=h v;rw[hx']at h4;obtain⟨b,hm⟩:=lL h4;exact Xq.2 ⟨_,hm,rfl⟩
  have:=bN h1 h2;simpa using this
 ·simp
theorem vG(x:Nat)(p:List UInt8→Bool)(f:Option (List UInt8→Option (List UInt8))):∀i a b,(pI x p f)[i]? =some a→(pI x p f)[i+1]? =some b→qW b a=false:=by
 intro i a b h1 h2;unfold pI at h1 h2
 cases f with
 |none=>simp at h1
 |some f=>
  simp only[Xi,Xh]at h1 h2;obtain⟨k1,q1,rfl⟩:=h1;obtain⟨k2,q2,rfl⟩:=h2;have hp:=(wW f).sublist (List.filter_sublist (p:=p) (l:=cO f));obtain⟨l1,e1⟩:=Xc.1 q1;obtain⟨l2,e2⟩:=Xc.1 q2;have:=(Yv.1 hp) i (i+1) l1 l2 (by omega);rw[e1,e2]at this;unfold qW;simp only[Mc,Bool.or_eq_false_iff,decide_eq_false_iff_not,Bool.and_eq_false_iff];exact⟨List.not_lt.2 this,.inr (by omega)⟩
section
variable {w0:W0} {S:St} {g:MG} {N:Nat} {c:Cf} {μ:bc} {w own:Nat} {o:bl} {full:Bool}
theorem lV.has{T:St}(h:lV S g w own o full)(k:Has S T):lV T g w own o full:=⟨k.box _ _ h.k,h.l,h.p,h.f,h.s⟩
theorem FV(w0:W0)(hI:MI S g N c μ)(hw:lV S g w own o full)(hs:o.snap≠0→∃Fs,μ.sn o.level o.aB o.snap=some Fs∧Fs.length=μ.l.length){x:Nat}(hx:x<μ.l.length)(p:List UInt8→Bool):(pI x p (gk μ o x o.bucket)).length≤N:=by
 obtain⟨m,ids,hB,_⟩:=Lc w0 hI hw hs hx;unfold pI
 cases hf:gk μ o x o.bucket with
 |none=>simp
 |some f=>
  obtain⟨i,hi⟩:=bF (fun q=>by rw[(hB.some_ _).1 q]at hf;cases hf);obtain⟨es,cl,g1,g2,g3⟩:=hB.low _ i f hi hf;simp only[XS];have h1:=List.length_filter_le p (cO f);have h2:=Fl g3;omega
theorem rN{α:Type}{rows:List (List α)}{n:Nat}(h:∀r,r∈rows→r.length≤n):(lE rows).length≤rows.length*n:=by
 induction rows with
 |nil=>simp[lE]
 |cons r rows ih=>
  have h1:=ih fun q hq=>h q (Xj _ hq);have h2:=h r Xm;simp only[lE,List.flatten_cons,Xp,Xo]at h1 ⊢;rw[X9];omega
theorem nC(w0:W0)(hI:MI S g N c μ)(hM:fx N c μ)(hN:N≤10000)(hw:lV S g w own o full)(hs:o.snap≠0→∃Fs,μ.sn o.level o.aB o.snap=some Fs∧Fs.length=μ.l.length)(p:List UInt8→Bool):(lE (bG c μ o p μ.l.length)).length≤640000:=by
 have h1:=rN (rows:=bG c μ o p μ.l.length) (n:=N) fun r hr=>by
  unfold bG at hr;obtain⟨x,hx,rfl⟩:=Xq.1 hr;unfold iB at hx;exact FV w0 hI hw hs (Yf.1 (Y3.1 hx).1) p
 have h2:=j9 c μ o p μ.l.length;have h3:=hM.n;have h4:(bG c μ o p μ.l.length).length*N≤64*10000:=Nat.mul_le_mul (by omega) hN;omega
theorem sE(p:List UInt8→Bool):∀l,l∈bG c μ o p μ.l.length→∀i x y,l[i]? =some x→l[i+1]? =some y→qW y x=false:=fun l hl=>by
 unfold bG at hl;obtain⟨x,hx,rfl⟩:=Xq.1 hl;exact vG x p _
theorem Aa(R:List hY):Wk (.agg [dI 0,dI 0,cR R,dI 0,dI 0,dI 0,dI 0,.sl 0 true []]) (Hx ⟨0,0,R,[]⟩):= .agg ⟨.refl _,.refl _,.refl _,.refl _,.refl _,.refl _,.refl _,.nil _ _ _,trivial⟩
theorem Sy(hI:MI S g N c μ)(hM:fx N c μ)(hN:N≤10000)(hw:lV S g w own o full)(hq:∀e,getM c μ o= .inl e→wS w0 S g N c μ e):aa Tryz.prog w0 77 [bg w] S (ku S g (N+1) c (getM c μ o)):=by
 have hwk:=hw.k;have hn:=hM.n;refine mi [] mx Tryz.func77 rfl rfl (by kernel_rfl) ?_;simp(maxDischargeDepth:=12) (maxSteps:=1000000) -implicitDefEqProofs only[Tryz.ntmps77,go_sem,Nat.reduceAdd,Nat.reduceSub,Nat.reduceMul,Nat.reduceLeDiff,Nat.reduceEqDiff,Nat.reduceGT,Nat.reduceBEq,reduceCtorEq,↓reduceIte,Int.reduceToNat,Int.reduceLE,Int.reduceLT,Int.reduceNe,Int.reduceEq];intro b1 b2;have n1:=av b2 b1.n (by simp(maxDischargeDepth:=12) (maxSteps:=1000000) -implicitDefEqProofs only[go_sem,Nat.reduceAdd,Nat.reduceSub,Nat.reduceMul,Nat.reduceLeDiff,Nat.reduceEqDiff,Nat.reduceGT,Nat.reduceBEq,reduceCtorEq,↓reduceIte,Int.reduceToNat,Int.reduceLE,Int.reduceLT,Int.reduceNe,Int.reduceEq]);have hH:Has S ⟨(b2.n,[dI 0,dI 0,.sl 0 true [],dI 0,dI 0,dI 0,dI 0,.sl 0 true []])::(b1.n,[bg w])::S.box,S.acc⟩:=⟨fun b x q=>ai (ak b2) (ai (ak b1) q),fun _ _ q=>q⟩;refine aj (Lj w0 (hI.has hH) (hw.has hH) hN hn hM.la (by omega) (fun h1 h2=>hM.sp _ _ _ h2) (fun k=>decide (k=o.key)) 125 b1.n (by kernel_rfl) (fun k T hT=>Sw w0 (hT.box _ _ (by simp(maxDischargeDepth:=12) (maxSteps:=1000000) -implicitDefEqProofs only[go_sem,Nat.reduceAdd,Nat.reduceSub,Nat.reduceMul,Nat.reduceLeDiff,Nat.reduceEqDiff,Nat.reduceGT,Nat.reduceBEq,reduceCtorEq,↓reduceIte,Int.reduceToNat,Int.reduceLE,Int.reduceLT,Int.reduceNe,Int.reduceEq,n1])) (hT.box _ _ (hH.box _ _ hwk)) k) (fun h=>((hq 39 (by unfold getM;rw[if_pos h])).er hI).to hH) (fun h1 h2=>((hq 32 (by unfold getM;rw[if_neg h1,if_pos h2])).er hI).to hH)) ?_;rintro _ _ ⟨hns,hso,lo,rfl,rfl⟩;have hs:o.snap≠0→∃Fs,μ.sn o.level o.aB o.snap=some Fs∧Fs.length=μ.l.length:=fun h=>hM.sp _ _ _ (Xs.1 fun q=>hns ⟨h,q⟩);have hb:=nC w0 hI hM hN hw hs (fun k=>decide (k=o.key));have hrl:=j9 c μ o (fun k=>decide (k=o.key)) μ.l.length;simp(maxDischargeDepth:=12) (maxSteps:=1000000) -implicitDefEqProofs only[go_sem,Nat.reduceAdd,Nat.reduceSub,Nat.reduceMul,Nat.reduceLeDiff,Nat.reduceEqDiff,Nat.reduceGT,Nat.reduceBEq,reduceCtorEq,↓reduceIte,Int.reduceToNat,Int.reduceLE,Int.reduceLT,Int.reduceNe,Int.reduceEq];refine .inr (aw (GK w0 (bG c μ o (fun k=>decide (k=o.key)) μ.l.length) _ (by omega) (by omega)) ?_);generalize hR:lE (bG c μ o (fun k=>decide (k=o.key)) μ.l.length)=R at hb
 have hg:getM c μ o=if R=[]then .inl 33 else .inr (⟨0,0,R,[]⟩,μ):=by
  unfold getM;rw[if_neg hns,if_neg (by rw[hso];simp)];simp only[←hR,lE]
 cases R with
 |nil=>
  simp(maxDischargeDepth:=12) (maxSteps:=1000000) -implicitDefEqProofs only[go_sem,Nat.reduceAdd,Nat.reduceSub,Nat.reduceMul,Nat.reduceLeDiff,Nat.reduceEqDiff,Nat.reduceGT,Nat.reduceBEq,reduceCtorEq,↓reduceIte,Int.reduceToNat,Int.reduceLE,Int.reduceLT,Int.reduceNe,Int.reduceEq,n1];refine aj (aC w0 false 33 _ fun _=>(((hq 33 (by rw[hg];rfl)).er hI).to hH).to ⟨fun _ _ q=>q,fun l x q=>ai (ak lo) q⟩) ?_;rintro _ _ ⟨q,_⟩;cases q
 |cons a R=>
  have zp:∀n:Nat,(((n+1:Nat):Int)>0)=True:=fun n=>eq_true (by omega);simp(maxDischargeDepth:=12) (maxSteps:=1000000) -implicitDefEqProofs only[go_sem,Nat.reduceAdd,Nat.reduceSub,Nat.reduceMul,Nat.reduceLeDiff,Nat.reduceEqDiff,Nat.reduceGT,Nat.reduceBEq,reduceCtorEq,↓reduceIte,Int.reduceToNat,Int.reduceLE,Int.reduceLT,Int.reduceNe,Int.reduceEq,n1,zp R.length];refine aj (aC w0 true 33 _ fun h=>by cases h) ?_;rintro _ _ ⟨_,rfl,rfl⟩;simp(maxDischargeDepth:=12) (maxSteps:=1000000) -implicitDefEqProofs only[go_sem,Nat.reduceAdd,Nat.reduceSub,Nat.reduceMul,Nat.reduceLeDiff,Nat.reduceEqDiff,Nat.reduceGT,Nat.reduceBEq,reduceCtorEq,↓reduceIte,Int.reduceToNat,Int.reduceLE,Int.reduceLT,Int.reduceNe,Int.reduceEq,n1];exact⟨_,_,.refl _,.aP (.aP (.qy (.refl _))),⟨0,0,a::R,[]⟩,μ,g,by rw[hg];exact if_neg (by simp),Aa (a::R),hI.le (XI N),.refl _ _⟩
theorem Pe(hI:MI S g N c μ)(hM:fx N c μ)(hN:N≤10000)(hw:lV S g w own o full)(hq:∀e,fw c μ o= .inl e→wS w0 S g N c μ e):aa Tryz.prog w0 78 [bg w] S (ku S g (N+1) c (fw c μ o)):=by
 have hwk:=hw.k;have hn:=hM.n;refine mi [1] mx Tryz.func78 rfl rfl (by kernel_rfl) ?_;simp(maxDischargeDepth:=12) (maxSteps:=1000000) -implicitDefEqProofs only[Tryz.ntmps78,go_sem,Nat.reduceAdd,Nat.reduceSub,Nat.reduceMul,Nat.reduceLeDiff,Nat.reduceEqDiff,Nat.reduceGT,Nat.reduceBEq,reduceCtorEq,↓reduceIte,Int.reduceToNat,Int.reduceLE,Int.reduceLT,Int.reduceNe,Int.reduceEq];intro b1 b2;have n1:=av b2 b1.n (by simp(maxDischargeDepth:=12) (maxSteps:=1000000) -implicitDefEqProofs only[go_sem,Nat.reduceAdd,Nat.reduceSub,Nat.reduceMul,Nat.reduceLeDiff,Nat.reduceEqDiff,Nat.reduceGT,Nat.reduceBEq,reduceCtorEq,↓reduceIte,Int.reduceToNat,Int.reduceLE,Int.reduceLT,Int.reduceNe,Int.reduceEq]);have hw1:(b1.n=w)=False:=eq_false fun e=>by have:=ak b1;rw[e,hwk]at this;cases this
 have hw2:(b2.n=w)=False:=av b2 w (by simp(maxDischargeDepth:=12) (maxSteps:=1000000) -implicitDefEqProofs only[go_sem,Nat.reduceAdd,Nat.reduceSub,Nat.reduceMul,Nat.reduceLeDiff,Nat.reduceEqDiff,Nat.reduceGT,Nat.reduceBEq,reduceCtorEq,↓reduceIte,Int.reduceToNat,Int.reduceLE,Int.reduceLT,Int.reduceNe,Int.reduceEq,hw1,hwk]);have hH:Has S ⟨(b2.n,[dI 0,dI 0,.sl 0 true [],dI 0,dI 0,dI 0,dI 0,.sl 0 true []])::(b1.n,[bg w])::S.box,S.acc⟩:=⟨fun b x q=>ai (ak b2) (ai (ak b1) q),fun _ _ q=>q⟩;refine Y.iM [2,9] [11] [1,0,3,4,5,6,7,2,8,9,10,11] mx (by kernel_rfl) ?_;simp(maxDischargeDepth:=12) (maxSteps:=1000000) -implicitDefEqProofs only[go_sem,Nat.reduceAdd,Nat.reduceSub,Nat.reduceMul,Nat.reduceLeDiff,Nat.reduceEqDiff,Nat.reduceGT,Nat.reduceBEq,reduceCtorEq,↓reduceIte,Int.reduceToNat,Int.reduceLE,Int.reduceLT,Int.reduceNe,Int.reduceEq,n1,hwk,hw1,hw2];refine aj (Lj w0 (hI.has hH) (hw.has hH) hN hn hM.la (by omega) (fun h1 h2=>hM.sp _ _ _ h2) (fun k=>!xF k o.key) 127 b1.n (by kernel_rfl) (fun k T hT=>PZ w0 (hT.box _ _ (by simp(maxDischargeDepth:=12) (maxSteps:=1000000) -implicitDefEqProofs only[go_sem,Nat.reduceAdd,Nat.reduceSub,Nat.reduceMul,Nat.reduceLeDiff,Nat.reduceEqDiff,Nat.reduceGT,Nat.reduceBEq,reduceCtorEq,↓reduceIte,Int.reduceToNat,Int.reduceLE,Int.reduceLT,Int.reduceNe,Int.reduceEq,n1])) (hT.box _ _ (hH.box _ _ hwk)) k) (fun h=>((hq 39 (by unfold fw;rw[if_pos h])).er hI).to hH) (fun h1 h2=>((hq 32 (by unfold fw;rw[if_neg h1,if_pos h2])).er hI).to hH)) ?_;rintro _ _ ⟨hns,hso,lo,rfl,rfl⟩;have hs:o.snap≠0→∃Fs,μ.sn o.level o.aB o.snap=some Fs∧Fs.length=μ.l.length:=fun h=>hM.sp _ _ _ (Xs.1 fun q=>hns ⟨h,q⟩);have hb:=nC w0 hI hM hN hw hs (fun k=>!xF k o.key);have hrl:=j9 c μ o (fun k=>!xF k o.key) μ.l.length;have hsrt:=sE (c:=c) (μ:=μ) (o:=o) (fun k=>!xF k o.key);simp(maxDischargeDepth:=12) (maxSteps:=1000000) -implicitDefEqProofs only[go_sem,Nat.reduceAdd,Nat.reduceSub,Nat.reduceMul,Nat.reduceLeDiff,Nat.reduceEqDiff,Nat.reduceGT,Nat.reduceBEq,reduceCtorEq,↓reduceIte,Int.reduceToNat,Int.reduceLE,Int.reduceLT,Int.reduceNe,Int.reduceEq,n1,hwk,hw1,hw2];refine Y.kS (fun T hT=>Rk _ o.n T) ?_;simp(maxDischargeDepth:=12) (maxSteps:=1000000) -implicitDefEqProofs only[go_sem,Nat.reduceAdd,Nat.reduceSub,Nat.reduceMul,Nat.reduceLeDiff,Nat.reduceEqDiff,Nat.reduceGT,Nat.reduceBEq,reduceCtorEq,↓reduceIte,Int.reduceToNat,Int.reduceLE,Int.reduceLT,Int.reduceNe,Int.reduceEq,n1,hwk,hw1,hw2];refine .inr (aw (Ij w0 (bG c μ o (fun k=>!xF k o.key) μ.l.length) (qv o.n) (by omega) (by omega) hsrt _) ?_);simp(maxDischargeDepth:=12) (maxSteps:=1000000) -implicitDefEqProofs only[go_sem,Nat.reduceAdd,Nat.reduceSub,Nat.reduceMul,Nat.reduceLeDiff,Nat.reduceEqDiff,Nat.reduceGT,Nat.reduceBEq,reduceCtorEq,↓reduceIte,Int.reduceToNat,Int.reduceLE,Int.reduceLT,Int.reduceNe,Int.reduceEq,n1,hwk,hw1,hw2];exact⟨_,_,.refl _,.aP (.aP (.qy (.refl _))),_,μ,g,by unfold fw;rw[if_neg hns,if_neg (by rw[hso];simp)],Aa _,hI.le (XI N),.refl _ _⟩
end
end Go.Proofs.YtoepfmhnapedoaaGreatDoor
namespace Go.Proofs.YtoepfmhnapedoaaGreatDoor
open Aml Go Rn Lat Grs
section
variable {w0:W0} {S:St} {g:MG} {N:Nat} {c:Cf} {μ:bc} {w own:Nat} {o:bl} {full:Bool}
theorem Ol(hI:MI S g N c μ)(hw:lV S g w own o full)(hq:∀e,ia c μ o= .inl e→wS w0 S g N c μ e):aa Tryz.prog w0 81 [bg w] S (ku S g (N+1) c (ia c μ o)):=by
 refine(L5 w0 hw.k hI.md hI.up fun h=>(hq 31 (by unfold ia;exact if_pos h)).er hI).mono ?_;rintro _ _ ⟨h,rfl,rfl⟩;exact⟨gv 0,μ,g,by unfold ia;exact if_neg (by rw[h];simp),gZ,hI.le (XI N),.refl _ _⟩
theorem xB{up:List Nat}{x y:Int}(h:jl up x y=true):0≤x∧x.toNat<up.length:=by
 unfold jl cP at h;simp only[Xe,decide_eq_true_eq]at h;exact⟨h.1.1,h.2.1.1.2⟩
theorem zF(R:List C4):Wk (.agg [dI 0,dI 0,.sl 0 true [],dI 0,dI 0,dI 0,dI 0,.sl 6 false (R.map sg)]) (Hx ⟨0,0,[],R⟩):= .agg ⟨.refl _,.refl _,.nil _ _ _,.refl _,.refl _,.refl _,.refl _,.refl _,trivial⟩
theorem LV(hI:MI S g N c μ)(hM:fx N c μ)(hN:N≤10000)(hw:lV S g w own o full)(hq:∀e,fX c μ o= .inl e→wS w0 S g N c μ e):aa Tryz.prog w0 82 [bg w] S (ku S g (N+1) c (fX c μ o)):=by
 have hwk:=hw.k;have hmd:=hI.md;refine mi [] mx Tryz.func82 rfl rfl (by kernel_rfl) ?_;simp(maxDischargeDepth:=12) (maxSteps:=1000000) -implicitDefEqProofs only[Tryz.ntmps82,go_sem,Nat.reduceAdd,Nat.reduceSub,Nat.reduceMul,Nat.reduceLeDiff,Nat.reduceEqDiff,Nat.reduceGT,Nat.reduceBEq,reduceCtorEq,↓reduceIte,Int.reduceToNat,Int.reduceLE,Int.reduceLT,Int.reduceNe,Int.reduceEq];intro b2;have hw2:(b2.n=w)=False:=eq_false fun e=>by have:=ak b2;rw[e,hwk]at this;cases this
 have hm2:(b2.n=g.m)=False:=eq_false fun e=>by have:=ak b2;rw[e,hmd]at this;cases this
 have hH:Has S ⟨(b2.n,[dI 0,dI 0,.sl 0 true [],dI 0,dI 0,dI 0,dI 0,.sl 0 true []])::S.box,S.acc⟩:=⟨fun b x q=>ai (ak b2) q,fun _ _ q=>q⟩;simp(maxDischargeDepth:=12) (maxSteps:=1000000) -implicitDefEqProofs only[go_sem,Nat.reduceAdd,Nat.reduceSub,Nat.reduceMul,Nat.reduceLeDiff,Nat.reduceEqDiff,Nat.reduceGT,Nat.reduceBEq,reduceCtorEq,↓reduceIte,Int.reduceToNat,Int.reduceLE,Int.reduceLT,Int.reduceNe,Int.reduceEq,hwk,hw2];refine aw (mF w0 (hH.box _ _ hwk) (hH.box _ _ hmd) hI.up o.label) ?_
 cases hle:jl c.up o.label o.level with
 |false=>
  simp(maxDischargeDepth:=12) (maxSteps:=1000000) -implicitDefEqProofs only[go_sem,Nat.reduceAdd,Nat.reduceSub,Nat.reduceMul,Nat.reduceLeDiff,Nat.reduceEqDiff,Nat.reduceGT,Nat.reduceBEq,reduceCtorEq,↓reduceIte,Int.reduceToNat,Int.reduceLE,Int.reduceLT,Int.reduceNe,Int.reduceEq];refine aj (aC w0 false 31 _ fun _=>((hq 31 (by unfold fX;exact if_pos hle)).er hI).to hH) ?_;rintro _ _ ⟨q,_⟩;cases q
 |true=>
  obtain⟨hp,hlt⟩:=xB hle;have hlen:=hI.len;have hnl:=hM.nl;have hbx:g.ls[o.label.toNat]? =some (g.ls[o.label.toNat]'(by omega)):=Xb _;generalize g.ls[o.label.toNat]'(by omega)=bx at hbx;obtain⟨l,hl,b,ids,r,dr,h1,h2,h3,h4,h5,h6⟩:=hI.rz hbx;have el:=bD hl hp;have hx2:(b2.n=bx)=False:=eq_false fun e=>by have:=ak b2;rw[e,h1]at this;cases this
  have hau:=hM.au l (Xd hl);simp(maxDischargeDepth:=12) (maxSteps:=1000000) -implicitDefEqProofs only[go_sem,Nat.reduceAdd,Nat.reduceSub,Nat.reduceMul,Nat.reduceLeDiff,Nat.reduceEqDiff,Nat.reduceGT,Nat.reduceBEq,reduceCtorEq,↓reduceIte,Int.reduceToNat,Int.reduceLE,Int.reduceLT,Int.reduceNe,Int.reduceEq];refine aj (aC w0 true 31 _ fun h=>by cases h) ?_;rintro _ _ ⟨_,rfl,rfl⟩
  have key:∀z y:Int,(z=if(l.au.length:Int)<(if o.n<0 then 0 else o.n)then(l.au.length:Int)else(if o.n<0 then 0 else o.n))→(y=if 50<((l.au.length-z.toNat:Nat):Int)then 50 else((l.au.length-z.toNat:Nat):Int))→0≤z∧z≤(l.au.length:Int)∧0≤y∧y≤((l.au.length-z.toNat:Nat):Int)∧(l.au.drop z.toNat).take y.toNat=(l.au.drop o.n.toNat).take 50∧((l.au.drop o.n.toNat).take 50).length≤1048576:=by
   intro z y hz hy;have hz':z.toNat=min o.n.toNat l.au.length:=by rw[hz];split <;>split at* <;>omega
   have hzb:0≤z∧z≤(l.au.length:Int):=by rw[hz];constructor <;>split <;>split at* <;>omega
   have hy':y.toNat=min 50 (l.au.length-z.toNat):=by rw[hy];split <;>omega
   have hyb:0≤y∧y≤((l.au.length-z.toNat:Nat):Int):=by rw[hy];constructor <;>split <;>omega
   refine⟨hzb.1,hzb.2,hyb.1,hyb.2,?_,by rw[X3];omega⟩
   have e1:l.au.drop z.toNat=l.au.drop o.n.toNat:=by
    rw[hz'];by_cases q:o.n.toNat≤l.au.length
    ·rw[Y1 q]
    ·rw[Nat.min_eq_right (by omega),List.drop_of_length_le (Xg _),List.drop_of_length_le (by omega)]
   have e2:(l.au.drop o.n.toNat).length=l.au.length-z.toNat:=by rw[←e1,X7]
   rw[e1,hy',←e2,←List.take_take,List.take_length]
  have hg:fX c μ o= .inr (⟨0,0,[],(l.au.drop o.n.toNat).take 50⟩,μ):=by unfold fX;rw[if_neg (by rw[hle];simp),el]
  rcases h4 with h4|h4
  ·have e6:μ.l.set o.label.toNat l=μ.l:=by
    refine Ya fun i=>?_;by_cases q:o.label.toNat=i
    ·subst q;rw[Yd (Xc.1 hl).1,hl]
    ·rw[Ye q]
   have hne:∀i,g.own i≠ .au o.label.toNat→¬r=i:=fun i q e=>q (by rw[←e];exact h5);have hk:∀i v,g.own i≠ .au o.label.toNat→lk S.acc i=some v→lk (up S.acc r (Ob.tl 6 (l.au.map sg))) i=some v:=fun i v q1 q2=>by rw[ab (hne i q1)];exact q2
   have k1:=hI.BU (S':=⟨S.box,up S.acc r (Ob.tl 6 (l.au.map sg))⟩) (XI N) hbx g.own l (fun i v _ q=>q) (fun _ _ _=>rfl) (fun i v q1 q2 q=>hk i v (fun e=>q2 (by rw[e];exact rfl)) q) ⟨b,ids,r,dr,h1,(iV h2 h3 fun i v e q=>hk i v (by rw[e];simp) q).le (XI N),h3,.inr (cq h4),h5,fun q=>by
    obtain⟨d,idd,q1,q2,q3⟩:=h6 q;exact⟨d,idd,q1,(iV q2 q3 fun i v e q=>hk i v (by rw[e];simp) q).le (XI N),q3⟩⟩ fun i q=>gU (hI.lD i q)
   rw[e6]at k1;have k2:gz S ⟨S.box,up S.acc r (Ob.tl 6 (l.au.map sg))⟩ g g:=⟨rfl,fun i v _ q=>q,fun i v q1 q2=>hk i v (by rw[q1];simp) q2,fun i q=> .inl q,fun i q=> .inl q⟩;simp(maxDischargeDepth:=12) (maxSteps:=1000000) -implicitDefEqProofs only[go_sem,Nat.reduceAdd,Nat.reduceSub,Nat.reduceMul,Nat.reduceLeDiff,Nat.reduceEqDiff,Nat.reduceGT,Nat.reduceBEq,reduceCtorEq,↓reduceIte,Int.reduceToNat,Int.reduceLE,Int.reduceLT,Int.reduceNe,Int.reduceEq,hwk,hw2,hmd,hm2,hbx,h1,hx2,h4];generalize hz:(if(l.au.length:Int)<(if o.n<0 then 0 else o.n)then(l.au.length:Int)else(if o.n<0 then 0 else o.n))=z;generalize hy:(if 50<((l.au.length-z.toNat:Nat):Int)then(50:Int)else((l.au.length-z.toNat:Nat):Int))=y;obtain⟨z1,z2,z3,z4,z5,z6⟩:=key z y hz.symm hy.symm;rw[z5];refine⟨hp,by omega,z1,z2,z3,z4,aw (Ak w0 _ _ z6) ?_⟩;simp(maxDischargeDepth:=12) (maxSteps:=1000000) -implicitDefEqProofs only[go_sem,Nat.reduceAdd,Nat.reduceSub,Nat.reduceMul,Nat.reduceLeDiff,Nat.reduceEqDiff,Nat.reduceGT,Nat.reduceBEq,reduceCtorEq,↓reduceIte,Int.reduceToNat,Int.reduceLE,Int.reduceLT,Int.reduceNe,Int.reduceEq];exact⟨_,_,.refl _,.aP (.refl _),_,μ,g,hg,zF _,k1,k2⟩
  ·simp(maxDischargeDepth:=12) (maxSteps:=1000000) -implicitDefEqProofs only[go_sem,Nat.reduceAdd,Nat.reduceSub,Nat.reduceMul,Nat.reduceLeDiff,Nat.reduceEqDiff,Nat.reduceGT,Nat.reduceBEq,reduceCtorEq,↓reduceIte,Int.reduceToNat,Int.reduceLE,Int.reduceLT,Int.reduceNe,Int.reduceEq,hwk,hw2,hmd,hm2,hbx,h1,hx2,h4];generalize hz:(if(l.au.length:Int)<(if o.n<0 then 0 else o.n)then(l.au.length:Int)else(if o.n<0 then 0 else o.n))=z;generalize hy:(if 50<((l.au.length-z.toNat:Nat):Int)then(50:Int)else((l.au.length-z.toNat:Nat):Int))=y;obtain⟨z1,z2,z3,z4,z5,z6⟩:=key z y hz.symm hy.symm;rw[z5];refine⟨hp,by omega,z1,z2,z3,z4,aw (Ak w0 _ _ z6) ?_⟩;simp(maxDischargeDepth:=12) (maxSteps:=1000000) -implicitDefEqProofs only[go_sem,Nat.reduceAdd,Nat.reduceSub,Nat.reduceMul,Nat.reduceLeDiff,Nat.reduceEqDiff,Nat.reduceGT,Nat.reduceBEq,reduceCtorEq,↓reduceIte,Int.reduceToNat,Int.reduceLE,Int.reduceLT,Int.reduceNe,Int.reduceEq];exact⟨_,_,.refl _,.aP (.refl _),_,μ,g,hg,zF _,hI.le (XI N),.refl _ _⟩
end
end Go.Proofs.YtoepfmhnapedoaaGreatDoor
namespace Go.Proofs.YtoepfmhnapedoaaGreatDoor
open Aml Go Rn Lat Grs
section
variable {w0:W0} {S:St} {g:MG} {N:Nat} {c:Cf} {μ:bc} {w own:Nat} {o:bl} {full:Bool}
theorem GV{r:List RH}{lv n x:Int}(h:(mo r lv n x).2=false):(mo r lv n x).1=r:=by
 unfold mo at h ⊢;split <;>rename_i q
 ·simp only[q]at h ⊢;split <;>rename_i q2
  ·rfl
  ·rw[if_neg q2]at h;cases h
 ·rfl
theorem MI.R9{S S':St}{g:MG}{N M:Nat}{c:Cf}{μ:bc}(h:MI S g N c μ)(hNM:N≤M)(own':Nat→Ow)(sn':Int→Int→Int→Option (List gu))(hb:∀i v,i∈g.bx→lk S.box i=some v→lk S'.box i=some v)
 (ho:∀i,g.own i≠ .no→own' i=g.own i) (ha:∀i v,g.own i≠ .no→g.own i≠ .sm→lk S.acc i=some v→lk S'.acc i=some v) (hs:RB S' own' M g.sn sn') (hlv:∀i,own' i≠ .no→lk S'.acc i≠none):MI S' ⟨g.m,g.ls,g.θ,g.sn,own'⟩ M c ⟨μ.l,μ.r,sn'⟩ where
 md:=hb _ _ (by simp[MG.bx]) h.md
 up:=h.up
 len:=h.len
 nd:=h.nd
 xA:=h.xA
 lb:=fun x bx l h1 h2=>sD (h.lb x bx l h1 h2) hNM (fun v q=>hb bx v (by have:=Xd h1;simp[MG.bx,this]) q) (fun i q=>ho i fun e=>by rw[e]at q;exact q) fun i v q=>ha i v (fun e=>by rw[e]at q;exact q) fun e=>by rw[e]at q;exact q
 tb:=h.tb.mono (fun i v q=>hb i v (by simp[MG.bx,q])) fun i v q=>ha i v (by rw[h.uk i q];simp) (by rw[h.uk i q];simp)
 uk:=fun i q=>(ho i (by rw[h.uk i q];simp)).trans (h.uk i q)
 CK:=hs
 lX:=(ho _ (by rw[h.lX];simp)).trans h.lX
 lD:=hlv
theorem Iv(hI:MI S g N c μ)(hw:lV S g w own o full)(hq:∀e,db μ o= .inl e→wS w0 S g N c μ e):aa Tryz.prog w0 80 [bg w] S (ku S g (N+1) c (db μ o)):=by
 have hwk:=hw.k;have hmd:=hI.md;refine mi [1,2] mx Tryz.func80 rfl rfl (by kernel_rfl) ?_;simp(maxDischargeDepth:=12) (maxSteps:=1000000) -implicitDefEqProofs only[Tryz.ntmps80,go_sem,Nat.reduceAdd,Nat.reduceSub,Nat.reduceMul,Nat.reduceLeDiff,Nat.reduceEqDiff,Nat.reduceGT,Nat.reduceBEq,reduceCtorEq,↓reduceIte,Int.reduceToNat,Int.reduceLE,Int.reduceLT,Int.reduceNe,Int.reduceEq];intro b2;have hw2:(b2.n=w)=False:=eq_false fun e=>by have:=ak b2;rw[e,hwk]at this;cases this
 have hm2:(b2.n=g.m)=False:=eq_false fun e=>by have:=ak b2;rw[e,hmd]at this;cases this
 have hH:Has S ⟨(b2.n,[dI 0,dI 0,.sl 0 true [],dI 0,dI 0,dI 0,dI 0,.sl 0 true []])::S.box,S.acc⟩:=⟨fun b x q=>ai (ak b2) q,fun _ _ q=>q⟩;refine Y.iM [] [14,15] [0,1,2,7,9,10,11,12,3,4,5,6,8,13,14,15] mx (by kernel_rfl) ?_;simp(maxDischargeDepth:=12) (maxSteps:=1000000) -implicitDefEqProofs only[go_sem,Nat.reduceAdd,Nat.reduceSub,Nat.reduceMul,Nat.reduceLeDiff,Nat.reduceEqDiff,Nat.reduceGT,Nat.reduceBEq,reduceCtorEq,↓reduceIte,Int.reduceToNat,Int.reduceLE,Int.reduceLT,Int.reduceNe,Int.reduceEq,hwk,hw2,hmd,hm2];refine Y.kS (fun T hT=>dG _ (hT.box _ _ (hH.box _ _ hwk))) ?_;simp(maxDischargeDepth:=12) (maxSteps:=1000000) -implicitDefEqProofs only[go_sem,Nat.reduceAdd,Nat.reduceSub,Nat.reduceMul,Nat.reduceLeDiff,Nat.reduceEqDiff,Nat.reduceGT,Nat.reduceBEq,reduceCtorEq,↓reduceIte,Int.reduceToNat,Int.reduceLE,Int.reduceLT,Int.reduceNe,Int.reduceEq,hwk,hw2,hmd,hm2];have hIb:=hI.has hH;refine aj (Ia w0 hIb.tb o.level o.aB o.snap) ?_;rintro _ T ⟨rfl,hT,hF⟩;obtain⟨own',k1,k2,k3,k4⟩:=hIb.O6 (XI N) hT hF;have wθ:w∉g.θ.bx:=fun q=>hw.f (by unfold MG.bx;exact Yy _ q);have mθ:g.m∉g.θ.bx:=fun q=>hI.xA _ q (Xm ..);have bθ:b2.n∉g.θ.bx:=fun q=>hI.tb.mn _ q (ak b2);have t1:lk T.box w=some (qY g.m own o full):=hF.box _ _ wθ (hH.box _ _ hwk);have t2:lk T.box g.m=some (DK c g.ls g.θ.t g.sn):=hF.box _ _ mθ (hH.box _ _ hmd);have t3:lk T.box b2.n=some [dI 0,dI 0,.sl 0 true [],dI 0,dI 0,dI 0,dI 0,.sl 0 true []]:=hF.box _ _ bθ (by simp[lk]);have hfr:gz S T g ⟨g.m,g.ls,g.θ,g.sn,own'⟩:=(gz.has hH).trans k2
 cases hun:(mo μ.r o.level o.aB o.snap).2 with
 |false=>
  have e1:=GV hun;rw[e1]at k1;simp(maxDischargeDepth:=12) (maxSteps:=1000000) -implicitDefEqProofs only[go_sem,Nat.reduceAdd,Nat.reduceSub,Nat.reduceMul,Nat.reduceLeDiff,Nat.reduceEqDiff,Nat.reduceGT,Nat.reduceBEq,reduceCtorEq,↓reduceIte,Int.reduceToNat,Int.reduceLE,Int.reduceLT,Int.reduceNe,Int.reduceEq];refine aj (aC w0 false 39 _ fun _ U hU=>?_) ?_
  ·exact hq 39 (by unfold db;exact if_pos hun) U _ (k1.has hU) (hfr.trans (.has hU))
  rintro _ _ ⟨q,_⟩;cases q
 |true=>
  simp(maxDischargeDepth:=12) (maxSteps:=1000000) -implicitDefEqProofs only[go_sem,Nat.reduceAdd,Nat.reduceSub,Nat.reduceMul,Nat.reduceLeDiff,Nat.reduceEqDiff,Nat.reduceGT,Nat.reduceBEq,reduceCtorEq,↓reduceIte,Int.reduceToNat,Int.reduceLE,Int.reduceLT,Int.reduceNe,Int.reduceEq];refine aj (aC w0 true 39 _ fun h=>by cases h) ?_;rintro _ U ⟨_,rfl,hU⟩;obtain rfl:=hU.symm;simp(maxDischargeDepth:=12) (maxSteps:=1000000) -implicitDefEqProofs only[go_sem,Nat.reduceAdd,Nat.reduceSub,Nat.reduceMul,Nat.reduceLeDiff,Nat.reduceEqDiff,Nat.reduceGT,Nat.reduceBEq,reduceCtorEq,↓reduceIte,Int.reduceToNat,Int.reduceLE,Int.reduceLT,Int.reduceNe,Int.reduceEq];refine Y.iM [] [15] [0,1,2,7,9,10,11,12,3,4,5,6,8,13,14,15] mx (by kernel_rfl) ?_;simp(maxDischargeDepth:=12) (maxSteps:=1000000) -implicitDefEqProofs only[go_sem,Nat.reduceAdd,Nat.reduceSub,Nat.reduceMul,Nat.reduceLeDiff,Nat.reduceEqDiff,Nat.reduceGT,Nat.reduceBEq,reduceCtorEq,↓reduceIte,Int.reduceToNat,Int.reduceLE,Int.reduceLT,Int.reduceNe,Int.reduceEq,t1,t2,t3];refine Y.kS (fun U hU=>dG _ (hU.box _ _ t1)) ?_;obtain⟨es,cl,s1,s2⟩:=k1.CK;simp only at s1;simp(maxDischargeDepth:=12) (maxSteps:=1000000) -implicitDefEqProofs only[go_sem,Nat.reduceAdd,Nat.reduceSub,Nat.reduceMul,Nat.reduceLeDiff,Nat.reduceEqDiff,Nat.reduceGT,Nat.reduceBEq,reduceCtorEq,↓reduceIte,Int.reduceToNat,Int.reduceLE,Int.reduceLT,Int.reduceNe,Int.reduceEq,t1,t2,t3,s1];have hb2:b2.n∉g.bx:=fun q=>hI.mn q (ak b2);refine⟨_,_,.refl _,.refl _,gv 0,_,_,by unfold db;rw[if_neg (by rw[hun];simp)],gZ,k1.R9 (Xg _) own' _ ?_ (fun _ _=>rfl) ?_ ?_ ?_,rfl,?_,?_,hfr.nb,hfr.na⟩
  ·intro i v q1 q2;show lk (up _ _ _) i=_;rw[ab (fun e=>hb2 (by rw[e];exact q1))];exact q2
  ·intro i v q1 q2 q3;show lk (up _ _ _) i=_;rw[ab (fun e=>q2 (by rw[←e];exact k1.lX))];exact q3
  ·refine⟨_,cl,cq s1,fun lv n k=>?_⟩;unfold ja;by_cases e:lv=o.level∧n=o.aB∧k=o.snap
   ·rw[if_pos e,e.1,e.2.1,e.2.2];exact⟨fun _=>cZ _ _,fun Fs h=>by cases h⟩
   ·rw[if_neg e];have hne:HI lv n k≠HI o.level o.aB o.snap:=fun q=>e (z7 q);refine⟨fun h=>(dj _ hne).trans ((s2 lv n k).1 h),fun Fs h=>?_⟩;obtain⟨bs,q1,q2⟩:=(s2 lv n k).2 Fs h;refine⟨bs,(dj _ hne).trans q1,w7 q2 (Xg _) (fun _ e=>e) fun i v e q=>?_⟩;show lk (up _ _ _) i=_;rw[ab (fun r=>by rw[←r]at e;have:=k1.lX.symm.trans e;cases this)];exact q
  ·intro i q;exact gU (k1.lD i q)
  ·intro i v q1 q2;show lk (up _ _ _) i=_;rw[ab (fun e=>by rw[←e,ak b2]at q2;cases q2)];exact hfr.box i v q1 q2
  ·intro i v q1 q2;show lk (up _ _ _) i=_;rw[ab (fun e=>by rw[←e,hI.lX]at q1;cases q1)];exact hfr.acc i v q1 q2
structure VP(T0:St)(N:Nat)(Fs:List gu)(lo:Nat)(i:Nat)(A:List (Nat×Ob))(bs:List Nat):Prop where
 old:∀j x,lk T0.acc j=some x→lk A j=some x
 row:lk A lo=some (.arr 1 (bs.map DV.mp))
 len:bs.length=i
 el:∀(j:Nat) b F,bs[j]? =some b→Fs[j]? =some F→∃ids,BM ⟨T0.box,A⟩ b N ids F∧(lk T0.acc b=none∧b≠lo)∧∀n k,ids n=some k→lk T0.acc k=none∧k≠lo
theorem PU(hI:MI S g N c μ)(hM:fx N c μ)(hN:N≤10000)(hw:lV S g w own o full):aa Tryz.prog w0 79 [bg w] S (ku S g (N+1) c (kK μ o)):=by
 have hwk:=hw.k;have hmd:=hI.md;have hnl:=hM.n;refine mi [1,8] mx Tryz.func79 rfl rfl (by kernel_rfl) ?_;simp(maxDischargeDepth:=12) (maxSteps:=1000000) -implicitDefEqProofs only[Tryz.ntmps79,go_sem,Nat.reduceAdd,Nat.reduceSub,Nat.reduceMul,Nat.reduceLeDiff,Nat.reduceEqDiff,Nat.reduceGT,Nat.reduceBEq,reduceCtorEq,↓reduceIte,Int.reduceToNat,Int.reduceLE,Int.reduceLT,Int.reduceNe,Int.reduceEq];intro b2;have hw2:(b2.n=w)=False:=eq_false fun e=>by have:=ak b2;rw[e,hwk]at this;cases this
 have hm2:(b2.n=g.m)=False:=eq_false fun e=>by have:=ak b2;rw[e,hmd]at this;cases this
 have hH:Has S ⟨(b2.n,[dI 0,dI 0,.sl 0 true [],dI 0,dI 0,dI 0,dI 0,.sl 0 true []])::S.box,S.acc⟩:=⟨fun b x q=>ai (ak b2) q,fun _ _ q=>q⟩;refine Y.iM [] [9] [0,1,2,7,3,4,5,6,8,9,10] mx (by kernel_rfl) ?_;simp(maxDischargeDepth:=12) (maxSteps:=1000000) -implicitDefEqProofs only[go_sem,Nat.reduceAdd,Nat.reduceSub,Nat.reduceMul,Nat.reduceLeDiff,Nat.reduceEqDiff,Nat.reduceGT,Nat.reduceBEq,reduceCtorEq,↓reduceIte,Int.reduceToNat,Int.reduceLE,Int.reduceLT,Int.reduceNe,Int.reduceEq,hwk,hw2,hmd,hm2];refine Y.kS (fun T hT=>dG _ (hT.box _ _ (hH.box _ _ hwk))) ?_;simp(maxDischargeDepth:=12) (maxSteps:=1000000) -implicitDefEqProofs only[go_sem,Nat.reduceAdd,Nat.reduceSub,Nat.reduceMul,Nat.reduceLeDiff,Nat.reduceEqDiff,Nat.reduceGT,Nat.reduceBEq,reduceCtorEq,↓reduceIte,Int.reduceToNat,Int.reduceLE,Int.reduceLT,Int.reduceNe,Int.reduceEq,hwk,hw2,hmd,hm2];have hIb:=hI.has hH;refine aj (PT w0 hIb.tb hM.la (by omega) o.level o.aB) ?_;rintro _ T ⟨rfl,hT,hF⟩;obtain⟨own',k1,k2,k3,k4⟩:=hIb.O6 (XI N) hT hF;have wθ:w∉g.θ.bx:=fun q=>hw.f (by unfold MG.bx;exact Yy _ q);have mθ:g.m∉g.θ.bx:=fun q=>hI.xA _ q (Xm ..);have bθ:b2.n∉g.θ.bx:=fun q=>hI.tb.mn _ q (ak b2);have t1:lk T.box w=some (qY g.m own o full):=hF.box _ _ wθ (hH.box _ _ hwk);have t2:lk T.box g.m=some (DK c g.ls g.θ.t g.sn):=hF.box _ _ mθ (hH.box _ _ hmd);have t3:lk T.box b2.n=some [dI 0,dI 0,.sl 0 true [],dI 0,dI 0,dI 0,dI 0,.sl 0 true []]:=hF.box _ _ bθ (by simp[lk]);have hfr:gz S T g ⟨g.m,g.ls,g.θ,g.sn,own'⟩:=(gz.has hH).trans k2;have hlen:=hI.len;generalize hsn:(oy μ.r o.level o.aB).2=n at*;generalize hsr:(oy μ.r o.level o.aB).1=r' at*;simp(maxDischargeDepth:=12) (maxSteps:=1000000) -implicitDefEqProofs only[go_sem,Nat.reduceAdd,Nat.reduceSub,Nat.reduceMul,Nat.reduceLeDiff,Nat.reduceEqDiff,Nat.reduceGT,Nat.reduceBEq,reduceCtorEq,↓reduceIte,Int.reduceToNat,Int.reduceLE,Int.reduceLT,Int.reduceNe,Int.reduceEq,t1,t2];refine nJ 4 1 rfl (by omega) fun lo=>?_;have hlo:=ak lo;have hloA:∀j x,lk T.acc j=some x→j≠lo.n:=fun j x h e=>by rw[e,hlo]at h;cases h
 refine cY [] [0,2,3,4,23,24,25] (σ:=Nat×List (Nat×Ob)×List Nat) (fun s=>[(4,.acc lo.n s.1),(24,dI μ.l.length),(25,dI s.1)]) (fun s=>⟨T.box,s.2.1⟩) (fun s=>s.1≤μ.l.length∧VP T (N+1) (μ.l.map nT.F) lo.n s.1 s.2.1 s.2.2) (fun s=>μ.l.length-s.1) (0,(lo.n,.arr 1 [])::T.acc,[]) mx (by kernel_rfl) ⟨⟨XR _,?_⟩,?_⟩ ?_
 ·exact⟨fun j x q=>ai hlo q,by simp[lk],rfl,fun j b F q=>by simp at q⟩
 ·simp(maxDischargeDepth:=12) (maxSteps:=1000000) -implicitDefEqProofs only[go_sem,Nat.reduceAdd,Nat.reduceSub,Nat.reduceMul,Nat.reduceLeDiff,Nat.reduceEqDiff,Nat.reduceGT,Nat.reduceBEq,reduceCtorEq,↓reduceIte,Int.reduceToNat,Int.reduceLE,Int.reduceLT,Int.reduceNe,Int.reduceEq,hlen]
 ·rintro⟨i,A,bs⟩ ⟨hi,hL⟩;simp only at hi hL;have hrow:=hL.row;have hbl:=hL.len;by_cases hil:i<μ.l.length
  ·have e1:IntKind.i64.wrap ((i:Int)+1)=((i+1:Nat):Int):=aH (by omega);have hx:g.ls[i]? =some (g.ls[i]'(by omega)):=Xb _;generalize g.ls[i]'(by omega)=bx at hx;obtain⟨l,hl,b,ids,r,dr,h1,h2,h3,h4,h5,h6⟩:=k1.rz hx;simp only at hl;have hB:BM ⟨T.box,A⟩ b N.succ ids l.F:=h2.mono fun j x _ q=>hL.old j x q;simp(maxDischargeDepth:=12) (maxSteps:=1000000) -implicitDefEqProofs only[go_sem,Nat.reduceAdd,Nat.reduceSub,Nat.reduceMul,Nat.reduceLeDiff,Nat.reduceEqDiff,Nat.reduceGT,Nat.reduceBEq,reduceCtorEq,↓reduceIte,Int.reduceToNat,Int.reduceLE,Int.reduceLT,Int.reduceNe,Int.reduceEq,hx,h1,e1];refine⟨fun _=>⟨by omega,?_⟩,fun h=>absurd hil h⟩;refine aj (EP w0 hB (by omega)) ?_;rintro _ U ⟨l',ids',rfl,hB',hbx,hac,hl0,hid⟩;obtain⟨Ub,Ua⟩:=U;simp only at hbx;subst hbx;have hrow':=hac _ _ hrow;have hm8:maxLen=9223372036854775807:=rfl;simp(maxDischargeDepth:=12) (maxSteps:=1000000) -implicitDefEqProofs only[go_sem,Nat.reduceAdd,Nat.reduceSub,Nat.reduceMul,Nat.reduceLeDiff,Nat.reduceEqDiff,Nat.reduceGT,Nat.reduceBEq,reduceCtorEq,↓reduceIte,Int.reduceToNat,Int.reduceLE,Int.reduceLT,Int.reduceNe,Int.reduceEq,hrow',e1,hm8];have hloa:∀j x,lk A j=some x→j≠lo.n∨j=lo.n:=fun j _ _=>(Zq _).symm;have hnlo:∀j,lk A j=none→j≠lo.n:=fun j q e=>by rw[e,hrow]at q;cases q
   have hnT:∀j,lk A j=none→lk T.acc j=none:=fun j q=>by
    cases hx:lk T.acc j with
    |none=>rfl
    |some x=>rw[hL.old j x hx]at q;cases q
   refine⟨hbl,by omega,by omega,(i+1,up Ua lo.n (.arr 1 ((bs++[l']).map DV.mp)),bs++[l']),⟨by simp only;omega,⟨fun j x q=>?_,cq hrow',by simp[hbl],fun j b F q1 q2=>?_⟩⟩,by simp only;omega,⟨by rw[hbl];exact .refl _,rfl⟩,?_⟩
   ·rw[ab (Yj (hloA j x q))];exact hac j x (hL.old j x q)
   ·rcases XM j bs.length with q3|q3
    ·rw[XD q3]at q1;obtain⟨idj,z1,z2,z3⟩:=hL.el j b F q1 q2;refine⟨idj,z1.mono fun c x hc hx=>?_,z2,z3⟩;have:c≠lo.n:=hc.elim (fun e=>by rw[e];exact z2.2) fun⟨n,hn⟩=>(z3 n c hn).2;show lk (up _ _ _) c=_;rw[ab (Yj this)];exact hac c x hx
    ·rw[XA q3]at q1
     have hj:j-bs.length=0:=by
      cases hj:j-bs.length with
      |zero=>rfl
      |succ k=>rw[hj]at q1;simp at q1
     rw[hj]at q1;cases q1;have hji:j=i:=by omega
     rw[hji,Xi,hl]at q2;cases q2;have z1:∀c,(c=l'∨∃n,ids' n=some c)→lk A c=none:=fun c hc=>hc.elim (fun e=>by rw[e];exact hl0) fun⟨n,hn⟩=>hid n c hn;refine⟨ids',hB'.mono fun c x hc hx=>?_,⟨hnT _ hl0,hnlo _ hl0⟩,fun n k hk=>⟨hnT _ (hid n k hk),hnlo _ (hid n k hk)⟩⟩;show lk (up _ _ _) c=_;rw[ab (Yj (hnlo c (z1 c hc)))];exact hx
   ·rw[XB];exact .refl _
  ·have hie:i=μ.l.length:=by omega
   subst hie;simp(maxDischargeDepth:=12) (maxSteps:=1000000) -implicitDefEqProofs only[go_sem,Nat.reduceAdd,Nat.reduceSub,Nat.reduceMul,Nat.reduceLeDiff,Nat.reduceEqDiff,Nat.reduceGT,Nat.reduceBEq,reduceCtorEq,↓reduceIte,Int.reduceToNat,Int.reduceLE,Int.reduceLT,Int.reduceNe,Int.reduceEq,t1,t2];refine⟨fun h=>absurd h hil,fun _=>?_⟩;refine Y.iM [] [12] [0,1,2,7,9,11,3,4,5,6,8,10,12] mx (by kernel_rfl) ?_;simp(maxDischargeDepth:=12) (maxSteps:=1000000) -implicitDefEqProofs only[go_sem,Nat.reduceAdd,Nat.reduceSub,Nat.reduceMul,Nat.reduceLeDiff,Nat.reduceEqDiff,Nat.reduceGT,Nat.reduceBEq,reduceCtorEq,↓reduceIte,Int.reduceToNat,Int.reduceLE,Int.reduceLT,Int.reduceNe,Int.reduceEq,t1,t2,t3,hrow];refine Y.kS (fun U hU=>dG _ (hU.box _ _ t1)) ?_;obtain⟨es,cl,s1,s2⟩:=k1.CK;simp only at s1;have s1':=hL.old _ _ s1;have hls:(lo.n=g.sn)=False:=eq_false fun e=>hloA _ _ s1 e.symm;have hls':(g.sn=lo.n)=False:=eq_false fun e=>hloA _ _ s1 e;simp(maxDischargeDepth:=12) (maxSteps:=1000000) -implicitDefEqProofs only[go_sem,Nat.reduceAdd,Nat.reduceSub,Nat.reduceMul,Nat.reduceLeDiff,Nat.reduceEqDiff,Nat.reduceGT,Nat.reduceBEq,reduceCtorEq,↓reduceIte,Int.reduceToNat,Int.reduceLE,Int.reduceLT,Int.reduceNe,Int.reduceEq,t1,t2,t3,hrow,s1',hls,hls'];have hb2:b2.n∉g.bx:=fun q=>hI.mn q (ak b2)
   have hE:∃own2:Nat→Ow,(∀i,lk T.acc i=none→i≠lo.n→lk A i≠none→own2 i= .sp)∧(∀i,own' i≠ .no→own2 i=own' i)∧∀i,own2 i≠ .no→own' i≠ .no∨(lk T.acc i=none∧lk A i≠none):=by
    classical
    refine⟨fun i=>if lk T.acc i=none∧i≠lo.n∧lk A i≠none then .sp else own' i,fun i q1 q2 q3=>if_pos ⟨q1,q2,q3⟩,fun i q=>if_neg fun r=>k1.lD i q r.1,fun i q=>?_⟩;simp only at q;split at q
    ·rename_i q2;exact .inr ⟨q2.1,q2.2.2⟩
    ·exact .inl q
   obtain⟨own2,o1,o2,o3⟩:=hE;have hup:∀X Y:Ob,∀i v,i≠lo.n→i≠g.sn→lk A i=some v→lk (up (up A lo.n X) g.sn Y) i=some v:=fun X Y i v q1 q2 q3=>by rw[ab (Yj q2),ab (Yj q1)];exact q3
   have hsnT:∀i,lk T.acc i=none→i≠g.sn:=fun i q e=>by rw[e,s1]at q;cases q
   refine⟨hbl,_,_,.refl _,.refl _,nY n,_,_,by unfold kK;rw[hsn,hsr],.agg ⟨.refl _,.refl _,.nil _ _ _,.refl _,.refl _,.refl _,.refl _,.nil _ _ _,trivial⟩,k1.R9 (Xg _) own2 _ ?_ o2 ?_ ?_ ?_,rfl,?_,?_,hfr.nb,?_⟩
   ·intro i v q1 q2;show lk (up _ _ _) i=_;rw[ab (fun e=>hb2 (by rw[e];exact q1))];exact q2
   ·intro i v q1 q2 q3;exact hup _ _ i v (hloA i v q3) (fun e=>q2 (by rw[e];exact k1.lX)) (hL.old i v q3)
   ·refine⟨_,_,cq (by rw[ab (by rw[hls];exact id)];exact s1'),fun lv m k=>?_⟩;unfold ja;by_cases e:lv=o.level∧m=o.aB∧k=n
    ·rw[if_pos e,e.1,e.2.1,e.2.2];refine⟨fun h=>(by cases h),fun Fs h=>?_⟩;cases h;refine⟨bs,aY _ _ _ _,by rw[hbl,XS],fun j b F q1 q2=>?_⟩;obtain⟨idj,z1,z2,z3⟩:=hL.el j b F q1 q2;refine⟨idj,z1.mono fun c x hc hx=>?_,o1 b z2.1 z2.2 z1.lk,fun m' k' hk=>o1 k' (z3 m' k' hk).1 (z3 m' k' hk).2 ?_⟩
     ·have:lk T.acc c=none∧c≠lo.n:=hc.elim (fun e=>by rw[e];exact z2) fun⟨n,hn⟩=>z3 n c hn;exact hup _ _ c x this.2 (hsnT c this.1) hx
     ·obtain⟨f,hf⟩:=hZ z1 hk;exact(z1.low m' k' f hk hf).lk
    ·rw[if_neg e];have hne:HI lv m k≠HI o.level o.aB n:=fun q=>e (z7 q);refine⟨fun h=>(bW _ _ hne _).trans ((s2 lv m k).1 h),fun Fs h=>?_⟩;obtain⟨bs',q1,q2⟩:=(s2 lv m k).2 Fs h;refine⟨bs',(bW _ _ hne _).trans q1,w7 q2 (Xg _) (fun i e=>(o2 i (by intro r;have:=e.symm.trans r;cases this)).trans e) fun i v e q=>?_⟩;exact hup _ _ i v (hloA i v q) (fun r=>by rw[r]at e;have:=k1.lX.symm.trans e;cases this) (hL.old i v q)
   ·intro i q;rcases o3 i q with r|⟨_,r⟩
    ·obtain⟨x,hx⟩:=bF (k1.lD i r);exact eG (eG (by rw[hL.old i x hx];simp))
    ·exact eG (eG r)
   ·intro i v q1 q2;show lk (up _ _ _) i=_;rw[ab (fun e=>by rw[←e,ak b2]at q2;cases q2)];exact hfr.box i v q1 q2
   ·intro i v q1 q2;have q3:=hfr.acc i v q1 q2;exact hup _ _ i v (hloA i v q3) (fun e=>by rw[e,hI.lX]at q1;cases q1) (hL.old i v q3)
   ·intro i q;rcases o3 i q with r|⟨r,_⟩
    ·exact hfr.na i r
    ·refine(Zq (g.own i≠ .no)).imp id fun q1=>?_
     cases hx:lk S.acc i with
     |none=>rfl
     |some v=>rw[hfr.acc i v (Xs.1 q1) hx]at r;cases r
end
end Go.Proofs.YtoepfmhnapedoaaGreatDoor
namespace Go.Proofs.YtoepfmhnapedoaaGreatDoor
open Aml Go
def UA(a b:ByteArray):Bool:=Op.bytesLess a.data.toList b.data.toList||decide (a.data.toList=b.data.toList)
def TH(a b:ByteArray):Bool:=Op.bytesLess a.data.toList b.data.toList
def need(z:Int):Nat:=if 16<z∧z≤400 then((z+118)/119).toNat else 0
def Bd(l:List Int):Prop:=l.length≤1048576∧∀x,x∈l→0≤x∧x≤1048576
theorem DQ:∀(l:List Int),(∀x,x∈l→0≤x∧x≤1048576)→0≤l.sum∧l.sum≤1048576*l.length
 |[],_=>by simp
 |a::l,h=>by
  have h1:=DQ l fun x hx=>h x (Xj _ hx);have h2:=h a Xm;simp only[YF,Xo];omega
theorem Bd.take{l:List Int}(h:Bd l)(k:Nat):Bd (l.take k):=⟨by rw[X3];have:=h.1;omega,fun x hx=>h.2 x (Yb hx)⟩
theorem Bd.drop{l:List Int}(h:Bd l)(k:Nat):Bd (l.drop k):=⟨by rw[X7];have:=h.1;omega,fun x hx=>h.2 x (XU hx)⟩
theorem Bd.sum{l:List Int}(h:Bd l):0≤l.sum∧l.sum≤1099511627776:=by
 have:=DQ l h.2;have:=h.1;omega
def K8(l:List Int)(at_:Nat):Int:=if(l.take at_).sum>(l.drop at_).sum then(l.take at_).sum else(l.drop at_).sum
def SO(l:List Int):Nat→Nat
 |0=>1
 |j+1=>if K8 l (j+2)<K8 l (SO l j)then j+2 else SO l j
def atR(l:List Int):Nat:=if l.sum≤122∨l.length<2 then 0 else SO l (l.length-2)
mutual
inductive N where
 |mk (Md:Int) (leaf:Bool) (l:List C)
inductive C where
 |mk (key data:ByteArray) (u7:List Int) (rf:List N)
end
def N.Md:N→Int| .mk p _ _=>p
def N.leaf:N→Bool| .mk _ b _=>b
def N.l:N→List C| .mk _ _ l=>l
def C.key:C→ByteArray| .mk k _ _ _=>k
def C.data:C→ByteArray| .mk _ d _ _=>d
def C.u7:C→List Int| .mk _ _ p _=>p
def C.rf:C→List N| .mk _ _ _ k=>k
mutual
def dN:N→DV
 | .mk p b l=> .agg [dI p,dB b,.sl 4 false (UF l)]
def dC:C→DV
 | .mk k d ps rf=> .agg [dS k,dS d,.sl 1 false (ps.map dI),.sl 3 false (Uj rf)]
def UF:List C→List DV
 |[]=>[]
 |c::l=>dC c::UF l
def Uj:List N→List DV
 |[]=>[]
 |n::l=>dN n::Uj l
end
mutual
def Vf:N→Prop
 | .mk _ b l=>(b=false→l≠[])∧Py l b
def pc:C→Bool→Prop
 | .mk _ _ _ rf,b=>b=false→rf.length=1∧Qs rf
def Py:List C→Bool→Prop
 |[],_=>True
 |c::l,b=>pc c b∧Py l b
def Qs:List N→Prop
 |[]=>True
 |n::l=>Vf n∧Qs l
end
mutual
def Th:N→Nat
 | .mk _ _ l=>KQ l
def TS:C→Nat
 | .mk _ _ _ rf=>1+KM rf
def KQ:List C→Nat
 |[]=>0
 |c::l=>TS c+KQ l
def KM:List N→Nat
 |[]=>0
 |n::l=>Th n+KM l
end
mutual
def TR:N→Nat
 | .mk _ b l=>if b then 0 else 1+KV l
def TG:C→Nat
 | .mk _ _ _ rf=>Ky rf
def KV:List C→Nat
 |[]=>0
 |c::l=>max (TG c) (KV l)
def Ky:List N→Nat
 |[]=>0
 |n::l=>max (TR n) (Ky l)
end
mutual
def UM:N→Prop
 | .mk _ _ l=>QD l
def U7:C→Prop
 | .mk k d ps rf=>k.size≤16∧d.size≤400∧ps.length≤4∧QZ rf
def QD:List C→Prop
 |[]=>True
 |c::l=>U7 c∧QD l
def QZ:List N→Prop
 |[]=>True
 |n::l=>UM n∧QZ l
end
def Lo(b:Bool)(c:C):Int:=if b then(if(need c.data.size:Int)>0∨(c.data.size:Int)>400 then 7+c.key.size else 3+c.key.size+c.data.size)else 4+c.key.size
def tQ(n:N):List Int:=n.l.map (Lo n.leaf)
def NM(l:List C)(key:ByteArray):Nat→Nat
 |0=>0
 |i+1=>match l[i+1]? with
  |some c=>if UA c.key key then i+1 else NM l key i
  |none=>NM l key i
def VN(l:List C)(key:ByteArray):Nat:=NM l key (l.length-1)
def QI:ByteArray:=ByteArray.empty
def keyOf:List C→ByteArray
 |[]=>QI
 |c::_=>c.key
structure VA(n:N):Prop where
 len:n.l.length≤524288
 rf:∀c,c∈n.l→∃k,c.rf=[k]∧UM k∧k.l.length≤524288
 key:∀c,c∈n.l→c.key.size≤16
theorem half{m:Int}(hm:0≤m):∀(l:List Int),(∀x,x∈l→0≤x∧x≤m)→∀u:Int,0≤u→u≤2*l.sum→∃p,p≤l.length∧2*(l.take p).sum≤u+m∧u≤2*(l.take p).sum+m:=by
 intro l
 induction l with
 |nil=>intro _ u h0 h1;exact⟨0,Xg _,by simp at *;omega,by simp at *;omega⟩
 |cons a l ih=>
  intro h u h0 h1;obtain⟨a0,am⟩:=h a Xm;rw[YF]at h1;by_cases ht:u≤a
  ·exact⟨0,XR _,by simp;omega,by simp;omega⟩
  ·by_cases hta:u≤2*a
   ·exact⟨1,by simp,by simp;omega,by simp;omega⟩
   ·obtain⟨p,p1,p2,p3⟩:=ih (fun x hx=>h x (Xj _ hx)) (u-2*a) (by omega) (by omega);exact⟨p+1,by simp;omega,by rw[List.take_succ_cons,YF];omega,by rw[List.take_succ_cons,YF];omega⟩
mutual
def TX:N→List C
 | .mk _ b l=>QM b l
def Rx(b:Bool):C→List C
 | .mk k d ps rf=>if b then [.mk k d ps rf]else Tu rf
def QM(b:Bool):List C→List C
 |[]=>[]
 |c::l=>Rx b c++QM b l
def Tu:List N→List C
 |[]=>[]
 |n::_=>TX n
end
def U5(c:C):Prop:=c.key≠QI∧c.key.size≤16∧c.data.size≤400∧(c.u7≠[]→16<c.data.size)∧c.u7.length≤4∧c.rf=[]
def Vx(c:C):Prop:=c.key.size≤16∧c.data=QI∧c.u7=[]
def RC(c c':C):Prop:=TH c.key c'.key=true∧∀x,x∈Rx false c→TH x.key c'.key=true
def Su(l:List C):Prop:=l.Pairwise fun a b=>TH a.key b.key=true
def Fits(n:N):Prop:=30≤(tQ n).sum∧(tQ n).sum≤122
def zy(G F:N→Prop)(c:C):Prop:=Vx c∧(∀x,x∈Rx false c→UA c.key x.key=true)∧∃k,c.rf=[k]∧G k∧F k
structure TV(G:N→Prop)(l:List C):Prop where
 k0:keyOf l=QI
 pw:l.Pairwise RC
 cell:∀c,c∈l→zy G Fits c
def Good:Nat→N→Prop
 |0,n=>n.leaf=true∧Su n.l∧∀c,c∈n.l→U5 c
 |d+1,n=>n.leaf=false∧n.l≠[]∧TV (Good d) n.l
structure Wp(d:Nat)(A:List C)(c:C)(B:List C):Prop where
 k0:keyOf (A++c::B)=QI
 pw:(A++c::B).Pairwise RC
 ahead:∀x,x∈A→zy (Good d) Fits x
 behind:∀x,x∈B→zy (Good d) Fits x
 own:zy (Good d) (fun k=>(tQ k).sum≤167) c
structure Ds(d:Nat)(L:List C)(m:N):Prop where
 leaf:m.leaf=false
 Md:m.Md=0
 ne:m.l≠[]
 br:TV (Good d) m.l
 en:TX m=L.flatMap (Rx false)
 sum:(tQ m).sum≤(L.map (Lo false)).sum+20
theorem Ds.wM{d:Nat}{L:List C}{m:N}(h:Ds d L m):Good (d+1) m:=⟨h.leaf,h.ne,h.br⟩
end Go.Proofs.YtoepfmhnapedoaaGreatDoor
namespace Go.Proofs.YtoepfmhnapedoaaGreatDoor
open Aml Go
end Go.Proofs.YtoepfmhnapedoaaGreatDoor
namespace Go.Proofs.YtoepfmhnapedoaaGreatDoor
open Aml Go
def MH(x:Int):Int:=if x.tmod 2=1 then cF .xor .u32 (IntKind.u32.wrap (x.tdiv 2)) 3988292384 else IntKind.u32.wrap (x.tdiv 2)
def ve:Nat→Int→Int
 |0,x=>x
 |k+1,x=>MH (ve k x)
def jt(s:ByteArray):List Int:=s.data.toList.map fun c=>(c.toNat:Int)
theorem DF(s:ByteArray):(jt s).length=s.size:=by unfold jt;rw[XS];rfl
def o0(l:List Int)(x:Int):Int:=l.foldl (fun x c=>ve 8 (cF .xor .u32 x (IntKind.u32.wrap c))) x
def Tv(x:Int)(s:ByteArray):Int:=IntKind.u32.wrap (4294967295-o0 (jt s) (IntKind.u32.wrap (4294967295-x)))
@[go_sem] def VU (c:C):DV:= .agg [dS c.data,.sl 1 false (c.u7.map dI)]
mutual
def dT:N→DV
 | .mk p b l=> .agg [dI p,dB b,.sl 1 false (l.map fun c=>dS c.key),.sl 2 false ((if b then l else []).map VU),.sl 5 false (if b then []else Qo l)]
def VS:C→List DV
 | .mk _ _ _ rf=>SB rf
def Qo:List C→List DV
 |[]=>[]
 |c::l=>VS c++Qo l
def SB:List N→List DV
 |[]=>[]
 |n::_=>[dT n]
end
end Go.Proofs.YtoepfmhnapedoaaGreatDoor
namespace Go.Proofs.YtoepfmhnapedoaaGreatDoor
open Aml Go
end Go.Proofs.YtoepfmhnapedoaaGreatDoor
namespace Go.Proofs.YtoepfmhnapedoaaGreatDoor
open Aml Go
def fl(rows:List (List DV)):List DV:=rows.flatten
end Go.Proofs.YtoepfmhnapedoaaGreatDoor
namespace Go.Proofs.YtoepfmhnapedoaaGreatDoor
open Aml Go
end Go.Proofs.YtoepfmhnapedoaaGreatDoor
namespace Go.Proofs.YtoepfmhnapedoaaGreatDoor
open Aml Go
def nH:List Int:=[0,498536548,997073096,651767980,1994146192,1802195444,1303535960,1342533948,3988292384,4027552580,3604390888,3412177804,2607071920,2262029012,2685067896,3183342108]
def kJ:List Value:=nH.map fun z=> .int .u32 z
def jY(w0:W0):Prop:=mQ w0 3 kJ
def fB(x:BitVec 32):BitVec 32:=(x >>> 1) ^^^ (if x.getLsbD 0 then 3988292384#32 else 0#32)
theorem Oo(x y p:BitVec 32):x ^^^ (y ^^^ p)=y ^^^ (x ^^^ p):=by rw[←Ze,BitVec.xor_comm x y,Ze]
theorem NR(x y p:BitVec 32):(x ^^^ p) ^^^ (y ^^^ p)=x ^^^ y:=by
 rw[Ze,Oo p y p,BitVec.xor_self,BitVec.xor_zero]
theorem Mg(a b:BitVec 32):fB (a ^^^ b)=fB a ^^^ fB b:=by
 unfold fB;rw[BitVec.ushiftRight_xor_distrib,BitVec.getLsbD_xor];cases a.getLsbD 0 <;>cases b.getLsbD 0
 ·simp
 ·simp[Ze]
 ·simp only[Bool.xor_false,Bool.true_xor,Bool.not_false,if_true,XT,if_false,BitVec.xor_zero];rw[Ze,Ze,BitVec.xor_comm (b >>> 1)]
 ·simp only[bne_self_eq_false,Bool.xor_self,XT,if_false,if_true,BitVec.xor_zero];exact(NR _ _ _).symm
def C1(x:BitVec 32):BitVec 32:=fB (fB (fB (fB x)))
theorem IW(a b:BitVec 32):C1 (a ^^^ b)=C1 a ^^^ C1 b:=by unfold C1;simp only[Mg]
theorem oL{x:BitVec 32}(h:x.getLsbD 0=false):fB x=x >>> 1:=by unfold fB;rw[h];simp
theorem FW(x:BitVec 32):x=((x >>> 4) <<< 4) ^^^ (x &&& 15#32):=by
 refine BitVec.eq_of_getLsbD_eq fun i hi=>?_;rw[BitVec.getLsbD_xor,BitVec.getLsbD_shiftLeft,YJ,BitVec.getLsbD_and]
 have h15:(15#32:BitVec 32).getLsbD i=decide (i<4):=by
  revert hi
  have:∀j:Fin 32,(15#32:BitVec 32).getLsbD j=decide (j.val<4):=by decide
  exact fun hi=>this ⟨i,hi⟩
 rw[h15];by_cases h4:i<4
 ·simp[h4]
 ·simp[h4,hi,show 4+(i-4)=i by omega]
theorem Oq(x:BitVec 32):C1 ((x >>> 4) <<< 4)=x >>> 4:=by
 have hb:∀k,k<4→(((x >>> 4) <<< 4) >>> k).getLsbD 0=false:=fun k hk=>by
  rw[YJ,BitVec.getLsbD_shiftLeft];simp;intro _ h;omega
 unfold C1;have e0:fB ((x >>> 4) <<< 4)=((x >>> 4) <<< 4) >>> 1:=oL (by have:=hb 0 (by decide);simp at this ⊢);have e1:fB (((x >>> 4) <<< 4) >>> 1)=((x >>> 4) <<< 4) >>> 2:=by rw[oL (hb 1 (by decide)),←BitVec.shiftRight_add]
 have e2:fB (((x >>> 4) <<< 4) >>> 2)=((x >>> 4) <<< 4) >>> 3:=by rw[oL (hb 2 (by decide)),←BitVec.shiftRight_add]
 have e3:fB (((x >>> 4) <<< 4) >>> 3)=((x >>> 4) <<< 4) >>> 4:=by rw[oL (hb 3 (by decide)),←BitVec.shiftRight_add]
 rw[e0,e1,e2,e3];refine BitVec.eq_of_getLsbD_eq fun i hi=>?_;rw[YJ,BitVec.getLsbD_shiftLeft,YJ,YJ];by_cases h:4+i<32
 ·simp[h]
 ·have:x.getLsbD (4+i)=false:=BitVec.getLsbD_of_ge _ _ (by omega);simp[h,this]
def Mk(k:Nat):BitVec 32:=BitVec.ofInt 32 (nH.getD k 0)
theorem MP:∀r:Fin 16,C1 (BitVec.ofNat 32 r)=Mk r:=by decide
theorem MJ(x:BitVec 32):C1 x=(x >>> 4) ^^^ Mk (x &&& 15#32).toNat:=by
 have h:=FW x
 have hlt:(x &&& 15#32).toNat<16:=by
  rw[BitVec.toNat_and];exact YZ Nat.and_le_right (by decide)
 have hr:=MP ⟨_,hlt⟩;simp only at hr;rw[BitVec.ofNat_toNat,BitVec.setWidth_eq]at hr
 conv=>lhs;rw[h]
 rw[IW,Oq,hr]
def kp(b:BitVec 32):Int:=(b.toNat:Int)
theorem oZ(b:BitVec 32):IntKind.u32.wrap (kp b)=kp b:=by
 have e:IntKind.u32.wrap (kp b)=kp b%4294967296:=rfl;have:=b.isLt;rw[e];unfold kp;omega
theorem tE(b:BitVec 32):BitVec.ofInt IntKind.u32.bits (kp b)=b:=by
 show BitVec.ofInt 32 (b.toNat:Int)=b;rw[Y9,BitVec.ofNat_toNat,BitVec.setWidth_eq]
theorem jP(x y:Int):cF .xor .u32 x y=kp (BitVec.ofInt 32 x ^^^ BitVec.ofInt 32 y):=oZ (BitVec.ofInt 32 x ^^^ BitVec.ofInt 32 y)
theorem vS(x y:Int):cF .and .u32 x y=kp (BitVec.ofInt 32 x &&& BitVec.ofInt 32 y):=oZ (BitVec.ofInt 32 x &&& BitVec.ofInt 32 y)
theorem HO(b:BitVec 32):MH (kp b)=kp (fB b):=by
 have h2:(kp b).tdiv 2=kp (b >>> 1):=by
  unfold kp;rw[BitVec.toNat_ushiftRight,Nat.shiftRight_eq_div_pow,Int.tdiv_eq_ediv_of_nonneg (by omega)];omega
 have h3:(kp b).tmod 2=((b.toNat%2:Nat):Int):=by
  unfold kp;rw[Int.tmod_eq_emod_of_nonneg (by omega)];omega
 have h4:b.getLsbD 0=decide (b.toNat%2=1):=Nat.testBit_zero b.toNat;unfold MH fB;rw[h2,h3,h4,oZ];by_cases h:b.toNat%2=1
 ·rw[if_pos (by omega),jP,decide_eq_true h,if_pos rfl];have:BitVec.ofInt 32 (kp (b >>> 1))=b >>> 1:=tE _;rw[this];rfl
 ·rw[if_neg (by omega),decide_eq_false h];simp
theorem vu(b:BitVec 32):ve 8 (kp b)=kp (C1 (C1 b)):=by
 simp only[ve,HO];rfl
def rD(x:Int):Int:=cF .xor .u32 (x.fdiv (2^4)) (nH.getD (cF .and .u32 x 15).toNat 0)
theorem uO(b:BitVec 32):rD (kp b)=kp (C1 b):=by
 unfold rD
 have h1:(kp b).fdiv (2^4)=kp (b >>> 4):=by
  unfold kp;rw[BitVec.toNat_ushiftRight,Nat.shiftRight_eq_div_pow,Int.fdiv_eq_ediv_of_nonneg _ (by decide)];omega
 have h2:cF .and .u32 (kp b) 15=kp (b &&& 15#32):=by
  rw[vS];have:BitVec.ofInt 32 (kp b)=b:=tE b;rw[this];rfl
 rw[h1,h2,jP,MJ];have:BitVec.ofInt 32 (kp (b >>> 4))=b >>> 4:=tE _;rw[this];unfold Mk kp;rw[YS]
theorem Gm(x:Int)(c:Int):ve 8 (cF .xor .u32 x (IntKind.u32.wrap c))=rD (rD (cF .xor .u32 x (IntKind.u32.wrap c))):=by
 rw[jP,vu,uO,uO]
theorem jx(x:Int):0≤cF .and .u32 x 15∧cF .and .u32 x 15<16:=by
 rw[vS];unfold kp
 have:(BitVec.ofInt 32 x &&& BitVec.ofInt 32 15).toNat<16:=by
  rw[BitVec.toNat_and];exact YZ Nat.and_le_right (by decide)
 omega
theorem GS:∀r:Fin 16,(kJ.map DV.v).drop r.val= .v (.int .u32 (nH.getD r.val 0))::(kJ.map DV.v).drop (r.val+1)
 |⟨0,_⟩=>rfl
 |⟨1,_⟩=>rfl
 |⟨2,_⟩=>rfl
 |⟨3,_⟩=>rfl
 |⟨4,_⟩=>rfl
 |⟨5,_⟩=>rfl
 |⟨6,_⟩=>rfl
 |⟨7,_⟩=>rfl
 |⟨8,_⟩=>rfl
 |⟨9,_⟩=>rfl
 |⟨10,_⟩=>rfl
 |⟨11,_⟩=>rfl
 |⟨12,_⟩=>rfl
 |⟨13,_⟩=>rfl
 |⟨14,_⟩=>rfl
 |⟨15,_⟩=>rfl
 |⟨n+16,h⟩=>absurd h (by omega)
theorem Ib{z:Int}(h0:0≤z)(h1:z<16):(kJ.map DV.v).drop z.toNat= .v (.int .u32 (nH.getD z.toNat 0))::(kJ.map DV.v).drop (z.toNat+1):=GS ⟨z.toNat,by omega⟩
theorem JG(x:Int)(h0:0≤x)(h1:x≤4294967295):cF .xor .u32 4294967295 x=4294967295-x:=by
 have hx:x=kp (BitVec.ofNat 32 x.toNat):=by
  unfold kp;rw[Zl];omega
 rw[jP,hx];have e:BitVec.ofInt 32 (kp (BitVec.ofNat 32 x.toNat))=BitVec.ofNat 32 x.toNat:=tE _;rw[e];have e2:(BitVec.ofInt 32 4294967295:BitVec 32)=BitVec.allOnes 32:=by decide
 rw[e2,BitVec.allOnes_xor];unfold kp;rw[BitVec.toNat_not];have:=(BitVec.ofNat 32 x.toNat).isLt;omega
theorem II(l:List Int)(x:Int)(h0:0≤x)(h1:x≤4294967295):0≤o0 l x∧o0 l x≤4294967295:=by
 unfold o0
 induction l generalizing x with
 |nil=>exact⟨h0,h1⟩
 |cons a l ih=>
  rw[List.foldl_cons];refine ih _ ?_ ?_ <;>rw[jP,vu] <;>unfold kp <;>have:=(C1 (C1 (BitVec.ofInt 32 x ^^^ BitVec.ofInt 32 (IntKind.u32.wrap a)))).isLt <;>omega
end Go.Proofs.YtoepfmhnapedoaaGreatDoor
namespace Go.Proofs.YtoepfmhnapedoaaGreatDoor
open Aml Go Rn Lat Grs
def eQ(s:List UInt8):Int:=Tv 0 (tx s)
theorem VB(w0:W0)(hg:jY w0)(s:List UInt8)(h:s.length≤1048576)(S:St):
 aa Tryz.prog w0 187 [.v (.int .u32 0),.sl 1 false (s.map fun c=> .v (.int .u8 c.toNat))] S (fun d S'=>d= .v (.int .u32 (eQ s))∧S'=S):=by
 have hG:=pA hg;have e0:cF .xor .u32 (if IntKind.u32.signed=true then -1 else IntKind.u32.max) 0=4294967295:=by decide
 have hbs:jt (tx s)=s.map fun c=>(c.toNat:Int):=by unfold jt;rw[dJ]
 refine cb [] mx Tryz.func187 rfl rfl (by kernel_rfl) ?_;simp(maxDischargeDepth:=12) (maxSteps:=1000000) -implicitDefEqProofs only[Tryz.ntmps187,go_sem,Nat.reduceAdd,Nat.reduceSub,Nat.reduceMul,Nat.reduceLeDiff,Nat.reduceEqDiff,Nat.reduceGT,Nat.reduceBEq,reduceCtorEq,↓reduceIte,Int.reduceToNat,Int.reduceLE,Int.reduceLT,Int.reduceNe,Int.reduceEq,e0];refine aX [] s.length [5,10,11,12] (fun k=>[(5,.v (.int .u32 (o0 ((jt (tx s)).take k) 4294967295))),(12,dI k)]) (fun _=>S) (fun _=>True) mx (by kernel_rfl) ?_ ?_
 ·simp(maxDischargeDepth:=12) (maxSteps:=1000000) -implicitDefEqProofs only[go_sem,Nat.reduceAdd,Nat.reduceSub,Nat.reduceMul,Nat.reduceLeDiff,Nat.reduceEqDiff,Nat.reduceGT,Nat.reduceBEq,reduceCtorEq,↓reduceIte,Int.reduceToNat,Int.reduceLE,Int.reduceLT,Int.reduceNe,Int.reduceEq];rfl
 ·intro k hk _;have e1:IntKind.i64.wrap ((k:Int)+1)=((k+1:Nat):Int):=by rw[oN (by omega) (by omega)];omega
  by_cases hlt:k<s.length
  ·have hc:s[k]? =some s[k]:=Xb hlt;generalize s[k]=c at hc
   have hh:∀x,(kJ.map DV.v).drop ((cF .and .u32 x 15).toNat*1)= .v (.int .u32 (nH.getD (cF .and .u32 x 15).toNat 0))::(kJ.map DV.v).drop ((cF .and .u32 x 15).toNat+1):=fun x=>by
    rw[YU];exact Ib (jx x).1 (jx x).2
   have hh2:kJ.length=16:=rfl
   have hcs:o0 ((jt (tx s)).take (k+1)) 4294967295=rD (rD (cF .xor .u32 (o0 ((jt (tx s)).take k) 4294967295) (IntKind.u32.wrap (c.toNat:Int)))):=by
    have hb':(jt (tx s))[k]? =some (c.toNat:Int):=by rw[hbs,Xi,hc];rfl
    have:(jt (tx s)).take (k+1)=(jt (tx s)).take k++[(c.toNat:Int)]:=by rw[X8,hb'];rfl
    rw[this];unfold o0;rw[Zp];exact Gm _ _
   rw[hcs];have i3:∀x,(cF .and .u32 x 15).toNat*1≤16:=fun x=>by have:=jx x;omega
   simp(maxDischargeDepth:=12) (maxSteps:=1000000) -implicitDefEqProofs only[go_sem,Nat.reduceAdd,Nat.reduceSub,Nat.reduceMul,Nat.reduceLeDiff,Nat.reduceEqDiff,Nat.reduceGT,Nat.reduceBEq,reduceCtorEq,↓reduceIte,Int.reduceToNat,Int.reduceLE,Int.reduceLT,Int.reduceNe,Int.reduceEq,hc,hG,hh,hh2,e1]
   first
    |exact⟨fun q=>⟨q,(jx _).1,(jx _).2,i3 _,(jx _).1,(jx _).2,i3 _,q,rfl⟩,fun q=>absurd hlt q⟩
    |exact⟨fun q=>⟨q,(jx _).1,(jx _).2,i3 _,(jx _).1,(jx _).2,i3 _,q,rfl,e1⟩,fun q=>absurd hlt q⟩
  ·have hend:cF .xor .u32 (if IntKind.u32.signed=true then -1 else IntKind.u32.max) (o0 ((jt (tx s)).take k) 4294967295)=Tv 0 (tx s):=by
    have hk2:(jt (tx s)).take k=jt (tx s):=XL (by rw[DF,dQ];omega);rw[hk2];have hc:=II (jt (tx s)) 4294967295 (by decide) (by decide);have hif:(if IntKind.u32.signed=true then(-1:Int)else IntKind.u32.max)=4294967295:=by decide
    rw[hif,JG _ hc.1 hc.2];unfold Tv;have e5:IntKind.u32.wrap (4294967295-0)=4294967295:=by decide
    rw[e5];have e:IntKind.u32.wrap (4294967295-o0 (jt (tx s)) 4294967295)=(4294967295-o0 (jt (tx s)) 4294967295)%4294967296:=rfl;rw[e];omega
   simp(maxDischargeDepth:=12) (maxSteps:=1000000) -implicitDefEqProofs only[go_sem,Nat.reduceAdd,Nat.reduceSub,Nat.reduceMul,Nat.reduceLeDiff,Nat.reduceEqDiff,Nat.reduceGT,Nat.reduceBEq,reduceCtorEq,↓reduceIte,Int.reduceToNat,Int.reduceLE,Int.reduceLT,Int.reduceNe,Int.reduceEq,hG];refine⟨fun q=>absurd q hlt,fun _=>?_⟩;exact hend
theorem Q6(w0:W0)(hg:jY w0)(s:List UInt8)(h:s.length≤1048576)(S:St):aa Tryz.prog w0 134 [dS (tx s)] S (fun d S'=>d= .v (.int .u32 (eQ s))∧S'=S):=by
 have hof:∀S,aa Tryz.prog w0 162 [.sl 1 false (s.map fun c=> .v (.int .u8 c.toNat))] S (fun d S'=>d= .v (.int .u32 (eQ s))∧S'=S):=fun S=>by
  refine cb [] mx Tryz.func162 rfl rfl (by kernel_rfl) ?_;simp(maxDischargeDepth:=12) (maxSteps:=1000000) -implicitDefEqProofs only[Tryz.ntmps162,go_sem,Nat.reduceAdd,Nat.reduceSub,Nat.reduceMul,Nat.reduceLeDiff,Nat.reduceEqDiff,Nat.reduceGT,Nat.reduceBEq,reduceCtorEq,↓reduceIte,Int.reduceToNat,Int.reduceLE,Int.reduceLT,Int.reduceNe,Int.reduceEq];refine aw (VB w0 hg s h _) ?_;simp(maxDischargeDepth:=12) (maxSteps:=1000000) -implicitDefEqProofs only[go_sem,Nat.reduceAdd,Nat.reduceSub,Nat.reduceMul,Nat.reduceLeDiff,Nat.reduceEqDiff,Nat.reduceGT,Nat.reduceBEq,reduceCtorEq,↓reduceIte,Int.reduceToNat,Int.reduceLE,Int.reduceLT,Int.reduceNe,Int.reduceEq]
 refine cb [] mx Tryz.func134 rfl rfl (by kernel_rfl) ?_;simp(maxDischargeDepth:=12) (maxSteps:=1000000) -implicitDefEqProofs only[Tryz.ntmps134,go_sem,Nat.reduceAdd,Nat.reduceSub,Nat.reduceMul,Nat.reduceLeDiff,Nat.reduceEqDiff,Nat.reduceGT,Nat.reduceBEq,reduceCtorEq,↓reduceIte,Int.reduceToNat,Int.reduceLE,Int.reduceLT,Int.reduceNe,Int.reduceEq];refine⟨by rw[dQ];omega,aw (hof _) ?_⟩;simp(maxDischargeDepth:=12) (maxSteps:=1000000) -implicitDefEqProofs only[go_sem,Nat.reduceAdd,Nat.reduceSub,Nat.reduceMul,Nat.reduceLeDiff,Nat.reduceEqDiff,Nat.reduceGT,Nat.reduceBEq,reduceCtorEq,↓reduceIte,Int.reduceToNat,Int.reduceLE,Int.reduceLT,Int.reduceNe,Int.reduceEq]
end Go.Proofs.YtoepfmhnapedoaaGreatDoor
