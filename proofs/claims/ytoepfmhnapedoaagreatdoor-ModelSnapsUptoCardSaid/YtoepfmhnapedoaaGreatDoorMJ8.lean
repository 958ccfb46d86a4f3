/-
  Part 8 of the proof that the last text ends: from 'The numbers of the bits that are 1, one by one: the program's iterator' to 'Small functions of reading; rows compared: walked'. By an AI agent.
-/
import Derived.Test.YtoepfmhnapedoaaGreatDoorMJ7
import Derived.RangeFuncNested
set_option linter.unusedVariables false
set_option linter.unusedSimpArgs false
set_option maxRecDepth 100000
set_option maxHeartbeats 16000000
namespace Go.Proofs.YtoepfmhnapedoaaGreatDoor
open Aml Go Lat
def OK:List Int:=[0,1,56,2,57,49,28,3,61,58,42,50,38,29,17,4,62,47,59,36,45,43,51,22,53,39,33,30,24,18,12,5,63,55,48,27,60,41,37,16,46,35,44,21,52,32,23,11,54,26,40,15,34,20,31,10,25,14,19,9,13,8,7,6]
def OT:List Value:=OK.map fun z=> .int .u8 z
def gq(w0:W0):Prop:=mQ w0 4 OT
def Lf(k:Nat):Int:=(IntKind.u64.wrap (((2^k:Nat):Int)*285870213051353865)).fdiv (2^min 58 64)
theorem KT:∀k:Fin 64,0≤Lf k.val∧Lf k.val<64∧OK[(Lf k.val).toNat]? =some (k.val:Int):=by decide +kernel
theorem Q1(k:Nat)(hk:k<64):OT.drop ((Lf k).toNat*1)= .int .u8 (k:Int)::OT.drop ((Lf k).toNat+1):=by
 obtain⟨h1,h2,h3⟩:=KT ⟨k,hk⟩;dsimp only at h1 h2 h3;rw[YU];obtain⟨hlt,hv⟩:=Xc.1 h3;have hd:OK.drop (Lf k).toNat=(k:Int)::OK.drop ((Lf k).toNat+1):=by rw[List.drop_eq_getElem_cons hlt,hv]
 unfold OT;rw[←List.map_drop,hd,XE,List.map_drop]
theorem VL(w0:W0)(hg:gq w0)(x k:Nat)(hx:x<18446744073709551616)(hk:k<64)(h:pT x k)(S:St):aa Tryz.prog w0 196 [dU (x:Int)] S (fun d S'=>d=dI (k:Int)∧S'=S):=by
 have hG:=pA hg;have hne:x≠0:=by rintro rfl;have:=h.1;simp at this
 have hb:cF .and .u64 (x:Int) (IntKind.u64.wrap (0-(x:Int)))=((2^k:Nat):Int):=by
  have e:IntKind.u64.wrap (0-(x:Int))=((18446744073709551616-x:Nat):Int):=by
   show(0-(x:Int))%18446744073709551616=_;omega
  rw[e,eH hx (by omega),Ka h hk hx]
 obtain⟨h1,h2,_⟩:=KT ⟨k,hk⟩;have h4:=Q1 k hk;unfold Lf at h1 h2 h4;dsimp only at h1 h2;refine cb [] mx Tryz.func196 rfl rfl (by kernel_rfl) ?_;simp(maxDischargeDepth:=12) (maxSteps:=1000000) -implicitDefEqProofs only[Tryz.ntmps196,go_sem,Nat.reduceAdd,Nat.reduceSub,Nat.reduceMul,Nat.reduceLeDiff,Nat.reduceEqDiff,Nat.reduceGT,Nat.reduceBEq,reduceCtorEq,↓reduceIte,Int.reduceToNat,Int.reduceLE,Int.reduceLT,Int.reduceNe,Int.reduceEq,hG,hb];refine⟨fun q=>by omega,fun _=>⟨h1,h2,?_,?_⟩⟩
 ·show _≤64;omega
 ·rw[h4];simp(maxDischargeDepth:=12) (maxSteps:=1000000) -implicitDefEqProofs only[go_sem,Nat.reduceAdd,Nat.reduceSub,Nat.reduceMul,Nat.reduceLeDiff,Nat.reduceEqDiff,Nat.reduceGT,Nat.reduceBEq,reduceCtorEq,↓reduceIte,Int.reduceToNat,Int.reduceLE,Int.reduceLT,Int.reduceNe,Int.reduceEq];exact oN (by omega) (by omega)
theorem tR{ro:Option Nat}{P:Program}{ops:Array Oper}{Q:Exit→Act→World→Prop}{o:Oper}{rest:List Oper}{a:Act}{w w':World}{v:Value}(hg:o.guard=none)(hn:∀c,o.op≠ .defer c)(hr:(execOp a.eval o).run P w= .ok (.value v) w')
 (h:wpListIn (fz ro) 0 P ops Q rest (a.put o.dst v) w'):wpListIn (fz ro) 0 P ops Q (o::rest) a w:=by
 unfold wpListIn;rw[if_pos (by simp[Region.wanted,hg])];refine⟨fun _ _=>trivial,?_⟩;rw[Oper.semAt_eq _ _ _ hn,hr];exact h
theorem list_round{ro:Option Nat}{P:Program}{ops:Array Oper}{Q:Exit→Act→World→Prop}{o:Oper}{rest:List Oper}{a:Act}{w w':World}{l:Nat}{f:FuncId}{tmps:Array Value}{assign body:Code}{R:Ending→World→Prop}(hg:o.guard=none)(hn:∀c,o.op≠ .defer c)(hr:(execOp a.eval o).run P w= .ok (.round l f tmps assign body) w')
 (hR:RoundIn (fz ro) 0 P l f tmps assign body w' R) (h:∀e w'',R e w''→∃v,e= .returned v∧wpListIn (fz ro) 0 P ops Q rest (a.put o.dst v) w''):wpListIn (fz ro) 0 P ops Q (o::rest) a w:=by
 unfold wpListIn;rw[if_pos (by simp[Region.wanted,hg])];refine⟨fun _ _=>trivial,?_⟩;rw[Oper.semAt_eq _ _ _ hn,hr];refine⟨fun h=>by simp[fz,Fence.wide]at h,hR.mono fun e w'' k=>?_⟩;obtain⟨v,rfl,h⟩:=h e w'' k;exact h
theorem yj{g g':Gh}{ds:List DV}{us:List Value}(h:ae g ds us)(hp:∀d,d∈ds→(∃u,d= .v u)∨d= .any):ae g' ds us:=by
 refine⟨h.len,fun i d u h1 h2=>?_⟩;have hr:=h.at_ i d u h1 h2;rcases hp d (Xd h1)with⟨u',rfl⟩|rfl
 ·cases hr with
  |v _ ho=>exact .v _ ho
 ·exact .any _
def eF(l b:Nat):List DV:=wk [0,1] (cD ([.v (.func (.yield l) #[] #[]),.v (.pointer (some ⟨b,0,none⟩))]++List.replicate 14 ud))
def N2(l b k:Nat):List DV:=wk [0,1,3] (cD ([.v (.func (.yield l) #[] #[]),.v (.pointer (some ⟨b,0,none⟩)),.any,dI (k:Int)]++List.replicate 12 .any))
theorem EH(w0:W0)(hpq:∀d S,¬w0.pq d S)(hg:gq w0){l b x:Nat}(hx:x<18446744073709551616)(X:List Nat→Nat→St)(hb:∀pre y,lk (X pre y).box b=some [dU (y:Int)])
 (hup:∀pre (y y':Nat),(⟨up (X pre y).box b [dU (y':Int)],(X pre y).acc⟩:St)=X pre y') (Inv:List Nat→Prop) (hI0:Inv []) (G:Gh→Prop) (hGle:∀g g',G g→g.le g'→G g') (hGd:∀g,G g→g.kM=[]) (J:World→Prop)
 (hround:∀pre k y g w,pre++k::aQ y=aQ x→Inv pre→Rel w0 g (X pre y) w→G g→∃fn tmps assign body,(Instr.yield l #[.int .i64 (k:Int)]).run Tryz.prog w= .ok (.round l fn tmps assign body) w∧
  ∀ro,RoundIn (fz ro) 0 Tryz.prog l fn tmps assign body w fun e w'=>(e= .returned (.bool true)∧Inv (pre++[k])∧∃g',Rel w0 g' (X (pre++[k]) y) w'∧G g')∨(e= .returned (.bool false)∧J w'))
 (g:Gh) (w:World) (hR:Rel w0 g (X [] x) w) (hG:G g):
 Calls Tryz.prog 195 #[.func (.yield l) #[] #[],.pointer (some ⟨b,0,none⟩)] w fun e w'=>(∃r,e= .returned r)∧((Inv (aQ x)∧∃g',Rel w0 g' (X (aQ x) 0) w'∧G g')∨J w'):=by
 refine(eo (ro:=none) (n:=0)).1 (callsIn_of_wp_marks Tryz.func195 rfl trivial ?_ rfl);refine wpIn_mono (Q:=fun e a w'=>(e= .normal∨e= .ret)∧a.defers=[]∧((Inv (aQ x)∧∃g',Rel w0 g' (X (aQ x) 0) w'∧G g')∨J w')) ?_ ?_
 rotate_left
 ·rintro e a w' ⟨he,hd,hq⟩;have hres:(results Tryz.f195 a.tmps).run Tryz.prog w'= .ok (.tuple #[]) w':=by simp[results,Tryz.results195]
  rcases he with rfl|rfl
  ·show LeavesInM _ _ _ _ _ _ a.defers _ _;rw[hd];exact⟨_,hres,⟨_,rfl⟩,hq⟩
  ·show LeavesInM _ _ _ _ _ _ a.defers _ _;rw[hd];exact⟨_,hres,⟨_,rfl⟩,hq⟩
 refine(iC (l6 (fun m a w=>∃pre y g,Inv pre∧m=(aQ y).length∧pre++aQ y=aQ x∧y<18446744073709551616∧Rel w0 g (X pre y) w∧ae g (eF l b) a.tmps.toList∧a.defers=[]∧G g) (m:=(aQ x).length) ⟨[],x,g,hI0,rfl,rfl,hx,hR,?_,rfl,hG⟩ ?_)) none (.inl rfl)
 ·unfold eF;have h0:ae g [.v (.func (.yield l) #[] #[]),.v (.pointer (some ⟨b,0,none⟩))] [.func (.yield l) #[] #[],.pointer (some ⟨b,0,none⟩)]:=ae.cons (.v _ rfl) (ae.cons (.v _ rfl) (ae.nil g));have h1:=h0.append (ae.replicate g 14);have h2:=gS [0,1] h1;exact h2
 rintro m a w ⟨pre,y,g,hinv,rfl,hpre,hy,hR,hr,hd,hG⟩;have hdk:Dk w0 g a w:= .nil (hd.trans (hGd g hG).symm);have same0:∀a:Act,Aml.Same [] a a:=fun a=>⟨fun _ _=>rfl,rfl,rfl⟩;refine jd (aR (dz (P:=Tryz.prog) (w0:=w0) (t:=[]) (fr:=eF l b) (S:=X pre y) (Q:=fun e fr S=>(e= .normal∧y≠0∧S=X pre y∧wk [0,1] fr=eF l b)∨(e= .exit 0∧y=0∧S=X pre y)) _ (by kernel_rfl) ?_ g a a w hR hr hdk (same0 a)) ?_)
 ·unfold eF;have hb1:=hb pre y;simp(maxDischargeDepth:=12) (maxSteps:=1000000) -implicitDefEqProofs only[go_sem,Nat.reduceAdd,Nat.reduceSub,Nat.reduceMul,Nat.reduceLeDiff,Nat.reduceEqDiff,Nat.reduceGT,Nat.reduceBEq,reduceCtorEq,↓reduceIte,Int.reduceToNat,Int.reduceLE,Int.reduceLT,Int.reduceNe,Int.reduceEq,hb1];omega
 intro e a1 w1 hk
 cases e with
 |ret=>obtain⟨⟨_,_,_,_,_,_,_,q⟩,_⟩:=hk;rcases q with q|q <;>cases q.1
 |goto n=>obtain⟨⟨_,_,_,_,_,_,_,q⟩,_⟩:=hk;rcases q with q|q <;>cases q.1
 |outgrown=>obtain⟨_,_,_,_,_,_,_,q⟩:=hk;rcases q with q|q <;>cases q.1
 |panic ch=>obtain⟨⟨_,_,_,_,_,_,_,_,_,_,_,q⟩,_⟩:=hk;exact(hpq _ _ q).elim
 |exit n=>
  obtain⟨⟨_,g1,fr1,S1,k1,R1,r1,q⟩,hs⟩:=hk;rcases q with⟨q,_⟩|⟨q,rfl,rfl⟩
  ·cases q
  ·cases q;rw[yB,Yu]at hpre;change Exit.inBlock 0 (fun e a w'=>(e= .normal∨e= .ret)∧a.defers=[]∧((Inv (aQ x)∧∃g',Rel w0 g' (X (aQ x) 0) w'∧G g')∨J w')) (.exit 0) a1 w1;simp only[Exit.inBlock,if_true];exact⟨.inl (by trivial),hs.2.1.trans hd,.inl ⟨hpre▸hinv,g1,hpre▸R1,hGle _ _ hG k1⟩⟩
 |normal=>
  obtain⟨⟨hd1,g1,fr1,S1,k1,R1,r1,q⟩,hs1⟩:=hk;rcases q with⟨_,hy0,rfl,hfr1⟩|⟨q,_⟩
  rotate_left
  ·cases q
  have hG1:=hGle _ _ hG k1;have hdf1:a1.defers=[]:=hs1.2.1.trans hd;have r1':ae g1 (eF l b) a1.tmps.toList:=hfr1▸gS [0,1] r1;obtain⟨k,hk64,hlow⟩:=OB hy0 hy;have hbits:=Cx hlow hk64;have hy2':y &&& (y-1)<18446744073709551616:=YZ Nat.and_le_left hy;show ra Tryz.prog (.block 1 _) _ a1 w1;refine iC (jd (aR (dz (P:=Tryz.prog) (w0:=w0) (t:=[]) (fr:=eF l b) (S:=X pre y) (Q:=fun e fr S=>e= .normal∧S=X pre y∧wk [0,1,3] fr=N2 l b k) _ (by kernel_rfl) ?_ g1 a1 a1 w1 R1 r1' (.nil (hdf1.trans (hGd g1 hG1).symm)) (same0 a1)) ?_))
  ·unfold eF N2;have hb1:=hb pre y;simp(maxDischargeDepth:=12) (maxSteps:=1000000) -implicitDefEqProofs only[go_sem,Nat.reduceAdd,Nat.reduceSub,Nat.reduceMul,Nat.reduceLeDiff,Nat.reduceEqDiff,Nat.reduceGT,Nat.reduceBEq,reduceCtorEq,↓reduceIte,Int.reduceToNat,Int.reduceLE,Int.reduceLT,Int.reduceNe,Int.reduceEq,hb1];refine aw (VL _ hg y k hy hk64 hlow _) ?_;simp(maxDischargeDepth:=12) (maxSteps:=1000000) -implicitDefEqProofs only[go_sem,Nat.reduceAdd,Nat.reduceSub,Nat.reduceMul,Nat.reduceLeDiff,Nat.reduceEqDiff,Nat.reduceGT,Nat.reduceBEq,reduceCtorEq,↓reduceIte,Int.reduceToNat,Int.reduceLE,Int.reduceLT,Int.reduceNe,Int.reduceEq]
  intro e a2 w2 hk2
  cases e with
  |ret=>obtain⟨⟨_,_,_,_,_,_,_,q⟩,_⟩:=hk2;cases q.1
  |goto n=>obtain⟨⟨_,_,_,_,_,_,_,q⟩,_⟩:=hk2;cases q.1
  |exit n=>obtain⟨⟨_,_,_,_,_,_,_,q⟩,_⟩:=hk2;cases q.1
  |outgrown=>obtain⟨_,_,_,_,_,_,_,q⟩:=hk2;cases q.1
  |panic ch=>obtain⟨⟨_,_,_,_,_,_,_,_,_,_,_,q⟩,_⟩:=hk2;exact(hpq _ _ q).elim
  |normal=>
   obtain⟨⟨_,g2,fr2,S2,k2,R2,r2,_,rfl,hfr2⟩,hs2⟩:=hk2;have hG2:=hGle _ _ hG1 k2;have hdf2:a2.defers=[]:=hs2.2.1.trans hdf1;have r2':ae g2 (N2 l b k) a2.tmps.toList:=hfr2▸gS [0,1,3] r2;refine jd (aR (dz (P:=Tryz.prog) (w0:=w0) (t:=[]) (fr:=N2 l b k) (S:=X pre y) (Q:=fun e fr S=>e= .normal∧S=X pre (y &&& (y-1))∧wk [0,1,3] fr=N2 l b k) _ (by kernel_rfl) ?_ g2 a2 a2 w2 R2 r2' (.nil (hdf2.trans (hGd g2 hG2).symm)) (same0 a2)) ?_)
   ·unfold N2;have hb1:=hb pre y;have hup1:=hup pre y (y &&& (y-1))
    have hsub:IntKind.u64.wrap ((y:Int)-1)=((y-1:Nat):Int):=by
     have:(y:Int)-1=((y-1:Nat):Int):=by omega
     rw[this,wN (by omega)]
    have hand:=eH (x:=y) (y:=y-1) hy (by omega);simp(maxDischargeDepth:=12) (maxSteps:=1000000) -implicitDefEqProofs only[go_sem,Nat.reduceAdd,Nat.reduceSub,Nat.reduceMul,Nat.reduceLeDiff,Nat.reduceEqDiff,Nat.reduceGT,Nat.reduceBEq,reduceCtorEq,↓reduceIte,Int.reduceToNat,Int.reduceLE,Int.reduceLT,Int.reduceNe,Int.reduceEq,hb1,hsub,hand];exact hup1
   intro e a3 w3 hk3
   cases e with
   |ret=>obtain⟨⟨_,_,_,_,_,_,_,q⟩,_⟩:=hk3;cases q.1
   |goto n=>obtain⟨⟨_,_,_,_,_,_,_,q⟩,_⟩:=hk3;cases q.1
   |exit n=>obtain⟨⟨_,_,_,_,_,_,_,q⟩,_⟩:=hk3;cases q.1
   |outgrown=>obtain⟨_,_,_,_,_,_,_,q⟩:=hk3;cases q.1
   |panic ch=>obtain⟨⟨_,_,_,_,_,_,_,_,_,_,_,q⟩,_⟩:=hk3;exact(hpq _ _ q).elim
   |normal=>
    obtain⟨⟨_,g3,fr3,S3,k3,R3,r3,_,rfl,hfr3⟩,hs3⟩:=hk3;have hG3:=hGle _ _ hG2 k3;have hdf3:a3.defers=[]:=hs3.2.1.trans hdf2;have r3':ae g3 (N2 l b k) a3.tmps.toList:=hfr3▸gS [0,1,3] r3;have e0:a3.eval (.tmp 0)= .func (.yield l) #[] #[]:=an (show aA g3 (.v (.func (.yield l) #[] #[])) _ from dR r3' (.tmp 0));have e3:a3.eval (.tmp 3)= .int .i64 (k:Int):=an (show aA g3 (.v (.int .i64 (k:Int))) _ from dR r3' (.tmp 3))
    have hz:a3.tmps.size=16:=by
     have:=r3'.len;rw[X1]at this;exact this.symm.trans rfl
    obtain⟨fn,tmps,assign,body,hy1,hy2⟩:=hround pre k (y &&& (y-1)) g3 w3 (by rw[←hbits];exact hpre) hinv R3 hG3;obtain⟨a4,ha4⟩:∃a4:Act,a4=(a3.put (some 12) (.func (.yield l) #[] #[])).put (some 13) (.int .i64 (k:Int)):=⟨_,rfl⟩
    have e12:a4.eval (.tmp 12)= .func (.yield l) #[] #[]:=by
     rw[ha4];simp[Act.put,Act.eval,Xx,Xz,hz]
    have e13:a4.eval (.tmp 13)= .int .i64 (k:Int):=by
     rw[ha4];simp[Act.put,Act.eval,Xx,Xz,hz]
    have e33:(a3.put (some 12) (.func (.yield l) #[] #[])).eval (.tmp 3)= .int .i64 (k:Int):=by
     rw[←e3];simp[Act.put,Act.eval,Xx,Xz]
    refine jd (dK fun ro=>?_);refine tR rfl (by intro c h;cases h) (v:= .func (.yield l) #[] #[]) (w':=w3) (by simp[execOp,e0]) ?_;refine tR rfl (by intro c h;cases h) (v:= .int .i64 (k:Int)) (w':=w3) (by simp[execOp,e33]) ?_;change wpListIn (fz ro) 0 Tryz.prog _ _ _ ((a3.put (some 12) (.func (.yield l) #[] #[])).put (some 13) (.int .i64 (k:Int))) w3;rw[←ha4];refine list_round rfl (by intro c h;cases h) (l:=l) (f:=fn) (tmps:=tmps) (assign:=assign) (body:=body) (w':=w3) (by rw[←hy1];simp[execOp,resolve,e12,e13,Deferred.ofValue,invoke]) (hy2 ro) ?_
    have fin:∀(ops:Array Oper) (t:Bool) (w4:World) (Qc:Exit→Act→World→Prop),(∀a5:Act,a5=(a4.put (some 14) (.bool t)).put (some 15) (.bool !t)→a5.eval (.tmp 15)= .bool !t→Qc .normal a5 w4)→wpListIn (fz ro) 0 Tryz.prog ops Qc [⟨some 15,.unOp .not 4 (.tmp 14),4, "lattice.go:24", #[{on:=2,ground:=Ground.data}],none⟩] (a4.put (some 14) (.bool t)) w4:=by
     intro ops t w4 Qc hq
     have e14:(a4.put (some 14) (.bool t)).eval (.tmp 14)= .bool t:=by
      rw[ha4];simp[Act.put,Act.eval,Xx,Xz,hz]
     refine tR rfl (by intro c h;cases h) (v:= .bool !t) (w':=w4) (by simp only[execOp,e14];simp[go_sem,Op.unary]) ?_;refine hq _ rfl ?_;rw[ha4];simp[Act.put,Act.eval,Xx,Xz,hz]
    have rep5:∀(t:Bool) (a5:Act),a5=(a4.put (some 14) (.bool t)).put (some 15) (.bool !t)→∀g5:Gh,ae g5 (eF l b) a5.tmps.toList:=by
     rintro t a5 rfl g5;rw[ha4];have q0:=gS [0,1] r3';have q1:=bz q0 (some 12) (d:= .any) (u:= .func (.yield l) #[] #[]) (.any _);have q2:=bz q1 (some 13) (d:= .any) (u:= .int .i64 (k:Int)) (.any _);have q3:=bz q2 (some 14) (d:= .any) (u:= .bool t) (.any _);have q4:=bz q3 (some 15) (d:= .any) (u:= .bool !t) (.any _);refine yj (ds:=eF l b) q4 fun d hd=>?_;unfold eF at hd;have:d∈([.v (.func (.yield l) #[] #[]),.v (.pointer (some ⟨b,0,none⟩))]++List.replicate 14 .any:List DV):=hd;rcases Xn.1 this with h|h
     ·rcases Xr.1 h with h|h
      ·exact .inl ⟨_,h⟩
      ·rw[Xl]at h;exact .inl ⟨_,h⟩
     ·exact .inr (Zc h)
    have def5:∀(t:Bool) (a5:Act),a5=(a4.put (some 14) (.bool t)).put (some 15) (.bool !t)→a5.defers=[]:=by
     rintro t a5 rfl;rw[ha4];exact hdf3
    rintro e w4 (⟨rfl,hI4,g4,R4,hG4⟩|⟨rfl,hJ⟩)
    ·refine⟨_,rfl,fin _ true w4 _ fun a5 ha5 h15=>?_⟩;change ra Tryz.prog (.cond (.tmp 15) .ret .skip) _ a5 w4;refine cM (t:=!true) h15 (fun h=>by cases h) (fun _=>lN ?_);refine⟨(aQ (y &&& (y-1))).length,by rw[hbits];simp,pre++[k],y &&& (y-1),g4,hI4,rfl,?_,hy2',R4,rep5 _ _ ha5 _,def5 _ _ ha5,hG4⟩;rw[YR,←hpre,hbits];rfl
    ·refine⟨_,rfl,fin _ false w4 _ fun a5 ha5 h15=>?_⟩;change ra Tryz.prog (.cond (.tmp 15) .ret .skip) _ a5 w4;refine cM (t:=!false) h15 (fun _=>oT ?_) (fun h=>by cases h);exact⟨.inr rfl,def5 _ _ ha5,.inr hJ⟩
end Go.Proofs.YtoepfmhnapedoaaGreatDoor
namespace Go.Proofs.YtoepfmhnapedoaaGreatDoor
open Aml Go Lat Go.RowKit
theorem qG{w0:W0}{ro:Option Nat}(hg:gq w0){x b:Nat}(hx:x<18446744073709551616)(X:List Nat→Nat→St)(Z:List Nat→Nat→Nat→St)(Inv:List Nat→Prop)(hI0:Inv [])(HE:List Nat→Nat→Nat→Prop)(B:List Nat→Nat→Nat→List DV→St→Prop){fo:Operand}{ps:Array Tmp}{assign body:Code}{fr:List DV}{S:St}{Q:Exit→List DV→St→Prop}
 (hf:ev fr fo= .v (.func (.func 195) #[] #[.pointer (some ⟨b,0,none⟩)])) (hps:ps.size=1) (hrf:gy assign=true)
 (hX0:X [] x=S) (hb:∀pre y,lk (X pre y).box b=some [dU (y:Int)]) (hup:∀pre (y y':Nat),(⟨up (X pre y).box b [dU (y':Int)],(X pre y).acc⟩:St)=X pre y')
 (hnb:∀pre y,(X pre y).box.map (·.1)=S.box.map (·.1)) (hna:∀pre y,(X pre y).acc.map (·.1)=S.acc.map (·.1)) (hzb:∀pre k y,(Z pre k y).box.map (·.1)=S.box.map (·.1)) (hza:∀pre k y,(Z pre k y).acc.map (·.1)=S.acc.map (·.1))
 (hassign:∀pre k y,pre++k::aQ y=aQ x→Inv pre→fF Tryz.prog w0.np assign (gN ps.toList [dI (k:Int)] fr) (X pre y) (fun e fr1 T1=>e= .normal∧B pre k y fr1 T1))
 (hbody:∀(l:Nat) (r1:Loop) pre k y fr1 T1,pre++k::aQ y=aQ x→Inv pre→B pre k y fr1 T1→∀g a w,Rel w0.np g T1 w→ae g fr1 a.tmps.toList→Dk w0.np g a w→g.obj l=some (.loop r1)→body.wpIn (fz (some l)) 0 Tryz.prog (Aml.Good w0.np g fun e _ T'=>(e= .normal∧Inv (pre++[k])∧Has (X (pre++[k]) y) T')∨(e= .ret∧HE pre k y∧Has (Z pre k y) T')) a w)
 (hdone:Inv (aQ x)→Q .normal fr (X (aQ x) 0)) (hstop:∀pre k y,HE pre k y→Q .ret fr (Z pre k y))
 (g:Gh) (a:Act) (w:World) (h1:Rel w0 g S w) (h2:ae g fr a.tmps.toList) (h3:Dk w0 g a w) (hro:ro=none∨∃l0 r0,ro=some l0∧g.obj l0=some (.loop r0)):
 (Code.rangeFunc fo ps assign body).wpIn (fz ro) 0 Tryz.prog (Aml.Good w0 g Q) a w:=by
 subst hX0;refine wpIn_rangeFunc ?_;intro fn hfn;have hfo:=dR h2 fo;rw[hf]at hfo;have hgf:a.eval fo= .func (.func 195) #[] #[.pointer (some ⟨b,0,none⟩)]:=an hfo;have hsz:=h1.below.size;have hszn:w0.np.heap.size≤w.heap.size:=hsz
 obtain⟨l,mark,dfs,W1,hW,hL1,hb1,hll,hmk⟩:∃(l:Nat) (mark:List Deferred) (dfs:Nat) (W1:World),(Instr.enterLoop fn a.tmps ps assign body (fz ro).round).run Tryz.prog w= .ok (l,mark) W1∧
  W1.heap[l]? =some (.loop {state:= .ready,pending:=none,fn,tmps:=a.tmps,params:=ps,assign,body,defers:=dfs})∧gx w.heap.size w W1∧w.heap.size≤l∧(mark=[]∨∃D,mark=[{target:= .collected D,args:= #[]}]∧w.heap.size≤D∧D≠l∧W1.heap[D]? =some (.deferred (some []))):=by
  rcases hro with rfl|⟨l0,r0,rfl,ho⟩
  ·refine⟨w.heap.size+1,[{target:= .collected w.heap.size,args:= #[]}],w.heap.size,_,run_enterLoop_outer _ _ _ _ _,?_,((gx.refl _ w).alloc (Xg _) _).alloc (by simp) _,by omega,.inr ⟨w.heap.size,rfl,Xg _,by omega,?_⟩⟩
   ·have:=World.alloc_heap_new (w.alloc (.deferred (some []))) (.loop {state:= .ready,pending:=none,fn,tmps:=a.tmps,params:=ps,assign,body,defers:=w.heap.size})
    rwa [World.size_alloc]at this
   ·exact(Below.heap_alloc _ _ _ (by simp)).trans (World.alloc_heap_new w _)
  ·have hl0:=(h1.below.obj l0 _ ho).1;exact⟨w.heap.size,[],r0.defers,_,run_enterLoop_inner hl0 _ _ _ _ _,World.alloc_heap_new w _,(gx.refl _ w).alloc (Xg _) _,Xg _,.inl rfl⟩
 obtain⟨rec,hrec⟩:∃rec:LoopState→Option Code→Loop,rec=fun st pe=>{state:=st,pending:=pe,fn,tmps:=a.tmps,params:=ps,assign,body,defers:=dfs}:=⟨_,rfl⟩;have hL1:W1.heap[l]? =some (.loop (rec .ready none)):=by rw[hrec];exact hL1
 have hob:∀k o,g.obj k=some o→k<w.heap.size:=fun k o hk=>(Xf.1 (h1.below.obj k o hk).1).1
 have hgl:∀k,w.heap.size≤k→g.obj k=none:=fun k hk=>by
  cases hx:g.obj k with
  |none=>rfl
  |some o=>have:=hob k o hx;omega
 have hwl:∀k,w.heap.size≤k→w0.gh.obj k=none:=fun k hk=>by
  cases hx:w0.gh.obj k with
  |none=>rfl
  |some o=>have:=hob k o (h1.below.dw.obj k o hx);omega
 obtain⟨pin,hpin⟩:∃pin:Option Obj→Nat→Option Obj,pin=fun o k=>if k=l then o else rm W1 k:=⟨_,rfl⟩
 have hpl:∀o,pin o l=o:=fun o=>by rw[hpin];simp
 have hpk:∀o k,k≠l→pin o k=rm W1 k:=fun o k hk=>by rw[hpin];simp[hk]
 have h1W:=h1.grow hb1;have hne0:∀k o,w0.gh.obj k=some o→k≠l:=by rintro k o hk rfl;rw[hwl _ hll]at hk;cases hk
 have hsub:∀o,w0.np.gh.sub (g.af (pin o)):=fun o=>⟨h1.below.dw.aO,h1.below.dw.acc,fun k o' hk=>by
  show pin o k=some o';rw[hpk o k (hne0 k o' hk)];have:=h1W.below.obj k o' (h1W.below.dw.obj k o' hk);exact jV this.1 this.2⟩
 let G:Gh→Prop:=fun g'=>(∀b i u,g.aO b i=some u→g'.aO b i=some u)∧(∀n m u,g.acc n m=some u→g'.acc n m=some u)∧g'.obj=pin (some (.loop (rec .ready none)))∧g'.kM=[]
 let J:World→Prop:=fun w'=>∃pre k y g',HE pre k y∧Rel w0.np g' (Z pre k y) w'∧((∀b i u,g.aO b i=some u→g'.aO b i=some u)∧(∀n m u,g.acc n m=some u→g'.acc n m=some u)∧g'.obj=pin (some (.loop (rec .done (some .ret))))∧g'.kM=[])
 have R1:Rel w0.np ((g.af (pin (some (.loop (rec .ready none))))).ay []) (X [] x) W1:=by
  refine Rel.ay (w0:=w0.np) (h1W.af (w0':=w0.np) rfl (fun k o hk=>?_) (hsub _)) [] rfl (hsub _);by_cases e:k=l
  ·subst e;rw[hpl]at hk;cases hk;exact⟨hL1,rfl⟩
  ·rw[hpk _ _ e]at hk;exact px hk
 have hpqn:∀d S,¬(w0.np).pq d S:=fun _ _ h=>h;have nX:∀pre y,((X pre y).box.map (·.1)).Nodup∧((X pre y).acc.map (·.1)).Nodup:=fun pre y=>⟨by rw[hnb];exact h1.nb,by rw[hna];exact h1.na⟩;have nZ:∀pre k y,((Z pre k y).box.map (·.1)).Nodup∧((Z pre k y).acc.map (·.1)).Nodup:=fun pre k y=>⟨by rw[hzb];exact h1.nb,by rw[hza];exact h1.na⟩
 have hround:∀pre k y g3 w3,pre++k::aQ y=aQ x→Inv pre→Rel w0.np g3 (X pre y) w3→G g3→∃fn tmps assign body,(Instr.yield l #[.int .i64 (k:Int)]).run Tryz.prog w3= .ok (.round l fn tmps assign body) w3∧
  ∀ro,RoundIn (fz ro) 0 Tryz.prog l fn tmps assign body w3 fun e w'=>(e= .returned (.bool true)∧Inv (pre++[k])∧∃g',Rel w0.np g' (X (pre++[k]) y) w'∧G g')∨(e= .returned (.bool false)∧J w'):=by
  intro pre k y g3 w3 hpre hinv R3 hG3;obtain⟨hi3,hac3,ho3,hd3⟩:=hG3;have hl3g:g3.obj l=some (.loop (rec .ready none)):=by rw[ho3,hpl]
  have hl3:=(R3.below.obj l _ hl3g).1;have hy:=run_yield (P:=Tryz.prog) (args:= #[.int .i64 (k:Int)]) hl3 (by rw[hrec];exact hps.symm);rw[hrec]at hy;dsimp only at hy;refine⟨_,_,_,_,hy,fun ro=>roundIn_of_wpIn (F:=fz ro) (n:=0) trivial ?_⟩;have hfr0:ae g3 fr a.tmps.toList:=⟨h2.len,fun i d u a1 a2=>aA.of (g:=g) hi3 hac3 (h2.at_ i d u a1 a2)⟩
  have hfr:ae g3 (gN ps.toList [dI (k:Int)] fr) (((ps.zip #[.int .i64 (k:Int)]).foldl (fun t (p,v)=>t.setIfInBounds p v) a.tmps).toList):=by
   have:=kW (g:=g3) ps.toList [dI (k:Int)] [.int .i64 (k:Int)] (fr:=fr) (us:=a.tmps) hfr0 (ae.cons (.v _ rfl) (ae.nil _));rw[show [Value.int .i64 (k:Int)]=(#[Value.int .i64 (k:Int)]:Array Value).toList from rfl,←Array.toList_zip,Array.foldl_toList]at this;exact this
  refine wpIn_mono (hassign pre k y hpre hinv g3 {tmps:=_,defers:=[]} w3 R3 hfr (.nil hd3.symm) (some l) (.inr hrf)) ?_;rintro e a4 w4 ⟨hd4,g4,fr4,T4,k1,k2,k3,k4⟩
  cases e with
  |exit n=>cases k4.1
  |goto n=>cases k4.1
  |ret=>cases k4.1
  |outgrown=>cases k4.1
  |panic ch=>obtain⟨_,_,_,_,h⟩:=k4;exact h.elim
  |normal=>
   have hl4g:g4.obj l=some (.loop (rec .ready none)):=by rw[k1.obj];exact hl3g
   have hl4:=(k2.below.obj _ _ hl4g).1;refine⟨_,run_beginRound hl4 (by rw[hrec]),?_⟩;have hlt4:l<w4.heap.size:=(Xf.1 hl4).1;have hbz:({rec .ready none with state:= .busy}:Loop)=rec .busy none:=by rw[hrec]
   rw[hbz];have ho4:g4.obj=pin (some (.loop (rec .ready none))):=k1.obj.trans ho3;have s4:∀o,w0.np.gh.sub (g4.af (pin o)):=fun o=>⟨k2.below.dw.aO,k2.below.dw.acc,(hsub o).obj⟩
   have R4x:Rel w0.np (g4.af (pin none)) T4 w4:=k2.af rfl (fun k' o hk=>by
    by_cases e:k'=l
    ·subst e;rw[hpl]at hk;cases hk
    ·exact k2.below.obj k' o (by rw[ho4,hpk _ _ e];rw[hpk _ _ e]at hk;exact hk)) (s4 _)
   have hh5:∀k',k'≠l→(w4.putObj l (.loop (rec .busy none))).heap[k']? =w4.heap[k']? :=fun k' hk=>World.putObj_heap_other hk;have R4y:=R4x.putObj (o':= .loop (rec .busy none)) hl4 rfl (hpl none) (Yl hszn hll)
   have R5:Rel w0.np (g4.af (pin (some (.loop (rec .busy none))))) T4 (w4.putObj l (.loop (rec .busy none))):=R4y.af (ob:=pin (some (.loop (rec .busy none)))) rfl (fun k' o hk=>by
    by_cases e:k'=l
    ·subst e;rw[hpl]at hk;cases hk;exact⟨World.putObj_heap_same hlt4,rfl⟩
    ·rw[hh5 k' e];exact k2.below.obj k' o (by rw[ho4,hpk _ _ e];rw[hpk _ _ e]at hk;exact hk)) (s4 _)
   have hD5:Dk w0.np (g4.af (pin (some (.loop (rec .busy none))))) a4 (w4.putObj l (.loop (rec .busy none))):=by
    obtain⟨ms,em,hn4,hd4⟩:=hd4;refine⟨ms,by rw[em];show ms++_=ms++g4.kM;rw[k1.kM],hn4,fun d hd=>?_⟩;obtain⟨D,e1,e2,e3,e4⟩:=hd4 d hd;have hne:D≠l:=by rintro rfl;rw[hl4]at e2;cases e2
    refine⟨D,e1,(hh5 D hne).trans e2,?_,e4⟩;show pin _ D=none;rw[hpk _ _ hne,←hpk (some (.loop (rec .ready none))) _ hne,←ho3];exact e3
   refine wpIn_mono (hbody l (rec .busy none) pre k y fr4 T4 hpre hinv k4.2 _ a4 _ R5 k3.af hD5 (hpl _)) ?_;rintro e a6 w6 ⟨_,g6,fr6,T6,q1,q2,q3,q4⟩;have hg6:g6.obj=pin (some (.loop (rec .busy none))):=q1.obj;have hl6:=(q2.below.obj l (.loop (rec .busy none)) (by rw[hg6,hpl])).1;have hlt6:l<w6.heap.size:=(Xf.1 hl6).1;have hi6:∀b i u,g.aO b i=some u→g6.aO b i=some u:=fun b i u h=>q1.aO _ _ _ (k1.aO _ _ _ (hi3 _ _ _ h));have hac6:∀n m u,g.acc n m=some u→g6.acc n m=some u:=fun b i u h=>q1.acc _ _ _ (k1.acc _ _ _ (hac3 _ _ _ h));have s6:∀o,w0.np.gh.sub (g6.af (pin o)):=fun o=>⟨q2.below.dw.aO,q2.below.dw.acc,(hsub o).obj⟩
   have turn:∀(o':Loop),Rel w0.np ((g6.af (pin (some (.loop o')))).ay []) T6 (w6.putObj l (.loop o')):=by
    intro o'
    have R6x:Rel w0.np (g6.af (pin none)) T6 w6:=q2.af rfl (fun k' o hk=>by
     by_cases e:k'=l
     ·subst e;rw[hpl]at hk;cases hk
     ·exact q2.below.obj k' o (by rw[hg6,hpk _ _ e];rw[hpk _ _ e]at hk;exact hk)) (s6 _)
    have R6y:=R6x.putObj (o':= .loop o') hl6 rfl (hpl none) (Yl hszn hll)
    have R7:Rel w0.np (g6.af (pin (some (.loop o')))) T6 (w6.putObj l (.loop o')):=R6y.af (ob:=pin (some (.loop o'))) rfl (fun k' o hk=>by
     by_cases e:k'=l
     ·subst e;rw[hpl]at hk;cases hk;exact⟨World.putObj_heap_same hlt6,rfl⟩
     ·rw[World.putObj_heap_other e];exact q2.below.obj k' o (by rw[hg6,hpk _ _ e];rw[hpk _ _ e]at hk;exact hk)) (s6 _)
    exact R7.ay [] rfl (s6 _)
   cases e with
   |exit n=>rcases q4 with q|q <;>cases q.1
   |goto n=>rcases q4 with q|q <;>cases q.1
   |outgrown=>rcases q4 with q|q <;>cases q.1
   |panic ch=>obtain⟨_,_,_,_,h⟩:=q4;exact h.elim
   |normal=>
    rcases q4 with⟨_,hI6,hHas⟩|⟨q,_⟩
    rotate_left
    ·cases q
    have he:=run_endRound (P:=Tryz.prog) none hl6;have hbr:({rec .busy none with state:=if(none:Option Code).isNone then .ready else .done,pending:=none}:Loop)=rec .ready none:=by rw[hrec];rfl
    rw[hbr]at he;exact⟨.bool true,_,he,.inl ⟨rfl,hI6,_,(turn (rec .ready none)).has hHas (nX _ _).1 (nX _ _).2,hi6,hac6,rfl,rfl⟩⟩
   |ret=>
    rcases q4 with⟨q,_⟩|⟨_,hst,hHas⟩
    ·cases q
    have he:=run_endRound (P:=Tryz.prog) (some .ret) hl6;have hbr:({rec .busy none with state:=if(some Code.ret:Option Code).isNone then .ready else .done,pending:=some .ret}:Loop)=rec .done (some .ret):=by rw[hrec];rfl
    rw[hbr]at he;exact⟨.bool false,_,he,.inr ⟨rfl,pre,k,y,_,hst,(turn (rec .done (some .ret))).has hHas (nZ _ _ _).1 (nZ _ _ _).2,hi6,hac6,rfl,rfl⟩⟩
 have hok:okF Tryz.prog 195=true:=by kernel_rfl
 have fin:∀(S2:St) (g2:Gh) (w2:World) (r2:Loop),Rel w0.np g2 S2 w2→(∀b i u,g.aO b i=some u→g2.aO b i=some u)→(∀n m u,g.acc n m=some u→g2.acc n m=some u)→g2.obj=pin (some (.loop r2))→∀o':Obj,∀(e:Exit),Qp w0 ((g2.af g.obj).ay g.kM) Q e fr S2→Aml.Good w0 g Q e {a with defers:=mark++a.defers} (w2.putObj l o'):=by
  intro S2 g2 w2 r2 R2 hi hac ho o' e hq;have hkeep:∀(k:Nat) (o:Obj),k≠l→W1.heap[k]? =some o→nc o=true→w2.heap[k]? =some o:=fun k o hk p1 p2=>(R2.below.obj k o (by rw[ho,hpk _ _ hk];exact jV p1 p2)).1;have hl2:=(R2.below.obj l (.loop r2) (by rw[ho,hpl])).1;have hoth:∀k,k≠l→(w2.putObj l o').heap[k]? =w2.heap[k]? :=fun k hk=>World.putObj_heap_other hk;have hsub2:w0.gh.sub (g2.af g.obj):=⟨R2.below.dw.aO,R2.below.dw.acc,h1.below.dw.obj⟩
  have Rb:Rel w0 (g2.af g.obj) S2 w2:=R2.af (w0':=w0) rfl (fun k o hk=>by
   obtain⟨p1,p2⟩:=h1.below.obj k o hk;have hlt:=hob k o hk;exact⟨hkeep k o (by omega) ((hb1.block k hlt).trans p1) p2,p2⟩) hsub2
  have Rc:=(Rb.putObj (o':=o') hl2 rfl (hgl _ hll) (Yl hsz hll)).ay g.kM rfl hsub2;refine⟨?_,(g2.af g.obj).ay g.kM,fr,S2,⟨hi,hac,rfl,rfl⟩,Rc,⟨h2.len,fun i d u p q=>(aA.of (g:=g) hi hac (h2.at_ i d u p q)).af.ay⟩,hq⟩;obtain⟨ms,em,hn,hms⟩:=h3
  have old:∀d,d∈ms→∃D,d={target:= .collected D,args:= #[]}∧(w2.putObj l o').heap[D]? =some (.deferred (some []))∧g.obj D=none∧w0.heap.size≤D:=fun d hd=>by
   obtain⟨D,e1,e2,e3,e4⟩:=hms d hd;have hlt:=(Xf.1 e2).1;exact⟨D,e1,(hoth D (by omega)).trans (hkeep D _ (by omega) ((hb1.block D hlt).trans e2) rfl),e3,e4⟩
  rcases hmk with rfl|⟨D,rfl,hD1,hD2,hD3⟩
  ·exact⟨ms,em,hn,old⟩
  ·refine⟨{target:= .collected D,args:= #[]}::ms,by show _::a.defers=_;rw[em];rfl,?_,fun d hd=>?_⟩
   ·rw[Xu];refine⟨fun hm=>?_,hn⟩;obtain⟨D',e1,e2,_⟩:=hms _ hm;have:D=D':=by injection e1 with e1 _;injection e1
    subst this;have:=(Xf.1 e2).1;omega
   ·rcases Xr.1 hd with rfl|hd
    ·exact⟨D,rfl,(hoth D hD2).trans (hkeep D _ hD2 hD3 rfl),hgl _ hD1,Yl hsz hD1⟩
    ·exact old d hd
 refine⟨l,mark,W1,{target:= .fn (.func 195) #[.pointer (some ⟨b,0,none⟩)],args:= #[.func (.yield l) #[] #[]]},W1,195, #[.func (.yield l) #[] #[],.pointer (some ⟨b,0,none⟩)],W1,hW,?_,fun _ _=>trivial,?_,fun h=>by simp[fz,Fence.wide]at h,?_⟩
 ·simp only[resolve,hgf];simp[go_sem]
 ·unfold okF at hok;split at hok
  ·rename_i fn' hfn';simp only[Xe,XK]at hok;obtain⟨hb,hname⟩:=hok;have hbn:¬fn'.body=none:=by intro e;simp[e]at hb
   have hname':¬fn'.name= "runtime.NumGoroutine" :=by simpa using hname
   simp[invoke,callFunc,hfn',hname',hbn]
  ·cases hok
 ·have hGle:∀g g',G g→g.le g'→G g':=fun g1 g2 ⟨p1,p2,p3,p4⟩ k=>⟨fun b i u h=>k.aO _ _ _ (p1 _ _ _ h),fun b i u h=>k.acc _ _ _ (p2 _ _ _ h),k.obj.trans p3,k.kM.trans p4⟩;refine eo.2 ((EH w0.np hpqn hg hx X hb hup Inv hI0 G hGle (fun _ h=>h.2.2.2) J hround _ W1 R1 ⟨fun _ _ _ h=>h,fun _ _ _ h=>h,rfl,rfl⟩).mono ?_);rintro e w2 ⟨⟨r,rfl⟩,⟨hIe,g2,R2,hi,hac,ho,hd⟩|⟨pre,k,y,g2,hst,R2,hi,hac,ho,hd⟩⟩
  ·have hl2:=(R2.below.obj l _ (by rw[ho,hpl])).1;have he:=run_endLoop (P:=Tryz.prog) hl2 (by rw[hrec];simp);rw[show(rec .ready none).pending=none by rw[hrec]]at he;exact⟨none,_,he,fin _ g2 w2 _ R2 hi hac ho _ .normal (hdone hIe)⟩
  ·have hl2:=(R2.below.obj l _ (by rw[ho,hpl])).1;have he:=run_endLoop (P:=Tryz.prog) hl2 (by rw[hrec];simp);rw[show(rec .done (some .ret)).pending=some .ret by rw[hrec]]at he;exact⟨some .ret,_,he,wpIn_ret (fin _ g2 w2 _ R2 hi hac ho _ .ret (hstop _ _ _ hst))⟩
end Go.Proofs.YtoepfmhnapedoaaGreatDoor
namespace Go.Proofs.YtoepfmhnapedoaaGreatDoor
open Aml Go Lat
theorem K0(w0:W0)(x:Nat)(S:St):aa Tryz.prog w0 176 [dU (x:Int)] S (fun d S'=>∃b:FN S.box,d= .v (.func (.func 195) #[] #[.pointer (some ⟨b.n,0,none⟩)])∧S'=⟨(b.n,[dU (x:Int)])::S.box,S.acc⟩):=by
 refine jj [] mx Tryz.func176 rfl rfl (by kernel_rfl) ?_;simp(maxDischargeDepth:=12) (maxSteps:=1000000) -implicitDefEqProofs only[Tryz.ntmps176,go_sem,Nat.reduceAdd,Nat.reduceSub,Nat.reduceMul,Nat.reduceLeDiff,Nat.reduceEqDiff,Nat.reduceGT,Nat.reduceBEq,reduceCtorEq,↓reduceIte,Int.reduceToNat,Int.reduceLE,Int.reduceLT,Int.reduceNe,Int.reduceEq];exact fun b=>⟨b,rfl,rfl⟩
theorem Kx(p:Tmp)(d:DV)(fr:List DV):gN [p] [d] fr=fr.set p d:=rfl
theorem pD{x k:Nat}{pre l:List Nat}(h:pre++k::l=aQ x):k<64:=by
 have:k∈aQ x:=by rw[←h];simp
 exact(sj.1 this).1
theorem bu{α:Type}{l:List (Nat×α)}(b:FN l){c:Nat}{x:α}(h:lk l c=some x):(b.n=c)=False:=av b c (by rw[h];rfl)
theorem mO{α:Type}{l l':List (Nat×α)}{d:α}{b c:Nat}{x:α}(h:(b=c)=False)(h':lk l c=some x):lk ((b,d)::l) c=some x:=by
 unfold lk;rw[if_neg (by first|(rw[h];exact id)|(intro e;exact h.mp e.symm))];exact h'
def Nx(l:Nat)(r1:Loop)(P:Program)(w0:W0)(c:Code)(fr:List DV)(S:St)(Q:Exit→List DV→St→Prop):Prop:=
 ∀g a w,Rel w0 g S w→ae g fr a.tmps.toList→Dk w0 g a w→g.obj l=some (.loop r1)→c.wpIn (fz (some l)) 0 P (Aml.Good w0 g Q) a w
theorem wU{l:Nat}{r1:Loop}{P:Program}{w0:W0}{c:Code}{fr:List DV}{S:St}{Q:Exit→List DV→St→Prop}(hn:gy c=true)(h:fF P w0 c fr S Q):Nx l r1 P w0 c fr S Q:=fun g a w h1 h2 h3 _=>h g a w h1 h2 h3 (some l) (.inr hn)
theorem sL{l:Nat}{r1:Loop}{P:Program}{w0:W0}{x y:Code}{fr:List DV}{S:St}{Q:Exit→List DV→St→Prop}(h:Nx l r1 P w0 x fr S (fV (fun fr S=>Nx l r1 P w0 y fr S Q) Q)):Nx l r1 P w0 (.seq x y) fr S Q:=by
 intro g a w h1 h2 h3 h4;refine wpIn_seq (wpIn_mono (h g a w h1 h2 h3 h4) ?_);intro e a' w' hg;obtain⟨hd,g',fr',S',k1,k2,k3,k4⟩:=hg
 cases e with
 |normal=>exact wpIn_mono (k4 g' a' w' k2 k3 (k1.dk hd) (k1.obj▸h4)) fun _ _ _ k=>k.of_le k1
 |exit n=>exact⟨hd,g',fr',S',k1,k2,k3,k4⟩
 |goto n=>exact⟨hd,g',fr',S',k1,k2,k3,k4⟩
 |ret=>exact⟨hd,g',fr',S',k1,k2,k3,k4⟩
 |panic ch=>exact⟨hd,g',fr',S',k1,k2,k3,k4⟩
 |outgrown=>exact⟨hd,g',fr',S',k1,k2,k3,k4⟩
theorem rA{l n:Nat}{r1:Loop}{P:Program}{w0:W0}{c:Code}{fr:List DV}{S:St}{Q:Exit→List DV→St→Prop}(h:Nx l r1 P w0 c fr S (eC n Q)):Nx l r1 P w0 (.block n c) fr S Q:=by
 intro g a w h1 h2 h3 h4;refine wpIn_block (wpIn_mono (h g a w h1 h2 h3 h4) ?_);intro e a' w' hg;obtain⟨hd,g',fr',S',k1,k2,k3,k4⟩:=hg
 cases e with
 |normal=>exact⟨hd,g',fr',S',k1,k2,k3,k4⟩
 |exit m=>
  simp only[Exit.inBlock];simp only[Qp,eC]at k4;split
  ·rename_i e;rw[if_pos e]at k4;exact⟨hd,g',fr',S',k1,k2,k3,k4⟩
  ·rename_i e;rw[if_neg e]at k4;exact⟨hd,g',fr',S',k1,k2,k3,k4⟩
 |goto n=>exact⟨hd,g',fr',S',k1,k2,k3,k4⟩
 |ret=>exact⟨hd,g',fr',S',k1,k2,k3,k4⟩
 |panic ch=>exact⟨hd,g',fr',S',k1,k2,k3,k4⟩
 |outgrown=>exact⟨hd,g',fr',S',k1,k2,k3,k4⟩
def vF(le:Nat→Nat→Bool)(x a:Nat):Bool:=(aQ x).all fun d=>le a d
theorem LP(w0:W0)(hg:gq w0)(x:Nat)(hx:x<18446744073709551616)(fl bx:Nat)(hok:okF Tryz.prog fl=true)(ds:List DV)(le:Nat→Nat→Bool)
 (hle:∀(w1:W0) (c d:Nat) (T:St),c<64→d<64→lk T.box bx=some ds→aa Tryz.prog w1 fl [dI (c:Int),dI (d:Int),.v (.pointer (some ⟨bx,0,none⟩))] T (fun d' T'=>d'=dB (le c d)∧T'=T)) (S:St) (hbx:lk S.box bx=some ds):
 aa Tryz.prog w0 145 [dU (x:Int),.v (.func (.func fl) #[] #[.pointer (some ⟨bx,0,none⟩)])] S (fun d S'=>(∃r:Int,d=dI r∧((r= -1∧∀a,a∈aQ x→vF le x a=false)∨∃pre k rest,r=(k:Nat)∧pre++k::rest=aQ x∧(∀a,a∈pre→vF le x a=false)∧vF le x k=true))∧S'=S):=by
 refine mi [] mx Tryz.func145 rfl rfl (by kernel_rfl) ?_;simp(maxDischargeDepth:=12) (maxSteps:=1000000) -implicitDefEqProofs only[go_sem,Nat.reduceAdd,Nat.reduceSub,Nat.reduceMul,Nat.reduceLeDiff,Nat.reduceEqDiff,Nat.reduceGT,Nat.reduceBEq,reduceCtorEq,↓reduceIte,Int.reduceToNat,Int.reduceLE,Int.reduceLT,Int.reduceNe,Int.reduceEq,Tryz.ntmps145];intro b2 b3 b4;have e2:=bu b2 hbx;have g2:=fun d=>mO (l':=S.box) (d:=d) e2 hbx;have e3:=bu b3 (g2 _);have g3:=fun d d'=>mO (l':=S.box) (d:=d) e3 (g2 d');have e4:=bu b4 (g3 _ _);have g4:=fun d d' d''=>mO (l':=S.box) (d:=d) e4 (g3 d' d'');refine aj (K0 _ x _) ?_;rintro _ _ ⟨be,rfl,rfl⟩;have e5:=bu be (g4 _ _ _);have g5:=fun d d' d'' d3=>mO (l':=S.box) (d:=d) e5 (g4 d' d'' d3);simp(maxDischargeDepth:=12) (maxSteps:=1000000) -implicitDefEqProofs only[go_sem,Nat.reduceAdd,Nat.reduceSub,Nat.reduceMul,Nat.reduceLeDiff,Nat.reduceEqDiff,Nat.reduceGT,Nat.reduceBEq,reduceCtorEq,↓reduceIte,Int.reduceToNat,Int.reduceLE,Int.reduceLT,Int.reduceNe,Int.reduceEq];intro g a w h1 h2 h3 ro hro;have hro:ro=none:=hro.resolve_right (by simp[gy])
 refine qG hg hx (b:=be.n) (fun pre y=>⟨(be.n,[dU (y:Int)])::(b4.n,[dI 0])::(b3.n,[.v (.func (.func fl) #[] #[.pointer (some ⟨bx,0,none⟩)])])::(b2.n,[dU (x:Int)])::S.box,S.acc⟩) (fun pre k y=>⟨(be.n,[dU (y:Int)])::(b4.n,[dI (k:Int)])::(b3.n,[.v (.func (.func fl) #[] #[.pointer (some ⟨bx,0,none⟩)])])::(b2.n,[dU (x:Int)])::S.box,S.acc⟩)
  (fun pre=>∀a,a∈pre→vF le x a=false) (fun _ h=>by cases h) (fun pre k y=>pre++k::aQ y=aQ x∧(∀a,a∈pre→vF le x a=false)∧vF le x k=true)
  (fun pre k y fr1 T1=>∀l r1,(∀a,a∈pre→vF le x a=false)→Nx l r1 Tryz.prog w0.np _ fr1 T1 fun e _ T'=>(e= .normal∧(∀a,a∈pre++[k]→vF le x a=false)∧Has ⟨(be.n,[dU (y:Int)])::(b4.n,[dI 0])::(b3.n,[.v (.func (.func fl) #[] #[.pointer (some ⟨bx,0,none⟩)])])::(b2.n,[dU (x:Int)])::S.box,S.acc⟩ T')∨(e= .ret∧(pre++k::aQ y=aQ x∧(∀a,a∈pre→vF le x a=false)∧vF le x k=true)∧Has ⟨(be.n,[dU (y:Int)])::(b4.n,[dI (k:Int)])::(b3.n,[.v (.func (.func fl) #[] #[.pointer (some ⟨bx,0,none⟩)])])::(b2.n,[dU (x:Int)])::S.box,S.acc⟩ T'))
  rfl rfl (by kernel_rfl) rfl ?_ ?_ (fun _ _=>rfl) (fun _ _=>rfl) (fun _ _ _=>rfl) (fun _ _ _=>rfl) ?_ (fun l r1 pre k y fr1 T1 hpre hinv hB g a w q1 q2 q3 q4=>hB l r1 hinv g a w q1 q2 q3 q4) ?_ ?_ g a w h1 h2 h3 (.inl hro)
 ·intro pre y;simp(maxDischargeDepth:=12) (maxSteps:=1000000) -implicitDefEqProofs only[go_sem,Nat.reduceAdd,Nat.reduceSub,Nat.reduceMul,Nat.reduceLeDiff,Nat.reduceEqDiff,Nat.reduceGT,Nat.reduceBEq,reduceCtorEq,↓reduceIte,Int.reduceToNat,Int.reduceLE,Int.reduceLT,Int.reduceNe,Int.reduceEq]
 ·intro pre y y';simp(maxDischargeDepth:=12) (maxSteps:=1000000) -implicitDefEqProofs only[go_sem,Nat.reduceAdd,Nat.reduceSub,Nat.reduceMul,Nat.reduceLeDiff,Nat.reduceEqDiff,Nat.reduceGT,Nat.reduceBEq,reduceCtorEq,↓reduceIte,Int.reduceToNat,Int.reduceLE,Int.reduceLT,Int.reduceNe,Int.reduceEq]
 ·intro pre k y hpre hinv;have hk64:=pD hpre;refine aS (ss:=[]) mx _ (by kernel_rfl) ?_;simp(maxDischargeDepth:=12) (maxSteps:=1000000) -implicitDefEqProofs only[go_sem,Nat.reduceAdd,Nat.reduceSub,Nat.reduceMul,Nat.reduceLeDiff,Nat.reduceEqDiff,Nat.reduceGT,Nat.reduceBEq,reduceCtorEq,↓reduceIte,Int.reduceToNat,Int.reduceLE,Int.reduceLT,Int.reduceNe,Int.reduceEq,Kx];intro b5 l r1 hpre0;have e6:=bu b5 (g5 _ _ _ _);have g6:=fun d d' d'' d3 d4=>mO (l':=S.box) (d:=d) e6 (g5 d' d'' d3 d4);refine rA (sL (wU (by kernel_rfl) (aS (ss:=[]) mx _ (by kernel_rfl) ?_)));simp(maxDischargeDepth:=12) (maxSteps:=1000000) -implicitDefEqProofs only[go_sem,Nat.reduceAdd,Nat.reduceSub,Nat.reduceMul,Nat.reduceLeDiff,Nat.reduceEqDiff,Nat.reduceGT,Nat.reduceBEq,reduceCtorEq,↓reduceIte,Int.reduceToNat,Int.reduceLE,Int.reduceLT,Int.reduceNe,Int.reduceEq];intro b6;have e7:=bu b6 (g6 _ _ _ _ _);have g7:=fun d d' d'' d3 d4 d5=>mO (l':=S.box) (d:=d) e7 (g6 d' d'' d3 d4 d5);refine sL (sL (wU (by kernel_rfl) (aS (ss:=[]) mx _ (by kernel_rfl) ?_)));simp(maxDischargeDepth:=12) (maxSteps:=1000000) -implicitDefEqProofs only[go_sem,Nat.reduceAdd,Nat.reduceSub,Nat.reduceMul,Nat.reduceLeDiff,Nat.reduceEqDiff,Nat.reduceGT,Nat.reduceBEq,reduceCtorEq,↓reduceIte,Int.reduceToNat,Int.reduceLE,Int.reduceLT,Int.reduceNe,Int.reduceEq];refine aj (K0 _ x _) ?_;rintro _ _ ⟨be2,rfl,rfl⟩;have e8:=bu be2 (g7 _ _ _ _ _ _);simp(maxDischargeDepth:=12) (maxSteps:=1000000) -implicitDefEqProofs only[go_sem,Nat.reduceAdd,Nat.reduceSub,Nat.reduceMul,Nat.reduceLeDiff,Nat.reduceEqDiff,Nat.reduceGT,Nat.reduceBEq,reduceCtorEq,↓reduceIte,Int.reduceToNat,Int.reduceLE,Int.reduceLT,Int.reduceNe,Int.reduceEq];refine rA ?_;intro g a w q1 q2 q3 q4;have hgn:gq w0.np:=hg
  refine qG (w0:=w0.np) hgn hx (b:=be2.n) (fun pre2 y2=>⟨(be2.n,[dU (y2:Int)])::(b6.n,[dB (pre2.all fun d=>le k d)])::(b5.n,[dI (k:Int)])::(be.n,[dU (y:Int)])::(b4.n,[dI 0])::(b3.n,[.v (.func (.func fl) #[] #[.pointer (some ⟨bx,0,none⟩)])])::(b2.n,[dU (x:Int)])::S.box,S.acc⟩) (fun pre2 _ y2=>⟨(be2.n,[dU (y2:Int)])::(b6.n,[dB (pre2.all fun d=>le k d)])::(b5.n,[dI (k:Int)])::(be.n,[dU (y:Int)])::(b4.n,[dI 0])::(b3.n,[.v (.func (.func fl) #[] #[.pointer (some ⟨bx,0,none⟩)])])::(b2.n,[dU (x:Int)])::S.box,S.acc⟩)
   (fun _=>True) trivial (fun _ _ _=>False)
   (fun pre2 k2 y2 fr1 T1=>vw Tryz.prog w0.np.np [] _ fr1 T1 fun e _ T'=>e= .normal∧Has (⟨(be2.n,[dU (y2:Int)])::(b6.n,[dB ((pre2++[k2]).all fun d=>le k d)])::(b5.n,[dI (k:Int)])::(be.n,[dU (y:Int)])::(b4.n,[dI 0])::(b3.n,[.v (.func (.func fl) #[] #[.pointer (some ⟨bx,0,none⟩)])])::(b2.n,[dU (x:Int)])::S.box,S.acc⟩:St) T')
   rfl rfl (by kernel_rfl) rfl ?_ ?_ (fun _ _=>rfl) (fun _ _=>rfl) (fun _ _ _=>rfl) (fun _ _ _=>rfl) ?_ (fun l2 r2 pre2 k2 y2 fr1 T1 hpre2 _ hB g a w p1 p2 p3 p4=>wpIn_mono (aS (ss:=[]) mx _ (by kernel_rfl) hB g a w p1 p2 p3 (some l2) (.inr (by kernel_rfl))) fun e a w k=>k.mono fun e fr S h=> .inl ⟨h.1,trivial,h.2⟩) ?_ (fun _ _ _ h=>h.elim) g a w q1 q2 q3 (.inr ⟨l,r1,rfl,q4⟩)
  ·intro pre2 y2;simp(maxDischargeDepth:=12) (maxSteps:=1000000) -implicitDefEqProofs only[go_sem,Nat.reduceAdd,Nat.reduceSub,Nat.reduceMul,Nat.reduceLeDiff,Nat.reduceEqDiff,Nat.reduceGT,Nat.reduceBEq,reduceCtorEq,↓reduceIte,Int.reduceToNat,Int.reduceLE,Int.reduceLT,Int.reduceNe,Int.reduceEq]
  ·intro pre2 y2 y2';simp(maxDischargeDepth:=12) (maxSteps:=1000000) -implicitDefEqProofs only[go_sem,Nat.reduceAdd,Nat.reduceSub,Nat.reduceMul,Nat.reduceLeDiff,Nat.reduceEqDiff,Nat.reduceGT,Nat.reduceBEq,reduceCtorEq,↓reduceIte,Int.reduceToNat,Int.reduceLE,Int.reduceLT,Int.reduceNe,Int.reduceEq]
  ·intro pre2 k2 y2 hpre2 _;have hk2:=pD hpre2;refine aS (ss:=[]) mx _ (by kernel_rfl) ?_;simp(maxDischargeDepth:=12) (maxSteps:=1000000) -implicitDefEqProofs only[go_sem,Nat.reduceAdd,Nat.reduceSub,Nat.reduceMul,Nat.reduceLeDiff,Nat.reduceEqDiff,Nat.reduceGT,Nat.reduceBEq,reduceCtorEq,↓reduceIte,Int.reduceToNat,Int.reduceLE,Int.reduceLT,Int.reduceNe,Int.reduceEq,Kx];refine⟨fun hp=>?_,fun hp=>?_⟩
   ·rw[hok];simp(maxDischargeDepth:=12) (maxSteps:=1000000) -implicitDefEqProofs only[go_sem,Nat.reduceAdd,Nat.reduceSub,Nat.reduceMul,Nat.reduceLeDiff,Nat.reduceEqDiff,Nat.reduceGT,Nat.reduceBEq,reduceCtorEq,↓reduceIte,Int.reduceToNat,Int.reduceLE,Int.reduceLT,Int.reduceNe,Int.reduceEq];refine aw (hle _ k k2 _ hk64 hk2 (by simp(maxDischargeDepth:=12) (maxSteps:=1000000) -implicitDefEqProofs only[go_sem,Nat.reduceAdd,Nat.reduceSub,Nat.reduceMul,Nat.reduceLeDiff,Nat.reduceEqDiff,Nat.reduceGT,Nat.reduceBEq,reduceCtorEq,↓reduceIte,Int.reduceToNat,Int.reduceLE,Int.reduceLT,Int.reduceNe,Int.reduceEq,e2,e3,e4,e5,e6,e7,e8,hbx])) ?_;simp(maxDischargeDepth:=12) (maxSteps:=1000000) -implicitDefEqProofs only[go_sem,Nat.reduceAdd,Nat.reduceSub,Nat.reduceMul,Nat.reduceLeDiff,Nat.reduceEqDiff,Nat.reduceGT,Nat.reduceBEq,reduceCtorEq,↓reduceIte,Int.reduceToNat,Int.reduceLE,Int.reduceLT,Int.reduceNe,Int.reduceEq];rw[List.all_append,hp];simp only[Zh,List.all_nil,Bool.and_true,YE];exact .refl _
   ·rw[List.all_append,hp,Bool.false_and];exact .refl _
  ·intro _;simp(maxDischargeDepth:=12) (maxSteps:=1000000) -implicitDefEqProofs only[go_sem,Nat.reduceAdd,Nat.reduceSub,Nat.reduceMul,Nat.reduceLeDiff,Nat.reduceEqDiff,Nat.reduceGT,Nat.reduceBEq,reduceCtorEq,↓reduceIte,Int.reduceToNat,Int.reduceLE,Int.reduceLT,Int.reduceNe,Int.reduceEq];refine wU (by kernel_rfl) (aS (ss:=[]) mx _ (by kernel_rfl) ?_);simp(maxDischargeDepth:=12) (maxSteps:=1000000) -implicitDefEqProofs only[go_sem,Nat.reduceAdd,Nat.reduceSub,Nat.reduceMul,Nat.reduceLeDiff,Nat.reduceEqDiff,Nat.reduceGT,Nat.reduceBEq,reduceCtorEq,↓reduceIte,Int.reduceToNat,Int.reduceLE,Int.reduceLT,Int.reduceNe,Int.reduceEq];refine⟨fun h=>⟨hpre,hpre0,h⟩,fun h a ha=>?_⟩;rcases Xn.1 ha with ha|ha
   ·exact hpre0 a ha
   ·rw[Xl.1 ha];exact h
 ·intro hI;simp(maxDischargeDepth:=12) (maxSteps:=1000000) -implicitDefEqProofs only[go_sem,Nat.reduceAdd,Nat.reduceSub,Nat.reduceMul,Nat.reduceLeDiff,Nat.reduceEqDiff,Nat.reduceGT,Nat.reduceBEq,reduceCtorEq,↓reduceIte,Int.reduceToNat,Int.reduceLE,Int.reduceLT,Int.reduceNe,Int.reduceEq];exact⟨_,S,.refl _,⟨.cons _ (.cons _ (.cons _ (.cons _ (.refl _)))),.refl _⟩,⟨-1,rfl,.inl ⟨rfl,hI⟩⟩,rfl⟩
 ·intro pre k y hst;simp(maxDischargeDepth:=12) (maxSteps:=1000000) -implicitDefEqProofs only[go_sem,Nat.reduceAdd,Nat.reduceSub,Nat.reduceMul,Nat.reduceLeDiff,Nat.reduceEqDiff,Nat.reduceGT,Nat.reduceBEq,reduceCtorEq,↓reduceIte,Int.reduceToNat,Int.reduceLE,Int.reduceLT,Int.reduceNe,Int.reduceEq];exact⟨_,S,.refl _,⟨.cons _ (.cons _ (.cons _ (.cons _ (.refl _)))),.refl _⟩,⟨k,rfl,.inr ⟨pre,k,_,rfl,hst⟩⟩,rfl⟩
theorem PH(w0:W0)(up:List Nat)(hu:dq up)(bx c d:Nat)(S:St)(hb:lk S.box bx=some [dZ up]):aa Tryz.prog w0 146 [dI (c:Int),dI (d:Int),.v (.pointer (some ⟨bx,0,none⟩))] S (fun e S'=>e=dB (cP up c d)∧S'=S):=by
 refine cb [] mx Tryz.func146 rfl rfl (by kernel_rfl) ?_;simp only[Tryz.ntmps146,Xo,XP,Nat.reduceAdd,Nat.reduceSub,List.reduceReplicate,Yi,Yx];simp(maxDischargeDepth:=12) (maxSteps:=1000000) -implicitDefEqProofs only[Tryz.ntmps146,go_sem,Nat.reduceAdd,Nat.reduceSub,Nat.reduceMul,Nat.reduceLeDiff,Nat.reduceEqDiff,Nat.reduceGT,Nat.reduceBEq,reduceCtorEq,↓reduceIte,Int.reduceToNat,Int.reduceLE,Int.reduceLT,Int.reduceNe,Int.reduceEq,hb];refine aw (sW _ up hu c d _) ?_;simp(maxDischargeDepth:=12) (maxSteps:=1000000) -implicitDefEqProofs only[go_sem,Nat.reduceAdd,Nat.reduceSub,Nat.reduceMul,Nat.reduceLeDiff,Nat.reduceEqDiff,Nat.reduceGT,Nat.reduceBEq,reduceCtorEq,↓reduceIte,Int.reduceToNat,Int.reduceLE,Int.reduceLT,Int.reduceNe,Int.reduceEq,dY]
theorem PN(w0:W0)(up:List Nat)(hu:dq up)(bx c d:Nat)(S:St)(hb:lk S.box bx=some [dZ up]):aa Tryz.prog w0 148 [dI (c:Int),dI (d:Int),.v (.pointer (some ⟨bx,0,none⟩))] S (fun e S'=>e=dB (cP up d c)∧S'=S):=by
 refine cb [] mx Tryz.func148 rfl rfl (by kernel_rfl) ?_;simp only[Tryz.ntmps148,Xo,XP,Nat.reduceAdd,Nat.reduceSub,List.reduceReplicate,Yi,Yx];simp(maxDischargeDepth:=12) (maxSteps:=1000000) -implicitDefEqProofs only[Tryz.ntmps148,go_sem,Nat.reduceAdd,Nat.reduceSub,Nat.reduceMul,Nat.reduceLeDiff,Nat.reduceEqDiff,Nat.reduceGT,Nat.reduceBEq,reduceCtorEq,↓reduceIte,Int.reduceToNat,Int.reduceLE,Int.reduceLT,Int.reduceNe,Int.reduceEq,hb];refine aw (sW _ up hu d c _) ?_;simp(maxDischargeDepth:=12) (maxSteps:=1000000) -implicitDefEqProofs only[go_sem,Nat.reduceAdd,Nat.reduceSub,Nat.reduceMul,Nat.reduceLeDiff,Nat.reduceEqDiff,Nat.reduceGT,Nat.reduceBEq,reduceCtorEq,↓reduceIte,Int.reduceToNat,Int.reduceLE,Int.reduceLT,Int.reduceNe,Int.reduceEq,dY]
def xL(le:Nat→Nat→Bool)(x:Nat)(r:Int):Prop:=(r= -1∧∀a,a∈aQ x→vF le x a=false)∨∃pre k rest,r=((k:Nat):Int)∧pre++k::rest=aQ x∧(∀a,a∈pre→vF le x a=false)∧vF le x k=true
theorem rJ{le:Nat→Nat→Bool}{n x a b:Nat}{r:Int}(hx:∀c,(c<64∧x.testBit c=true)↔(c<n∧le a c=true∧le b c=true))(h:xL le x r):r<0↔¬kN le n a b:=by
 have hm:∀c,c∈aQ x↔(c<n∧le a c=true∧le b c=true):=fun c=>sj.trans (hx c)
 have key:∀c,c∈aQ x→(vF le x c=true↔GO le n a b c):=fun c hc=>by
  have h1:=(hm c).1 hc;unfold vF;rw[Xv]
  exact⟨fun h=>⟨h1.1,h1.2.1,h1.2.2,fun d hd h3 h4=>h d ((hm d).2 ⟨hd,h3,h4⟩)⟩,fun h d hd=>by
   have h2:=(hm d).1 hd;exact h.2.2.2 d h2.1 h2.2.1 h2.2.2⟩
 rcases h with⟨rfl,h⟩|⟨pre,k,rest,rfl,hp,h1,h2⟩
 ·refine⟨fun _ hj=>?_,fun _=>by omega⟩;obtain⟨c,hc⟩:=hj;have hcm:=(hm c).2 ⟨hc.1,hc.2.1,hc.2.2.1⟩;have:=(key c hcm).2 hc;rw[h c hcm]at this;cases this
 ·refine⟨fun h=>by omega,fun hj=>absurd ⟨k,(key k (by rw[←hp];simp)).1 h2⟩ hj⟩
theorem qs{up:List Nat}(hl:up.length≤64){a:Nat}(ha:a<up.length)(c:Nat):(bI up a).testBit c=true↔cP up a c=true:=by
 rw[cu];unfold bI bt;rw[Nat.testBit_mod_two_pow];simp only[Xe,decide_eq_true_eq];exact⟨fun h=>⟨hl,ha,h.1,h.2⟩,fun h=>⟨h.2.2.1,h.2.2.2⟩⟩
theorem tm{up:List Nat}{a b:Nat}(h:cP up a b=true):a<64∧b<64∧a<up.length∧b<up.length:=by
 have:=cu.1 h;omega
theorem BX{up:List Nat}(hl:up.length≤64){a b:Nat}(ha:a<up.length)(hb:b<up.length)(c:Nat):(c<64∧(bI up a &&& bI up b).testBit c=true)↔(c<up.length∧cP up a c=true∧cP up b c=true):=by
 rw[Nat.testBit_and,Xe,qs hl ha,qs hl hb];exact⟨fun h=>⟨(tm h.2.1).2.2.2,h.2⟩,fun h=>⟨(tm h.2.1).2.1,h.2⟩⟩
theorem Ax{up:List Nat}(hl:up.length≤64){a b:Nat}(c:Nat):(c<64∧(ck up a &&& ck up b).testBit c=true)↔(c<up.length∧cP up c a=true∧cP up c b=true):=by
 rw[Nat.testBit_and,Xe,mL,mL];exact⟨fun h=>⟨(tm h.2.1).2.2.1,h.2⟩,fun h=>⟨(tm h.2.1).1,h.2⟩⟩
theorem K7{x y:Nat}(h:x<18446744073709551616):x &&& y<18446744073709551616:=YZ Nat.and_le_left h
theorem uU{up:List Nat}(hu:dq up)(a:Nat):bI up a<18446744073709551616:=by
 unfold bI;refine YZ (Nat.mod_le _ _) ?_;rcases vj (o:=up) (a:=a)with h|h
 ·exact hu _ h
 ·rw[h];omega
def iJ(le:Nat→Nat→Bool)(x:Nat):Int:=match(aQ x).find? (fun a=>vF le x a)with
 |some k=>((k:Nat):Int)
 |none=> -1
theorem qa{p:Nat→Bool}:∀{pre:List Nat} {k:Nat} {rest:List Nat},(∀a,a∈pre→p a=false)→p k=true→(pre++k::rest).find? p=some k
 |[],k,rest,_,h=>by simp[h]
 |a::pre,k,rest,h,hk=>by
  rw[Yi,List.find?_cons,h a (by simp)];exact qa (fun b hb=>h b (by simp[hb])) hk
theorem CI{le:Nat→Nat→Bool}{x:Nat}{r:Int}(h:xL le x r):r=iJ le x:=by
 unfold iJ;rcases h with⟨rfl,h⟩|⟨pre,k,rest,rfl,hp,h1,h2⟩
 ·rw[Zj.2 (fun a ha=>by rw[h a ha];simp)]
 ·rw[←hp,qa h1 h2]
theorem vT(le:Nat→Nat→Bool)(x:Nat):xL le x (iJ le x):=by
 unfold iJ
 cases h:(aQ x).find? (fun a=>vF le x a)with
 |none=>exact .inl ⟨rfl,fun a ha=>by have:=Zj.1 h a ha;simpa using this⟩
 |some k=>
  have h':=List.find?_eq_some_iff_append.1 h;obtain⟨h1,pre,rest,h2,h3⟩:=h';exact .inr ⟨pre,k,rest,rfl,h2.symm,fun a ha=>by simpa using h3 a ha,h1⟩
theorem Dy(w0:W0)(hg:gq w0)(x:Nat)(hx:x<18446744073709551616)(fl bx:Nat)(hok:okF Tryz.prog fl=true)(ds:List DV)(le:Nat→Nat→Bool)
 (hle:∀(w1:W0) (c d:Nat) (T:St),c<64→d<64→lk T.box bx=some ds→aa Tryz.prog w1 fl [dI (c:Int),dI (d:Int),.v (.pointer (some ⟨bx,0,none⟩))] T (fun d' T'=>d'=dB (le c d)∧T'=T)) (S:St) (hbx:lk S.box bx=some ds):
 aa Tryz.prog w0 145 [dU (x:Int),.v (.func (.func fl) #[] #[.pointer (some ⟨bx,0,none⟩)])] S (fun d S'=>d=dI (iJ le x)∧S'=S):=by
 refine(LP w0 hg x hx fl bx hok ds le hle S hbx).mono ?_;rintro _ _ ⟨⟨r,rfl,hr⟩,rfl⟩;exact⟨by rw[CI hr],rfl⟩
theorem KW(w0:W0)(hg:gq w0)(up:List Nat)(hu:dq up)(hl:up.length≤64)(a b:Nat)(ha:a<up.length)(hb:b<up.length)(S:St):aa Tryz.prog w0 111 [dZ up,dI (a:Int),dI (b:Int)] S (fun d S'=>d=dI (iJ (cP up) (bI up a &&& bI up b))∧S'=S):=by
 have hwa:=uU hu a;have hwb:=uU hu b;have l1:uw up (a:Int)=true:=oM.2 ⟨hl,by omega,by omega⟩;have l2:uw up (b:Int)=true:=oM.2 ⟨hl,by omega,by omega⟩;refine cb [] mx Tryz.func111 rfl rfl (by kernel_rfl) ?_;simp(maxDischargeDepth:=12) (maxSteps:=1000000) -implicitDefEqProofs only[Tryz.ntmps111,go_sem,Nat.reduceAdd,Nat.reduceSub,Nat.reduceMul,Nat.reduceLeDiff,Nat.reduceEqDiff,Nat.reduceGT,Nat.reduceBEq,reduceCtorEq,↓reduceIte,Int.reduceToNat,Int.reduceLE,Int.reduceLT,Int.reduceNe,Int.reduceEq];intro b3;refine aw (tO _ up a _) ?_;simp(maxDischargeDepth:=12) (maxSteps:=1000000) -implicitDefEqProofs only[go_sem,Nat.reduceAdd,Nat.reduceSub,Nat.reduceMul,Nat.reduceLeDiff,Nat.reduceEqDiff,Nat.reduceGT,Nat.reduceBEq,reduceCtorEq,↓reduceIte,Int.reduceToNat,Int.reduceLE,Int.reduceLT,Int.reduceNe,Int.reduceEq,l1];refine aw (tO _ up b _) ?_;simp(maxDischargeDepth:=12) (maxSteps:=1000000) -implicitDefEqProofs only[go_sem,Nat.reduceAdd,Nat.reduceSub,Nat.reduceMul,Nat.reduceLeDiff,Nat.reduceEqDiff,Nat.reduceGT,Nat.reduceBEq,reduceCtorEq,↓reduceIte,Int.reduceToNat,Int.reduceLE,Int.reduceLT,Int.reduceNe,Int.reduceEq,l2];refine df (sV _ up hu a ha hl _) ?_;simp(maxDischargeDepth:=12) (maxSteps:=1000000) -implicitDefEqProofs only[go_sem,Nat.reduceAdd,Nat.reduceSub,Nat.reduceMul,Nat.reduceLeDiff,Nat.reduceEqDiff,Nat.reduceGT,Nat.reduceBEq,reduceCtorEq,↓reduceIte,Int.reduceToNat,Int.reduceLE,Int.reduceLT,Int.reduceNe,Int.reduceEq];refine df (sV _ up hu b hb hl _) ?_;simp(maxDischargeDepth:=12) (maxSteps:=1000000) -implicitDefEqProofs only[go_sem,Nat.reduceAdd,Nat.reduceSub,Nat.reduceMul,Nat.reduceLeDiff,Nat.reduceEqDiff,Nat.reduceGT,Nat.reduceBEq,reduceCtorEq,↓reduceIte,Int.reduceToNat,Int.reduceLE,Int.reduceLT,Int.reduceNe,Int.reduceEq,eH hwa hwb];refine df (Dy _ hg _ (K7 hwa) 146 b3.n (by kernel_rfl) [dZ up] (cP up) (fun w1 c d T _ _ hT=>PH w1 up hu b3.n c d T hT) _ (by simp(maxDischargeDepth:=12) (maxSteps:=1000000) -implicitDefEqProofs only[go_sem,Nat.reduceAdd,Nat.reduceSub,Nat.reduceMul,Nat.reduceLeDiff,Nat.reduceEqDiff,Nat.reduceGT,Nat.reduceBEq,reduceCtorEq,↓reduceIte,Int.reduceToNat,Int.reduceLE,Int.reduceLT,Int.reduceNe,Int.reduceEq])) ?_;simp(maxDischargeDepth:=12) (maxSteps:=1000000) -implicitDefEqProofs only[go_sem,Nat.reduceAdd,Nat.reduceSub,Nat.reduceMul,Nat.reduceLeDiff,Nat.reduceEqDiff,Nat.reduceGT,Nat.reduceBEq,reduceCtorEq,↓reduceIte,Int.reduceToNat,Int.reduceLE,Int.reduceLT,Int.reduceNe,Int.reduceEq]
theorem KN(w0:W0)(hg:gq w0)(up:List Nat)(hu:dq up)(hl:up.length≤64)(a b:Nat)(S:St):aa Tryz.prog w0 112 [dZ up,dI (a:Int),dI (b:Int)] S (fun d S'=>d=dI (iJ (fun x y=>cP up y x) (ck up a &&& ck up b))∧S'=S):=by
 have hwa:ck up a<18446744073709551616:=jA (by omega);have hwb:ck up b<18446744073709551616:=jA (by omega);refine cb [] mx Tryz.func112 rfl rfl (by kernel_rfl) ?_;simp(maxDischargeDepth:=12) (maxSteps:=1000000) -implicitDefEqProofs only[Tryz.ntmps112,go_sem,Nat.reduceAdd,Nat.reduceSub,Nat.reduceMul,Nat.reduceLeDiff,Nat.reduceEqDiff,Nat.reduceGT,Nat.reduceBEq,reduceCtorEq,↓reduceIte,Int.reduceToNat,Int.reduceLE,Int.reduceLT,Int.reduceNe,Int.reduceEq];intro b3;refine df (KZ _ up hu a hl _) ?_;simp(maxDischargeDepth:=12) (maxSteps:=1000000) -implicitDefEqProofs only[go_sem,Nat.reduceAdd,Nat.reduceSub,Nat.reduceMul,Nat.reduceLeDiff,Nat.reduceEqDiff,Nat.reduceGT,Nat.reduceBEq,reduceCtorEq,↓reduceIte,Int.reduceToNat,Int.reduceLE,Int.reduceLT,Int.reduceNe,Int.reduceEq];refine df (KZ _ up hu b hl _) ?_;simp(maxDischargeDepth:=12) (maxSteps:=1000000) -implicitDefEqProofs only[go_sem,Nat.reduceAdd,Nat.reduceSub,Nat.reduceMul,Nat.reduceLeDiff,Nat.reduceEqDiff,Nat.reduceGT,Nat.reduceBEq,reduceCtorEq,↓reduceIte,Int.reduceToNat,Int.reduceLE,Int.reduceLT,Int.reduceNe,Int.reduceEq,eH hwa hwb];refine df (Dy _ hg _ (K7 hwa) 148 b3.n (by kernel_rfl) [dZ up] (fun x y=>cP up y x) (fun w1 c d T _ _ hT=>PN w1 up hu b3.n c d T hT) _ (by simp(maxDischargeDepth:=12) (maxSteps:=1000000) -implicitDefEqProofs only[go_sem,Nat.reduceAdd,Nat.reduceSub,Nat.reduceMul,Nat.reduceLeDiff,Nat.reduceEqDiff,Nat.reduceGT,Nat.reduceBEq,reduceCtorEq,↓reduceIte,Int.reduceToNat,Int.reduceLE,Int.reduceLT,Int.reduceNe,Int.reduceEq])) ?_;simp(maxDischargeDepth:=12) (maxSteps:=1000000) -implicitDefEqProofs only[go_sem,Nat.reduceAdd,Nat.reduceSub,Nat.reduceMul,Nat.reduceLeDiff,Nat.reduceEqDiff,Nat.reduceGT,Nat.reduceBEq,reduceCtorEq,↓reduceIte,Int.reduceToNat,Int.reduceLE,Int.reduceLT,Int.reduceNe,Int.reduceEq]
theorem lJ{up:List Nat}(hl:up.length≤64){a b:Nat}(ha:a<up.length)(hb:b<up.length):iJ (cP up) (bI up a &&& bI up b)<0↔¬kN (cP up) up.length a b:=rJ (BX hl ha hb) (vT _ _)
theorem mf{up:List Nat}(hl:up.length≤64){a b:Nat}:iJ (fun x y=>cP up y x) (ck up a &&& ck up b)<0↔¬kN (fun x y=>cP up y x) up.length a b:=rJ (Ax hl) (vT _ _)
theorem gR{up:List Nat}:rb up↔1≤up.length∧up.length≤64∧Cl up∧∀a,a<up.length→∀b,b<a→(¬(cP up a b=true∧cP up b a=true))∧kN (cP up) up.length a b∧kN (fun x y=>cP up y x) up.length a b:=by
 constructor
 ·intro h;refine⟨h.pos,h.le,h.cl,fun a ha b hb=>⟨fun q=>?_,h.join a b hb ha,h.meet a b hb ha⟩⟩;have:=h.Fz a b (cu.1 q.1).2.2.2 (cu.1 q.2).2.2.2;omega
 ·rintro⟨h1,h2,h3,h4⟩;refine⟨h1,h2,h3,fun a b q r=>?_,fun a b hb ha=>(h4 a ha b hb).2.1,fun a b hb ha=>(h4 a ha b hb).2.2⟩;have ha:=fh q;have hb:=fh r;rcases Yr a b with e|e|e
  ·exact absurd ⟨cu.2 ⟨h2,hb,ha,r⟩,cu.2 ⟨h2,ha,hb,q⟩⟩ (h4 b hb a e).1
  ·exact e
  ·exact absurd ⟨cu.2 ⟨h2,ha,hb,q⟩,cu.2 ⟨h2,hb,ha,r⟩⟩ (h4 a ha b e).1
theorem TD(w0:W0)(hg:gq w0)(up:List Nat)(hu:dq up)(h0:up.length≤4611686018427387904)(S:St):aa Tryz.prog w0 61 [dZ up] S (fun d S'=>d=dB (pB (rb up))∧S'=S):=by
 refine cb [] mx Tryz.func61 rfl rfl (by kernel_rfl) ?_;simp(maxDischargeDepth:=12) (maxSteps:=1000000) -implicitDefEqProofs only[Tryz.ntmps61,go_sem,Nat.reduceAdd,Nat.reduceSub,Nat.reduceMul,Nat.reduceLeDiff,Nat.reduceEqDiff,Nat.reduceGT,Nat.reduceBEq,reduceCtorEq,↓reduceIte,Int.reduceToNat,Int.reduceLE,Int.reduceLT,Int.reduceNe,Int.reduceEq];refine⟨fun h hp=>by have:=hp.pos;omega,fun h1=>⟨fun h hp=>by have:=hp.le;omega,fun h2=>aw (Nj _ up hu (by omega) _) ?_⟩⟩;have hl:up.length≤64:=by omega
 simp(maxDischargeDepth:=12) (maxSteps:=1000000) -implicitDefEqProofs only[go_sem,Nat.reduceAdd,Nat.reduceSub,Nat.reduceMul,Nat.reduceLeDiff,Nat.reduceEqDiff,Nat.reduceGT,Nat.reduceBEq,reduceCtorEq,↓reduceIte,Int.reduceToNat,Int.reduceLE,Int.reduceLT,Int.reduceNe,Int.reduceEq];refine aw (Nq _ (dD up) up (by rw[oX];omega) _) ?_;simp(maxDischargeDepth:=12) (maxSteps:=1000000) -implicitDefEqProofs only[go_sem,Nat.reduceAdd,Nat.reduceSub,Nat.reduceMul,Nat.reduceLeDiff,Nat.reduceEqDiff,Nat.reduceGT,Nat.reduceBEq,reduceCtorEq,↓reduceIte,Int.reduceToNat,Int.reduceLE,Int.reduceLT,Int.reduceNe,Int.reduceEq];refine⟨fun hne hp=>hne (rX hp.cl),fun heq=>?_⟩;have hcl:=pr.1 (Xs.1 heq);refine aX [] up.length [0,21,22] (fun a=>[(22,dI a)]) (fun _=>S) (fun a=>∀a',a'<a→∀b,b<a'→(¬(cP up a' b=true∧cP up b a'=true))∧pX up a' b) mx (by kernel_rfl) ?_ ?_
 ·simp(maxDischargeDepth:=12) (maxSteps:=1000000) -implicitDefEqProofs only[go_sem,Nat.reduceAdd,Nat.reduceSub,Nat.reduceMul,Nat.reduceLeDiff,Nat.reduceEqDiff,Nat.reduceGT,Nat.reduceBEq,reduceCtorEq,↓reduceIte,Int.reduceToNat,Int.reduceLE,Int.reduceLT,Int.reduceNe,Int.reduceEq];intro a' ha';omega
 ·intro a ha hA;simp(maxDischargeDepth:=12) (maxSteps:=1000000) -implicitDefEqProofs only[go_sem,Nat.reduceAdd,Nat.reduceSub,Nat.reduceMul,Nat.reduceLeDiff,Nat.reduceEqDiff,Nat.reduceGT,Nat.reduceBEq,reduceCtorEq,↓reduceIte,Int.reduceToNat,Int.reduceLE,Int.reduceLT,Int.reduceNe,Int.reduceEq];refine⟨fun hla=>?_,fun hge=>?_⟩
  ·refine aX [] a [0,3,21,22,25,26] (fun b=>[(26,dI b)]) (fun _=>S) (fun b=>∀b',b'<b→(¬(cP up a b'=true∧cP up b' a=true))∧pX up a b') mx (by kernel_rfl) ?_ ?_
   ·simp(maxDischargeDepth:=12) (maxSteps:=1000000) -implicitDefEqProofs only[go_sem,Nat.reduceAdd,Nat.reduceSub,Nat.reduceMul,Nat.reduceLeDiff,Nat.reduceEqDiff,Nat.reduceGT,Nat.reduceBEq,reduceCtorEq,↓reduceIte,Int.reduceToNat,Int.reduceLE,Int.reduceLT,Int.reduceNe,Int.reduceEq];intro b' hb';omega
   ·intro b hb hB;simp(maxDischargeDepth:=12) (maxSteps:=1000000) -implicitDefEqProofs only[go_sem,Nat.reduceAdd,Nat.reduceSub,Nat.reduceMul,Nat.reduceLeDiff,Nat.reduceEqDiff,Nat.reduceGT,Nat.reduceBEq,reduceCtorEq,↓reduceIte,Int.reduceToNat,Int.reduceLE,Int.reduceLT,Int.reduceNe,Int.reduceEq];refine⟨fun hlb=>aw (sW _ up hu a b _) ?_,fun hge=>?_⟩
    ·simp(maxDischargeDepth:=12) (maxSteps:=1000000) -implicitDefEqProofs only[go_sem,Nat.reduceAdd,Nat.reduceSub,Nat.reduceMul,Nat.reduceLeDiff,Nat.reduceEqDiff,Nat.reduceGT,Nat.reduceBEq,reduceCtorEq,↓reduceIte,Int.reduceToNat,Int.reduceLE,Int.reduceLT,Int.reduceNe,Int.reduceEq,dY];refine⟨fun p1=>aw (sW _ up hu b a _) ?_,fun p1=>aw (KW _ hg up hu hl a b hla (by omega) _) ?_⟩
     ·simp(maxDischargeDepth:=12) (maxSteps:=1000000) -implicitDefEqProofs only[go_sem,Nat.reduceAdd,Nat.reduceSub,Nat.reduceMul,Nat.reduceLeDiff,Nat.reduceEqDiff,Nat.reduceGT,Nat.reduceBEq,reduceCtorEq,↓reduceIte,Int.reduceToNat,Int.reduceLE,Int.reduceLT,Int.reduceNe,Int.reduceEq,dY];refine⟨fun p2 hp=>(gR.1 hp |>.2.2.2 a hla b hlb).1 ⟨p1,p2⟩,fun p2=>aw (KW _ hg up hu hl a b hla (by omega) _) ?_⟩;simp(maxDischargeDepth:=12) (maxSteps:=1000000) -implicitDefEqProofs only[go_sem,Nat.reduceAdd,Nat.reduceSub,Nat.reduceMul,Nat.reduceLeDiff,Nat.reduceEqDiff,Nat.reduceGT,Nat.reduceBEq,reduceCtorEq,↓reduceIte,Int.reduceToNat,Int.reduceLE,Int.reduceLT,Int.reduceNe,Int.reduceEq];refine⟨fun q hp=>(lJ hl hla (by omega)).1 q (gR.1 hp |>.2.2.2 a hla b hlb).2.1,fun q=>aw (KN _ hg up hu hl a b _) ?_⟩;simp(maxDischargeDepth:=12) (maxSteps:=1000000) -implicitDefEqProofs only[go_sem,Nat.reduceAdd,Nat.reduceSub,Nat.reduceMul,Nat.reduceLeDiff,Nat.reduceEqDiff,Nat.reduceGT,Nat.reduceBEq,reduceCtorEq,↓reduceIte,Int.reduceToNat,Int.reduceLE,Int.reduceLT,Int.reduceNe,Int.reduceEq];refine⟨fun q2 hp=>(mf hl).1 q2 (gR.1 hp |>.2.2.2 a hla b hlb).2.2,fun q2=>⟨hlb,fun b' hb'=>?_,aH (by omega)⟩⟩;by_cases e:b'=b
      ·subst e;exact⟨fun h=>(by rw[p2]at h;cases h.2),Xs.1 fun g=>q ((lJ hl hla (by omega)).2 g),Xs.1 fun g=>q2 ((mf hl).2 g)⟩
      ·exact hB b' (by omega)
     ·skip
      simp(maxDischargeDepth:=12) (maxSteps:=1000000) -implicitDefEqProofs only[go_sem,Nat.reduceAdd,Nat.reduceSub,Nat.reduceMul,Nat.reduceLeDiff,Nat.reduceEqDiff,Nat.reduceGT,Nat.reduceBEq,reduceCtorEq,↓reduceIte,Int.reduceToNat,Int.reduceLE,Int.reduceLT,Int.reduceNe,Int.reduceEq];refine⟨fun q hp=>(lJ hl hla (by omega)).1 q (gR.1 hp |>.2.2.2 a hla b hlb).2.1,fun q=>aw (KN _ hg up hu hl a b _) ?_⟩;simp(maxDischargeDepth:=12) (maxSteps:=1000000) -implicitDefEqProofs only[go_sem,Nat.reduceAdd,Nat.reduceSub,Nat.reduceMul,Nat.reduceLeDiff,Nat.reduceEqDiff,Nat.reduceGT,Nat.reduceBEq,reduceCtorEq,↓reduceIte,Int.reduceToNat,Int.reduceLE,Int.reduceLT,Int.reduceNe,Int.reduceEq];refine⟨fun q2 hp=>(mf hl).1 q2 (gR.1 hp |>.2.2.2 a hla b hlb).2.2,fun q2=>⟨hlb,fun b' hb'=>?_,aH (by omega)⟩⟩;by_cases e:b'=b
      ·subst e;exact⟨fun h=>(by rw[p1]at h;cases h.1),Xs.1 fun g=>q ((lJ hl hla (by omega)).2 g),Xs.1 fun g=>q2 ((mf hl).2 g)⟩
      ·exact hB b' (by omega)
    ·have e:b=a:=by omega
     subst e;refine⟨hla,fun a' ha'=>?_,aH (by omega)⟩;by_cases e:a'=b
     ·subst e;exact hB
     ·exact hA a' (by omega)
  ·have e:a=up.length:=by omega
   subst e;exact gR.2 ⟨by omega,hl,hcl,hA⟩
end Go.Proofs.YtoepfmhnapedoaaGreatDoor
namespace Grs
structure G where
 a:Int
 f:Int
 t:Int
 deriving DecidableEq
def va(x y:G):Bool:=decide (x.a<y.a∨(x.a=y.a∧(x.f<y.f∨(x.f=y.f∧x.t<y.t))))
theorem Jl{x y:G}:va x y=true↔(x.a<y.a∨(x.a=y.a∧(x.f<y.f∨(x.f=y.f∧x.t<y.t)))):=decide_eq_true_iff
theorem Bb{x y z:G}(h1:va x y=true)(h2:va y z=true):va x z=true:=by
 rw[Jl]at *;omega
def Up(l:List G):Prop:=l.Pairwise fun x y=>va x y=true
end Grs
namespace Go.Proofs.YtoepfmhnapedoaaGreatDoor
open Aml Go Lat Grs
@[go_sem] def gD (g:G):DV:= .agg [dI g.a,dI g.f,dI g.t]
@[go_sem] def jk (l:List G):DV:= .sl 3 false (l.map gD)
def qD(x y:Int):Int:=if x<y then -1 else if y<x then 1 else 0
def ET(x y:G):Int:=if va x y then -1 else if va y x then 1 else 0
theorem Gb{x y:G}:ET x y<0↔va x y=true:=by
 unfold ET;cases h:va x y <;>cases h2:va y x <;>simp
theorem I7(x y:G):ET x y=if qD x.a y.a≠0 then qD x.a y.a else if qD x.f y.f≠0 then qD x.f y.f else qD x.t y.t:=by
 unfold ET qD va;simp only[decide_eq_true_eq];split <;>(repeat' split) <;>first|rfl|omega
theorem isNaN(w0:W0)(x:Int)(S:St):aa Tryz.prog w0 197 [dI x] S (fun d S'=>d=dB false∧S'=S):=by
 refine cb [] mx Tryz.func197 rfl rfl (by kernel_rfl) ?_;simp(maxDischargeDepth:=12) (maxSteps:=1000000) -implicitDefEqProofs only[Tryz.ntmps197,go_sem,Nat.reduceAdd,Nat.reduceSub,Nat.reduceMul,Nat.reduceLeDiff,Nat.reduceEqDiff,Nat.reduceGT,Nat.reduceBEq,reduceCtorEq,↓reduceIte,Int.reduceToNat,Int.reduceLE,Int.reduceLT,Int.reduceNe,Int.reduceEq]
theorem lU(w0:W0)(x y:Int)(S:St):aa Tryz.prog w0 178 [dI x,dI y] S (fun d S'=>d=dI (qD x y)∧S'=S):=by
 refine cb [] mx Tryz.func178 rfl rfl (by kernel_rfl) ?_;simp(maxDischargeDepth:=12) (maxSteps:=1000000) -implicitDefEqProofs only[Tryz.ntmps178,go_sem,Nat.reduceAdd,Nat.reduceSub,Nat.reduceMul,Nat.reduceLeDiff,Nat.reduceEqDiff,Nat.reduceGT,Nat.reduceBEq,reduceCtorEq,↓reduceIte,Int.reduceToNat,Int.reduceLE,Int.reduceLT,Int.reduceNe,Int.reduceEq];refine aw (isNaN _ x _) ?_;simp(maxDischargeDepth:=12) (maxSteps:=1000000) -implicitDefEqProofs only[go_sem,Nat.reduceAdd,Nat.reduceSub,Nat.reduceMul,Nat.reduceLeDiff,Nat.reduceEqDiff,Nat.reduceGT,Nat.reduceBEq,reduceCtorEq,↓reduceIte,Int.reduceToNat,Int.reduceLE,Int.reduceLT,Int.reduceNe,Int.reduceEq];refine aw (isNaN _ y _) ?_;simp(maxDischargeDepth:=12) (maxSteps:=1000000) -implicitDefEqProofs only[go_sem,Nat.reduceAdd,Nat.reduceSub,Nat.reduceMul,Nat.reduceLeDiff,Nat.reduceEqDiff,Nat.reduceGT,Nat.reduceBEq,reduceCtorEq,↓reduceIte,Int.reduceToNat,Int.reduceLE,Int.reduceLT,Int.reduceNe,Int.reduceEq];unfold qD;refine⟨fun h=>?_,fun h=>⟨fun h2=>?_,fun h2=>?_⟩⟩
 ·rw[if_pos h]
 ·rw[if_neg (by omega),if_pos (by omega)]
 ·rw[if_neg (by omega),if_neg (by omega)]
theorem Ve(w0:W0)(x y z:Int)(S:St):aa Tryz.prog w0 177 [.sl 1 false [dI x,dI y,dI z]] S (fun d S'=>d=dI (if x≠0 then x else if y≠0 then y else z)∧S'=S):=by
 refine cb [] mx Tryz.func177 rfl rfl (by kernel_rfl) ?_;simp(maxDischargeDepth:=12) (maxSteps:=1000000) -implicitDefEqProofs only[Tryz.ntmps177,go_sem,Nat.reduceAdd,Nat.reduceSub,Nat.reduceMul,Nat.reduceLeDiff,Nat.reduceEqDiff,Nat.reduceGT,Nat.reduceBEq,reduceCtorEq,↓reduceIte,Int.reduceToNat,Int.reduceLE,Int.reduceLT,Int.reduceNe,Int.reduceEq];refine aX [] 3 [3,6,7,8] (fun a=>[(8,dI a)]) (fun _=>S) (fun a=>(1≤a→x=0)∧(2≤a→y=0)∧(3≤a→z=0)) mx (by kernel_rfl) ?_ ?_
 ·simp(maxDischargeDepth:=12) (maxSteps:=1000000) -implicitDefEqProofs only[go_sem,Nat.reduceAdd,Nat.reduceSub,Nat.reduceMul,Nat.reduceLeDiff,Nat.reduceEqDiff,Nat.reduceGT,Nat.reduceBEq,reduceCtorEq,↓reduceIte,Int.reduceToNat,Int.reduceLE,Int.reduceLT,Int.reduceNe,Int.reduceEq]
 ·intro a ha hA;obtain rfl|rfl|rfl|rfl:a=0∨a=1∨a=2∨a=3:=by omega
  ·simp(maxDischargeDepth:=12) (maxSteps:=1000000) -implicitDefEqProofs only[go_sem,Nat.reduceAdd,Nat.reduceSub,Nat.reduceMul,Nat.reduceLeDiff,Nat.reduceEqDiff,Nat.reduceGT,Nat.reduceBEq,reduceCtorEq,↓reduceIte,Int.reduceToNat,Int.reduceLE,Int.reduceLT,Int.reduceNe,Int.reduceEq];refine⟨fun h=>by rw[if_pos h],fun h=>⟨Xs.1 h,by rfl⟩⟩
  ·simp(maxDischargeDepth:=12) (maxSteps:=1000000) -implicitDefEqProofs only[go_sem,Nat.reduceAdd,Nat.reduceSub,Nat.reduceMul,Nat.reduceLeDiff,Nat.reduceEqDiff,Nat.reduceGT,Nat.reduceBEq,reduceCtorEq,↓reduceIte,Int.reduceToNat,Int.reduceLE,Int.reduceLT,Int.reduceNe,Int.reduceEq];have h0:=hA.1 (by omega);refine⟨fun h=>by rw[if_neg (by omega),if_pos h],fun h=>⟨⟨h0,Xs.1 h⟩,by rfl⟩⟩
  ·simp(maxDischargeDepth:=12) (maxSteps:=1000000) -implicitDefEqProofs only[go_sem,Nat.reduceAdd,Nat.reduceSub,Nat.reduceMul,Nat.reduceLeDiff,Nat.reduceEqDiff,Nat.reduceGT,Nat.reduceBEq,reduceCtorEq,↓reduceIte,Int.reduceToNat,Int.reduceLE,Int.reduceLT,Int.reduceNe,Int.reduceEq];have h0:=hA.1 (by omega);have h1:=hA.2.1 (by omega);refine⟨fun h=>by rw[if_neg (by omega),if_neg (by omega)],fun h=>⟨⟨h0,h1,Xs.1 h⟩,by rfl⟩⟩
  ·simp(maxDischargeDepth:=12) (maxSteps:=1000000) -implicitDefEqProofs only[go_sem,Nat.reduceAdd,Nat.reduceSub,Nat.reduceMul,Nat.reduceLeDiff,Nat.reduceEqDiff,Nat.reduceGT,Nat.reduceBEq,reduceCtorEq,↓reduceIte,Int.reduceToNat,Int.reduceLE,Int.reduceLT,Int.reduceNe,Int.reduceEq];have h0:=hA.1 (by omega);have h1:=hA.2.1 (by omega);have h2:=hA.2.2 (by omega);rw[if_neg (by omega),if_neg (by omega),h2]
theorem Fm(w0:W0)(x y:G)(S:St):aa Tryz.prog w0 149 [gD x,gD y] S (fun d S'=>d=dI (ET x y)∧S'=S):=by
 refine cb [] mx Tryz.func149 rfl rfl (by kernel_rfl) ?_;simp(maxDischargeDepth:=12) (maxSteps:=1000000) -implicitDefEqProofs only[Tryz.ntmps149,go_sem,Nat.reduceAdd,Nat.reduceSub,Nat.reduceMul,Nat.reduceLeDiff,Nat.reduceEqDiff,Nat.reduceGT,Nat.reduceBEq,reduceCtorEq,↓reduceIte,Int.reduceToNat,Int.reduceLE,Int.reduceLT,Int.reduceNe,Int.reduceEq];intro b2 b3;refine df (lU _ x.a y.a _) ?_;simp(maxDischargeDepth:=12) (maxSteps:=1000000) -implicitDefEqProofs only[go_sem,Nat.reduceAdd,Nat.reduceSub,Nat.reduceMul,Nat.reduceLeDiff,Nat.reduceEqDiff,Nat.reduceGT,Nat.reduceBEq,reduceCtorEq,↓reduceIte,Int.reduceToNat,Int.reduceLE,Int.reduceLT,Int.reduceNe,Int.reduceEq];refine df (lU _ x.f y.f _) ?_;simp(maxDischargeDepth:=12) (maxSteps:=1000000) -implicitDefEqProofs only[go_sem,Nat.reduceAdd,Nat.reduceSub,Nat.reduceMul,Nat.reduceLeDiff,Nat.reduceEqDiff,Nat.reduceGT,Nat.reduceBEq,reduceCtorEq,↓reduceIte,Int.reduceToNat,Int.reduceLE,Int.reduceLT,Int.reduceNe,Int.reduceEq];refine df (lU _ x.t y.t _) ?_;simp(maxDischargeDepth:=12) (maxSteps:=1000000) -implicitDefEqProofs only[go_sem,Nat.reduceAdd,Nat.reduceSub,Nat.reduceMul,Nat.reduceLeDiff,Nat.reduceEqDiff,Nat.reduceGT,Nat.reduceBEq,reduceCtorEq,↓reduceIte,Int.reduceToNat,Int.reduceLE,Int.reduceLT,Int.reduceNe,Int.reduceEq];refine df (Ve _ _ _ _ _) ?_ ⟨.full _ _ _,trivial⟩;simp(maxDischargeDepth:=12) (maxSteps:=1000000) -implicitDefEqProofs only[go_sem,Nat.reduceAdd,Nat.reduceSub,Nat.reduceMul,Nat.reduceLeDiff,Nat.reduceEqDiff,Nat.reduceGT,Nat.reduceBEq,reduceCtorEq,↓reduceIte,Int.reduceToNat,Int.reduceLE,Int.reduceLT,Int.reduceNe,Int.reduceEq];rw[I7]
theorem Rh(w0:W0)(x y:G)(S:St):aa Tryz.prog w0 114 [gD x,gD y] S (fun d S'=>d=dB (va x y)∧S'=S):=by
 refine cb [] mx Tryz.func114 rfl rfl (by kernel_rfl) ?_;simp(maxDischargeDepth:=12) (maxSteps:=1000000) -implicitDefEqProofs only[Tryz.ntmps114,go_sem,Nat.reduceAdd,Nat.reduceSub,Nat.reduceMul,Nat.reduceLeDiff,Nat.reduceEqDiff,Nat.reduceGT,Nat.reduceBEq,reduceCtorEq,↓reduceIte,Int.reduceToNat,Int.reduceLE,Int.reduceLT,Int.reduceNe,Int.reduceEq];intro b2 b3;refine aw (Fm _ x y _) ?_;simp(maxDischargeDepth:=12) (maxSteps:=1000000) -implicitDefEqProofs only[go_sem,Nat.reduceAdd,Nat.reduceSub,Nat.reduceMul,Nat.reduceLeDiff,Nat.reduceEqDiff,Nat.reduceGT,Nat.reduceBEq,reduceCtorEq,↓reduceIte,Int.reduceToNat,Int.reduceLE,Int.reduceLT,Int.reduceNe,Int.reduceEq];exact Bool.eq_iff_iff.2 (decide_eq_true_iff.trans Gb)
theorem Qu(w0:W0)(x y:G)(S:St):aa Tryz.prog w0 104 [gD x,gD y] S (fun d S'=>d=dB (va x y)∧S'=S):=by
 refine cb [] mx Tryz.func104 rfl rfl (by kernel_rfl) ?_;simp(maxDischargeDepth:=12) (maxSteps:=1000000) -implicitDefEqProofs only[Tryz.ntmps104,go_sem,Nat.reduceAdd,Nat.reduceSub,Nat.reduceMul,Nat.reduceLeDiff,Nat.reduceEqDiff,Nat.reduceGT,Nat.reduceBEq,reduceCtorEq,↓reduceIte,Int.reduceToNat,Int.reduceLE,Int.reduceLT,Int.reduceNe,Int.reduceEq];intro b2 b3;unfold va;refine⟨fun h=>decide_eq_decide.2 (by omega),fun h=>⟨fun h2=>decide_eq_decide.2 (by omega),fun h2=>decide_eq_decide.2 (by omega)⟩⟩
def zg(up:List Nat)(g:G):Bool:=jl up g.f g.a&&jl up g.t g.a&&!jl up g.f g.t
theorem SK(w0:W0)(up:List Nat)(hu:dq up)(g:G)(S:St):aa Tryz.prog w0 113 [dZ up,gD g] S (fun d S'=>d=dB (zg up g)∧S'=S):=by
 refine cb [] mx Tryz.func113 rfl rfl (by kernel_rfl) ?_;simp(maxDischargeDepth:=12) (maxSteps:=1000000) -implicitDefEqProofs only[Tryz.ntmps113,go_sem,Nat.reduceAdd,Nat.reduceSub,Nat.reduceMul,Nat.reduceLeDiff,Nat.reduceEqDiff,Nat.reduceGT,Nat.reduceBEq,reduceCtorEq,↓reduceIte,Int.reduceToNat,Int.reduceLE,Int.reduceLT,Int.reduceNe,Int.reduceEq];intro b;unfold zg;refine aw (sW _ up hu g.f g.a _) ?_;simp(maxDischargeDepth:=12) (maxSteps:=1000000) -implicitDefEqProofs only[go_sem,Nat.reduceAdd,Nat.reduceSub,Nat.reduceMul,Nat.reduceLeDiff,Nat.reduceEqDiff,Nat.reduceGT,Nat.reduceBEq,reduceCtorEq,↓reduceIte,Int.reduceToNat,Int.reduceLE,Int.reduceLT,Int.reduceNe,Int.reduceEq];refine⟨fun h=>aw (sW _ up hu g.t g.a _) ?_,fun h=>by rw[h];rfl⟩;simp(maxDischargeDepth:=12) (maxSteps:=1000000) -implicitDefEqProofs only[go_sem,Nat.reduceAdd,Nat.reduceSub,Nat.reduceMul,Nat.reduceLeDiff,Nat.reduceEqDiff,Nat.reduceGT,Nat.reduceBEq,reduceCtorEq,↓reduceIte,Int.reduceToNat,Int.reduceLE,Int.reduceLT,Int.reduceNe,Int.reduceEq];refine⟨fun h2=>aw (sW _ up hu g.f g.t _) ?_,fun h2=>by rw[h,h2];rfl⟩;simp(maxDischargeDepth:=12) (maxSteps:=1000000) -implicitDefEqProofs only[go_sem,Nat.reduceAdd,Nat.reduceSub,Nat.reduceMul,Nat.reduceLeDiff,Nat.reduceEqDiff,Nat.reduceGT,Nat.reduceBEq,reduceCtorEq,↓reduceIte,Int.reduceToNat,Int.reduceLE,Int.reduceLT,Int.reduceNe,Int.reduceEq];rw[h,h2];rfl
theorem Si(w0:W0)(up:List Nat)(hu:dq up)(g:G)(S:St):aa Tryz.prog w0 103 [dZ up,gD g] S (fun d S'=>d=dB (zg up g)∧S'=S):=by
 refine cb [] mx Tryz.func103 rfl rfl (by kernel_rfl) ?_;simp(maxDischargeDepth:=12) (maxSteps:=1000000) -implicitDefEqProofs only[Tryz.ntmps103,go_sem,Nat.reduceAdd,Nat.reduceSub,Nat.reduceMul,Nat.reduceLeDiff,Nat.reduceEqDiff,Nat.reduceGT,Nat.reduceBEq,reduceCtorEq,↓reduceIte,Int.reduceToNat,Int.reduceLE,Int.reduceLT,Int.reduceNe,Int.reduceEq];intro b;unfold zg;refine aw (sB _ up hu g.f g.a _) ?_;simp(maxDischargeDepth:=12) (maxSteps:=1000000) -implicitDefEqProofs only[go_sem,Nat.reduceAdd,Nat.reduceSub,Nat.reduceMul,Nat.reduceLeDiff,Nat.reduceEqDiff,Nat.reduceGT,Nat.reduceBEq,reduceCtorEq,↓reduceIte,Int.reduceToNat,Int.reduceLE,Int.reduceLT,Int.reduceNe,Int.reduceEq];refine⟨fun h=>aw (sB _ up hu g.t g.a _) ?_,fun h=>by rw[h];rfl⟩;simp(maxDischargeDepth:=12) (maxSteps:=1000000) -implicitDefEqProofs only[go_sem,Nat.reduceAdd,Nat.reduceSub,Nat.reduceMul,Nat.reduceLeDiff,Nat.reduceEqDiff,Nat.reduceGT,Nat.reduceBEq,reduceCtorEq,↓reduceIte,Int.reduceToNat,Int.reduceLE,Int.reduceLT,Int.reduceNe,Int.reduceEq];refine⟨fun h2=>aw (sB _ up hu g.f g.t _) ?_,fun h2=>by rw[h,h2];rfl⟩;simp(maxDischargeDepth:=12) (maxSteps:=1000000) -implicitDefEqProofs only[go_sem,Nat.reduceAdd,Nat.reduceSub,Nat.reduceMul,Nat.reduceLeDiff,Nat.reduceEqDiff,Nat.reduceGT,Nat.reduceBEq,reduceCtorEq,↓reduceIte,Int.reduceToNat,Int.reduceLE,Int.reduceLT,Int.reduceNe,Int.reduceEq];rw[h,h2];rfl
def JH(up:List Nat)(l:List G):Prop:=l.length≤64∧(∀g,g∈l→zg up g=true)∧Up l
def OX(up:List Nat)(l:List G)(k:Nat):Prop:=∀i,i<k→(∀g,l[i]? =some g→zg up g=true)∧(∀x y,0<i→l[i-1]? =some x→l[i]? =some y→va x y=true)
theorem Ns{l:List G}:Up l↔∀i,(h:i+1<l.length)→va (l[i]'(by omega)) l[i+1]=true:=by
 unfold Up;rw[Yv];constructor
 ·intro h i hi;exact h i (i+1) (by omega) hi (by omega)
 ·intro h i j hi hj hij
  induction j with
  |zero=>omega
  |succ j ih=>
   by_cases e:i=j
   ·subst e;exact h i hj
   ·exact Bb (ih (by omega) (by omega)) (h j hj)
theorem ox{up:List Nat}{l:List G}:JH up l↔l.length≤64∧OX up l l.length:=by
 unfold JH OX;rw[Ns];constructor
 ·rintro⟨h1,h2,h3⟩;refine⟨h1,fun i hi=>⟨fun g hg=>h2 g (Xd hg),fun x y h0 hx hy=>?_⟩⟩;have:=h3 (i-1) (by omega);obtain⟨q1,e1⟩:=Xc.1 hx;obtain⟨q2,e2⟩:=Xc.1 hy;simp only[show i-1+1=i from by omega]at this;rw[e1,e2]at this;exact this
 ·rintro⟨h1,h2⟩;refine⟨h1,fun g hg=>?_,fun i hi=>?_⟩
  ·obtain⟨i,hi,e⟩:=Za.1 hg;exact(h2 i hi).1 g (by rw[Xb hi,e])
  ·exact(h2 (i+1) hi).2 _ _ (by omega) (by rw[Nat.add_sub_cancel];exact Xb (by omega)) (Xb hi)
theorem lY{up:List Nat}{l:List G}{a:Nat}(h:OX up l a)(h1:∀g,l[a]? =some g→zg up g=true)(h2:∀x y,0<a→l[a-1]? =some x→l[a]? =some y→va x y=true):OX up l (a+1):=fun i hi=>by
 by_cases e:i=a
 ·subst e;exact⟨h1,h2⟩
 ·exact h i (by omega)
theorem Vk(w0:W0)(up:List Nat)(hu:dq up)(l:List G)(h0:l.length≤4611686018427387904)(S:St):aa Tryz.prog w0 62 [dZ up,jk l] S (fun d S'=>d=dB (pB (JH up l))∧S'=S):=by
 refine cb [] mx Tryz.func62 rfl rfl (by kernel_rfl) ?_;simp(maxDischargeDepth:=12) (maxSteps:=1000000) -implicitDefEqProofs only[Tryz.ntmps62,go_sem,Nat.reduceAdd,Nat.reduceSub,Nat.reduceMul,Nat.reduceLeDiff,Nat.reduceEqDiff,Nat.reduceGT,Nat.reduceBEq,reduceCtorEq,↓reduceIte,Int.reduceToNat,Int.reduceLE,Int.reduceLT,Int.reduceNe,Int.reduceEq];refine aX [] l.length [0,1,7,8,9] (fun a=>[(9,dI a)]) (fun _=>S) (fun a=>OX up l a) mx (by kernel_rfl) ?_ ?_
 ·simp(maxDischargeDepth:=12) (maxSteps:=1000000) -implicitDefEqProofs only[go_sem,Nat.reduceAdd,Nat.reduceSub,Nat.reduceMul,Nat.reduceLeDiff,Nat.reduceEqDiff,Nat.reduceGT,Nat.reduceBEq,reduceCtorEq,↓reduceIte,Int.reduceToNat,Int.reduceLE,Int.reduceLT,Int.reduceNe,Int.reduceEq];intro a ha;omega
 ·intro a ha hA;simp(maxDischargeDepth:=12) (maxSteps:=1000000) -implicitDefEqProofs only[go_sem,Nat.reduceAdd,Nat.reduceSub,Nat.reduceMul,Nat.reduceLeDiff,Nat.reduceEqDiff,Nat.reduceGT,Nat.reduceBEq,reduceCtorEq,↓reduceIte,Int.reduceToNat,Int.reduceLE,Int.reduceLT,Int.reduceNe,Int.reduceEq];refine⟨fun hla=>⟨hla,fun g hg b=>df (SK _ up hu g _) ?_⟩,fun hge=>?_⟩
  ·simp(maxDischargeDepth:=12) (maxSteps:=1000000) -implicitDefEqProofs only[go_sem,Nat.reduceAdd,Nat.reduceSub,Nat.reduceMul,Nat.reduceLeDiff,Nat.reduceEqDiff,Nat.reduceGT,Nat.reduceBEq,reduceCtorEq,↓reduceIte,Int.reduceToNat,Int.reduceLE,Int.reduceLT,Int.reduceNe,Int.reduceEq];refine⟨fun q hp=>?_,fun q=>?_⟩
   ·have:=hp.2.1 g (Xd hg);rw[q]at this;cases this
   ·refine⟨fun h0a=>?_,fun h0a=>⟨hla,lY hA (fun g' hg'=>by rw[hg]at hg';cases hg';exact q) (fun x y h=>by omega),aH (by omega)⟩⟩;rw[oN (show -9223372036854775808≤(a:Int)-1 by omega) (by omega)];refine⟨by omega,by omega,fun x hx=>?_⟩;rw[show((a:Int)-1).toNat=a-1 from by omega]at hx;refine df (Rh _ x g _) ?_;simp(maxDischargeDepth:=12) (maxSteps:=1000000) -implicitDefEqProofs only[go_sem,Nat.reduceAdd,Nat.reduceSub,Nat.reduceMul,Nat.reduceLeDiff,Nat.reduceEqDiff,Nat.reduceGT,Nat.reduceBEq,reduceCtorEq,↓reduceIte,Int.reduceToNat,Int.reduceLE,Int.reduceLT,Int.reduceNe,Int.reduceEq];refine⟨fun q2=>⟨hla,lY hA (fun g' hg'=>by rw[hg]at hg';cases hg';exact q) (fun x' y' _ hx' hy'=>by rw[hx]at hx';rw[hg]at hy';cases hx';cases hy';exact q2),aH (by omega)⟩,fun q2 hp=>?_⟩;have:=((ox.1 hp).2 a hla).2 x g (by omega) hx hg;rw[q2]at this;cases this
  ·have e:a=l.length:=by omega
   subst e;rw[ox];exact⟨fun h=>⟨by omega,hA⟩,fun h=>by omega⟩
theorem V5(w0:W0)(up:List Nat)(hu:dq up)(l:List G)(h0:l.length≤4611686018427387904)(S:St):aa Tryz.prog w0 56 [dZ up,jk l] S (fun d S'=>d=dB (pB (JH up l))∧S'=S):=by
 refine cb [] mx Tryz.func56 rfl rfl (by kernel_rfl) ?_;simp(maxDischargeDepth:=12) (maxSteps:=1000000) -implicitDefEqProofs only[Tryz.ntmps56,go_sem,Nat.reduceAdd,Nat.reduceSub,Nat.reduceMul,Nat.reduceLeDiff,Nat.reduceEqDiff,Nat.reduceGT,Nat.reduceBEq,reduceCtorEq,↓reduceIte,Int.reduceToNat,Int.reduceLE,Int.reduceLT,Int.reduceNe,Int.reduceEq];refine⟨fun h hp=>by have:=hp.1;omega,fun hl=>?_⟩;refine aX [] l.length [0,1,5] (fun a=>[(5,dI a)]) (fun _=>S) (fun a=>OX up l a) mx (by kernel_rfl) ?_ ?_
 ·simp(maxDischargeDepth:=12) (maxSteps:=1000000) -implicitDefEqProofs only[go_sem,Nat.reduceAdd,Nat.reduceSub,Nat.reduceMul,Nat.reduceLeDiff,Nat.reduceEqDiff,Nat.reduceGT,Nat.reduceBEq,reduceCtorEq,↓reduceIte,Int.reduceToNat,Int.reduceLE,Int.reduceLT,Int.reduceNe,Int.reduceEq];intro a ha;omega
 ·intro a ha hA;simp(maxDischargeDepth:=12) (maxSteps:=1000000) -implicitDefEqProofs only[go_sem,Nat.reduceAdd,Nat.reduceSub,Nat.reduceMul,Nat.reduceLeDiff,Nat.reduceEqDiff,Nat.reduceGT,Nat.reduceBEq,reduceCtorEq,↓reduceIte,Int.reduceToNat,Int.reduceLE,Int.reduceLT,Int.reduceNe,Int.reduceEq];refine⟨fun hla=>⟨hla,fun g hg=>aw (Si _ up hu g _) ?_⟩,fun hge=>?_⟩
  ·simp(maxDischargeDepth:=12) (maxSteps:=1000000) -implicitDefEqProofs only[go_sem,Nat.reduceAdd,Nat.reduceSub,Nat.reduceMul,Nat.reduceLeDiff,Nat.reduceEqDiff,Nat.reduceGT,Nat.reduceBEq,reduceCtorEq,↓reduceIte,Int.reduceToNat,Int.reduceLE,Int.reduceLT,Int.reduceNe,Int.reduceEq];refine⟨fun q hp=>?_,fun q=>?_⟩
   ·have:=hp.2.1 g (Xd hg);rw[q]at this;cases this
   ·refine⟨fun h0a=>?_,fun h0a=>⟨hla,lY hA (fun g' hg'=>by rw[hg]at hg';cases hg';exact q) (fun x y h=>by omega),aH (by omega)⟩⟩;rw[oN (show -9223372036854775808≤(a:Int)-1 by omega) (by omega)];refine⟨by omega,by omega,fun x hx=>?_⟩;rw[show((a:Int)-1).toNat=a-1 from by omega]at hx;refine⟨hla,fun y hy=>?_⟩;rw[hg]at hy;cases hy;refine df (Qu _ x g _) ?_;simp(maxDischargeDepth:=12) (maxSteps:=1000000) -implicitDefEqProofs only[go_sem,Nat.reduceAdd,Nat.reduceSub,Nat.reduceMul,Nat.reduceLeDiff,Nat.reduceEqDiff,Nat.reduceGT,Nat.reduceBEq,reduceCtorEq,↓reduceIte,Int.reduceToNat,Int.reduceLE,Int.reduceLT,Int.reduceNe,Int.reduceEq];refine⟨fun q2=>⟨hla,lY hA (fun g' hg'=>by rw[hg]at hg';cases hg';exact q) (fun x' y' _ hx' hy'=>by rw[hx]at hx';rw[hg]at hy';cases hx';cases hy';exact q2),aH (by omega)⟩,fun q2 hp=>?_⟩;have:=((ox.1 hp).2 a hla).2 x g (by omega) hx hg;rw[q2]at this;cases this
  ·have e:a=l.length:=by omega
   subst e;exact ox.2 ⟨by omega,hA⟩
end Go.Proofs.YtoepfmhnapedoaaGreatDoor
namespace Go.Proofs.YtoepfmhnapedoaaGreatDoor
open Aml Go Lat Grs Rn
def pC(c:Nat):Bool:=decide ((97≤c∧c≤122)∨(65≤c∧c≤90)∨128≤c)
theorem J1(w0:W0)(c:Nat)(S:St):aa Tryz.prog w0 115 [.v (.int .i32 (c:Int))] S (fun d S'=>d=dB (pC c)∧S'=S):=by
 refine cb [] mx Tryz.func115 rfl rfl (by kernel_rfl) ?_;simp(maxDischargeDepth:=12) (maxSteps:=1000000) -implicitDefEqProofs only[Tryz.ntmps115,go_sem,Nat.reduceAdd,Nat.reduceSub,Nat.reduceMul,Nat.reduceLeDiff,Nat.reduceEqDiff,Nat.reduceGT,Nat.reduceBEq,reduceCtorEq,↓reduceIte,Int.reduceToNat,Int.reduceLE,Int.reduceLT,Int.reduceNe,Int.reduceEq];unfold pC
 (repeat' first|refine⟨?_,?_⟩|intro _) <;>first|exact(decide_eq_true (by omega)).symm|exact decide_eq_decide.2 (by omega)
theorem JZ(w0:W0)(c:Nat)(S:St):aa Tryz.prog w0 105 [.v (.int .i32 (c:Int))] S (fun d S'=>d=dB (pC c)∧S'=S):=by
 refine cb [] mx Tryz.func105 rfl rfl (by kernel_rfl) ?_;simp(maxDischargeDepth:=12) (maxSteps:=1000000) -implicitDefEqProofs only[Tryz.ntmps105,go_sem,Nat.reduceAdd,Nat.reduceSub,Nat.reduceMul,Nat.reduceLeDiff,Nat.reduceEqDiff,Nat.reduceGT,Nat.reduceBEq,reduceCtorEq,↓reduceIte,Int.reduceToNat,Int.reduceLE,Int.reduceLT,Int.reduceNe,Int.reduceEq];unfold pC
 (repeat' first|refine⟨?_,?_⟩|intro _) <;>first|exact(decide_eq_true (by omega)).symm|exact decide_eq_decide.2 (by omega)
structure gP(l:List UInt8):Prop where
 NY:∀r,r∈bp l→pC r.1=true
 whole:whole l
 pos:1≤(bp l).length
 le:(bp l).length≤12
theorem wO(l:List UInt8):Lib.validD l=true↔whole l:=by
 induction l using qS with
 |h0=>exact⟨fun _ r hr=>(by cases hr),fun _=>rfl⟩
 |h1 l hne ih=>
  rw[Lib.validD_step l hne,qd hne,←ih];by_cases h:(Lib.decodeL l).1=65533∧(Lib.decodeL l).2=1
  ·rw[if_pos h];exact⟨fun q=>(by cases q),fun q=>absurd h q.1⟩
  ·rw[if_neg h];exact⟨fun q=>⟨h,q⟩,fun q=>q.2⟩
def rl(c:Nat):Nat:=if c<128 then 1 else if c<2048 then 2 else if c<65536 then 3 else 4
def Hz(l:List (Nat×List UInt8)):Nat:=(l.map fun r=>rl r.1).sum
theorem O7(l:List UInt8)(hne:l≠[]):(dl l).2≤rl (dl l).1∧((dl l).2=rl (dl l).1↔wM (dl l)):=by
 have k0:=(l.getD 0 0).toNat_lt;unfold dl;rw[Lib.decodeL_N];unfold wM rl;rcases Lib.decodeN_shape l.length (l.getD 0 0).toNat (l.getD 1 0).toNat (l.getD 2 0).toNat (l.getD 3 0).toNat with⟨c,e⟩|⟨c1,c2,c3,cv,e⟩|⟨c1,c2,c3,c4,cv,cs,e⟩|⟨c1,c2,c3,c4,c5,cv,cw,e⟩|e
 all_goals rw[e];dsimp only
 ·rw[if_pos c];omega
 ·rw[if_neg (by omega),if_pos (by omega)];omega
 ·rw[if_neg (by omega),if_neg (by omega),if_pos (by omega)];omega
 ·rw[if_neg (by omega),if_neg (by omega),if_neg (by omega)];omega
 ·decide
theorem CB(l:List UInt8):l.length≤Hz (bp l)∧(Hz (bp l)=l.length↔whole l):=by
 induction l using qS with
 |h0=>exact⟨Xg _,⟨fun _ r hr=>(by cases hr),fun _=>rfl⟩⟩
 |h1 l hne ih=>
  have hle:=Lib.decodeL_le l hne;have h1:=O7 l hne;change (dl l).2≤l.length at hle;rw[gb hne,qd hne];unfold Hz at ih ⊢;rw[XE,YF];rw[X7]at ih;rw[←ih.2,←h1.2];dsimp only;omega
theorem pn{L:List UInt8}{k:Nat}(h:k<L.length):bp (L.drop k)=((dl (L.drop k)).1,(L.drop k).take (dl (L.drop k)).2)::bp (L.drop (k+(dl (L.drop k)).2)):=by
 have hne:L.drop k≠[]:=by intro e;have:=congrArg List.length e;rw[X7]at this;simp at this;omega
 rw[gb hne,Yp]
theorem G6{L:List UInt8}{k:Nat}(h:k<L.length):1≤(dl (L.drop k)).2∧k+(dl (L.drop k)).2≤L.length:=by
 have hne:L.drop k≠[]:=by intro e;have:=congrArg List.length e;rw[X7]at this;simp at this;omega
 have h1:=qj (L.drop k);have h2:=Lib.decodeL_le _ hne;rw[X7]at h2;exact⟨h1,by unfold dl;omega⟩
theorem mH{L:List UInt8}{k:Nat}(h:L.length≤k):bp (L.drop k)=[]:=by rw[List.drop_of_length_le h];rfl
theorem KR(c:Nat):rl c≤4:=by unfold rl;(repeat' split) <;>omega
theorem Mb(l:List (Nat×List UInt8)):Hz l≤4*l.length:=by
 induction l with
 |nil=>exact Xg _
 |cons r l ih=>
  have:=KR r.1;unfold Hz at ih ⊢;rw[XE,YF,Xo];omega
theorem LL(w0:W0)(s:ByteArray)(hs:s.size≤1048576)(S:St):aa Tryz.prog w0 106 [dS s] S (fun d S'=>d=dB (pB (whole s.data.toList))∧S'=S):=by
 refine cb [] mx Tryz.func106 rfl rfl (by kernel_rfl) ?_;simp(maxDischargeDepth:=12) (maxSteps:=1000000) -implicitDefEqProofs only[Tryz.ntmps106,go_sem,Nat.reduceAdd,Nat.reduceSub,Nat.reduceMul,Nat.reduceLeDiff,Nat.reduceEqDiff,Nat.reduceGT,Nat.reduceBEq,reduceCtorEq,↓reduceIte,Int.reduceToNat,Int.reduceLE,Int.reduceLT,Int.reduceNe,Int.reduceEq];intro li;refine cY [] [0,3,7] (σ:=Nat×List (Nat×List UInt8)) (fun p=>[(3,dI (Hz p.2))]) (fun p=>⟨S.box,(li.n,.xo (.si s p.1))::S.acc⟩) (fun p=>p.1≤s.size∧p.2++bp (s.data.toList.drop p.1)=bp s.data.toList) (fun p=>s.size-p.1) (0,[]) mx (by kernel_rfl) ⟨⟨XR _,rfl⟩,?_⟩ fun p hp=>?_
 ·simp(maxDischargeDepth:=12) (maxSteps:=1000000) -implicitDefEqProofs only[go_sem,Nat.reduceAdd,Nat.reduceSub,Nat.reduceMul,Nat.reduceLeDiff,Nat.reduceEqDiff,Nat.reduceGT,Nat.reduceBEq,reduceCtorEq,↓reduceIte,Int.reduceToNat,Int.reduceLE,Int.reduceLT,Int.reduceNe,Int.reduceEq];exact .refl _
 ·obtain⟨k,pre⟩:=p;obtain⟨hk1,hpre⟩:=hp;dsimp only at hk1 hpre;simp(maxDischargeDepth:=12) (maxSteps:=1000000) -implicitDefEqProofs only[go_sem,Nat.reduceAdd,Nat.reduceSub,Nat.reduceMul,Nat.reduceLeDiff,Nat.reduceEqDiff,Nat.reduceGT,Nat.reduceBEq,reduceCtorEq,↓reduceIte,Int.reduceToNat,Int.reduceLE,Int.reduceLT,Int.reduceNe,Int.reduceEq];have hsz:=fM s;have hrl:=mI s.data.toList
  have hrp:pre.length≤s.size:=by
   have:=congrArg List.length hpre;rw[Xp]at this;omega
  have hr4:Hz pre≤4*pre.length:=Mb pre;rw[qJ s k];refine⟨fun hk=>?_,fun hk=>?_⟩
  ·rw[mH (by omega),Yu]at hpre;rw[hpre,←(CB _).2];rfl
  ·have h1:=pn (L:=s.data.toList) (k:=k) (by omega);have h2:=G6 (L:=s.data.toList) (k:=k) (by omega);generalize hD:dl (s.data.toList.drop k)=D at h1 h2;change Lib.decodeL _=D at hD;rw[hD];obtain⟨c,n⟩:=D;dsimp only at h1 h2 ⊢
   have go:∀m:Nat,m=rl c→∃s':Nat×List (Nat×List UInt8),
    (s'.fst≤s.size∧s'.snd++bp (List.drop s'.fst s.data.toList)=bp s.data.toList)∧
     s.size-s'.fst<s.size-k∧
      IntKind.i64.wrap ((Hz pre:Int)+(m:Int))=(Hz s'.snd:Int)∧
       Aml.Sub {box:=S.box,acc:=(li.n,Ob.xo (XO.si s s'.fst))::S.acc}
        {box:=S.box,acc:=(li.n,Ob.xo (XO.si s (k+n)))::S.acc}:=by
    rintro _ rfl;refine⟨(k+n,pre++[(c,(s.data.toList.drop k).take n)]),⟨by dsimp only;omega,?_⟩,by dsimp only;omega,?_,.refl _⟩
    ·dsimp only;rw[YR,List.singleton_append,←h1];exact hpre
    ·have hle:=KR c;rw[oN (by omega) (by omega)];unfold Hz;rw[XB,List.sum_append];simp
   unfold rl at go;refine⟨fun q=>?_,fun q=>⟨fun q2=>?_,fun q2=>⟨fun q3=>?_,fun q3=>?_⟩⟩⟩
   ·exact go 1 (by rw[if_pos (by omega)])
   ·exact go 2 (by rw[if_neg (by omega),if_pos (by omega)])
   ·exact go 3 (by rw[if_neg (by omega),if_neg (by omega),if_pos (by omega)])
   ·exact go 4 (by rw[if_neg (by omega),if_neg (by omega),if_neg (by omega)])
theorem we{l:List UInt8}(h:∀r,r∈bp l→pC r.1=true):gP l↔whole l∧1≤(bp l).length∧(bp l).length≤12:=⟨fun q=>⟨q.whole,q.pos,q.le⟩,fun q=>⟨h,q.1,q.2.1,q.2.2⟩⟩
theorem D2{l:List UInt8}(h:∀r,r∈bp l→pC r.1=true):(Lib.validD l=true→
 (((bp l).length:Int)≥1→(((bp l).length:Int)≤12↔gP l))∧(¬((bp l).length:Int)≥1→¬gP l))∧
 (Lib.validD l=false→¬gP l):=by
 rw[we h,←wO];refine⟨fun q=>⟨fun q2=>⟨fun q3=>⟨q,by omega,by omega⟩,fun q3=>by omega⟩,fun q2 q3=>by omega⟩,fun q q3=>by rw[q]at q3;cases q3.1⟩
theorem Qy(w0:W0)(hk:KU w0)(s:ByteArray)(hs:s.size≤1048576)(S:St):aa Tryz.prog w0 63 [dS s] S (fun d S'=>d=dB (pB (gP s.data.toList))∧S'=S):=by
 refine cb [] mx Tryz.func63 rfl rfl (by kernel_rfl) ?_;simp(maxDischargeDepth:=12) (maxSteps:=1000000) -implicitDefEqProofs only[Tryz.ntmps63,go_sem,Nat.reduceAdd,Nat.reduceSub,Nat.reduceMul,Nat.reduceLeDiff,Nat.reduceEqDiff,Nat.reduceGT,Nat.reduceBEq,reduceCtorEq,↓reduceIte,Int.reduceToNat,Int.reduceLE,Int.reduceLT,Int.reduceNe,Int.reduceEq];intro li;refine cY [] [0,3,7] (σ:=Nat×List (Nat×List UInt8)) (fun p=>[(3,dI p.2.length)]) (fun p=>⟨S.box,(li.n,.xo (.si s p.1))::S.acc⟩) (fun p=>p.1≤s.size∧p.2++bp (s.data.toList.drop p.1)=bp s.data.toList∧∀r,r∈p.2→pC r.1=true) (fun p=>s.size-p.1) (0,[]) mx (by kernel_rfl) ⟨⟨XR _,rfl,fun r hr=>by cases hr⟩,?_⟩ fun p hp=>?_
 ·simp(maxDischargeDepth:=12) (maxSteps:=1000000) -implicitDefEqProofs only[go_sem,Nat.reduceAdd,Nat.reduceSub,Nat.reduceMul,Nat.reduceLeDiff,Nat.reduceEqDiff,Nat.reduceGT,Nat.reduceBEq,reduceCtorEq,↓reduceIte,Int.reduceToNat,Int.reduceLE,Int.reduceLT,Int.reduceNe,Int.reduceEq]
 ·obtain⟨k,pre⟩:=p;obtain⟨hk1,hpre,hlet⟩:=hp;dsimp only at hk1 hpre hlet;have hsz:=fM s;simp(maxDischargeDepth:=12) (maxSteps:=1000000) -implicitDefEqProofs only[go_sem,Nat.reduceAdd,Nat.reduceSub,Nat.reduceMul,Nat.reduceLeDiff,Nat.reduceEqDiff,Nat.reduceGT,Nat.reduceBEq,reduceCtorEq,↓reduceIte,Int.reduceToNat,Int.reduceLE,Int.reduceLT,Int.reduceNe,Int.reduceEq];rw[qJ s k];have hrl:=mI s.data.toList
  have hrp:pre.length≤s.size:=by
   have:=congrArg List.length hpre;rw[Xp]at this;omega
  refine⟨fun hk'=>?_,fun hk'=>?_⟩
  ·rw[mH (by omega),Yu]at hpre;rw[hpre]at hlet ⊢;refine aw (Mt _ hk s hs _) ?_;simp(maxDischargeDepth:=12) (maxSteps:=1000000) -implicitDefEqProofs only[go_sem,Nat.reduceAdd,Nat.reduceSub,Nat.reduceMul,Nat.reduceLeDiff,Nat.reduceEqDiff,Nat.reduceGT,Nat.reduceBEq,reduceCtorEq,↓reduceIte,Int.reduceToNat,Int.reduceLE,Int.reduceLT,Int.reduceNe,Int.reduceEq];exact D2 hlet
  ·have h1:=pn (L:=s.data.toList) (k:=k) (by omega);have h2:=G6 (L:=s.data.toList) (k:=k) (by omega);generalize hD:dl (s.data.toList.drop k)=D at h1 h2;change Lib.decodeL _=D at hD;rw[hD];obtain⟨c,n⟩:=D;dsimp only at h1 h2 ⊢;refine aw (J1 _ c _) ?_;simp(maxDischargeDepth:=12) (maxSteps:=1000000) -implicitDefEqProofs only[go_sem,Nat.reduceAdd,Nat.reduceSub,Nat.reduceMul,Nat.reduceLeDiff,Nat.reduceEqDiff,Nat.reduceGT,Nat.reduceBEq,reduceCtorEq,↓reduceIte,Int.reduceToNat,Int.reduceLE,Int.reduceLT,Int.reduceNe,Int.reduceEq];refine⟨fun q=>⟨(k+n,pre++[(c,(s.data.toList.drop k).take n)]),⟨by dsimp only;omega,?_,?_⟩,by dsimp only;omega,?_,.refl _⟩,fun q hN=>?_⟩
   ·dsimp only;rw[YR,List.singleton_append,←h1];exact hpre
   ·intro r hr;rcases Xn.1 hr with hr|hr
    ·exact hlet r hr
    ·rw[Xl.1 hr];exact q
   ·rw[oN (by omega) (by omega)];simp
   ·have:=hN.NY (c,(s.data.toList.drop k).take n) (by rw[←hpre,h1];simp);rw[q]at this;cases this
theorem A0{l:List UInt8}(h:∀r,r∈bp l→pC r.1=true):(whole l→
 (((bp l).length:Int)≥1→(((bp l).length:Int)≤12↔gP l))∧(¬((bp l).length:Int)≥1→¬gP l))∧
 (¬whole l→¬gP l):=by
 rw[we h];refine⟨fun q=>⟨fun q2=>⟨fun q3=>⟨q,by omega,by omega⟩,fun q3=>by omega⟩,fun q2 q3=>by omega⟩,fun q q3=>q q3.1⟩
theorem Ri(w0:W0)(s:ByteArray)(hs:s.size≤1048576)(S:St):aa Tryz.prog w0 57 [dS s] S (fun d S'=>d=dB (pB (gP s.data.toList))∧S'=S):=by
 refine cb [] mx Tryz.func57 rfl rfl (by kernel_rfl) ?_;simp(maxDischargeDepth:=12) (maxSteps:=1000000) -implicitDefEqProofs only[Tryz.ntmps57,go_sem,Nat.reduceAdd,Nat.reduceSub,Nat.reduceMul,Nat.reduceLeDiff,Nat.reduceEqDiff,Nat.reduceGT,Nat.reduceBEq,reduceCtorEq,↓reduceIte,Int.reduceToNat,Int.reduceLE,Int.reduceLT,Int.reduceNe,Int.reduceEq];intro li;refine cY [] [0,3,8] (σ:=Nat×List (Nat×List UInt8)) (fun p=>[(3,dI p.2.length)]) (fun p=>⟨S.box,(li.n,.xo (.si s p.1))::S.acc⟩) (fun p=>p.1≤s.size∧p.2++bp (s.data.toList.drop p.1)=bp s.data.toList∧∀r,r∈p.2→pC r.1=true) (fun p=>s.size-p.1) (0,[]) mx (by kernel_rfl) ⟨⟨XR _,rfl,fun r hr=>by cases hr⟩,?_⟩ fun p hp=>?_
 ·simp(maxDischargeDepth:=12) (maxSteps:=1000000) -implicitDefEqProofs only[go_sem,Nat.reduceAdd,Nat.reduceSub,Nat.reduceMul,Nat.reduceLeDiff,Nat.reduceEqDiff,Nat.reduceGT,Nat.reduceBEq,reduceCtorEq,↓reduceIte,Int.reduceToNat,Int.reduceLE,Int.reduceLT,Int.reduceNe,Int.reduceEq]
 ·obtain⟨k,pre⟩:=p;obtain⟨hk1,hpre,hlet⟩:=hp;dsimp only at hk1 hpre hlet;have hsz:=fM s;simp(maxDischargeDepth:=12) (maxSteps:=1000000) -implicitDefEqProofs only[go_sem,Nat.reduceAdd,Nat.reduceSub,Nat.reduceMul,Nat.reduceLeDiff,Nat.reduceEqDiff,Nat.reduceGT,Nat.reduceBEq,reduceCtorEq,↓reduceIte,Int.reduceToNat,Int.reduceLE,Int.reduceLT,Int.reduceNe,Int.reduceEq];rw[qJ s k];have hrl:=mI s.data.toList
  have hrp:pre.length≤s.size:=by
   have:=congrArg List.length hpre;rw[Xp]at this;omega
  refine⟨fun hk'=>?_,fun hk'=>?_⟩
  ·rw[mH (by omega),Yu]at hpre;rw[hpre]at hlet ⊢;refine aw (LL _ s hs _) ?_;simp(maxDischargeDepth:=12) (maxSteps:=1000000) -implicitDefEqProofs only[go_sem,Nat.reduceAdd,Nat.reduceSub,Nat.reduceMul,Nat.reduceLeDiff,Nat.reduceEqDiff,Nat.reduceGT,Nat.reduceBEq,reduceCtorEq,↓reduceIte,Int.reduceToNat,Int.reduceLE,Int.reduceLT,Int.reduceNe,Int.reduceEq];exact A0 hlet
  ·have h1:=pn (L:=s.data.toList) (k:=k) (by omega);have h2:=G6 (L:=s.data.toList) (k:=k) (by omega);generalize hD:dl (s.data.toList.drop k)=D at h1 h2;change Lib.decodeL _=D at hD;rw[hD];obtain⟨c,n⟩:=D;dsimp only at h1 h2 ⊢;refine aw (JZ _ c _) ?_;simp(maxDischargeDepth:=12) (maxSteps:=1000000) -implicitDefEqProofs only[go_sem,Nat.reduceAdd,Nat.reduceSub,Nat.reduceMul,Nat.reduceLeDiff,Nat.reduceEqDiff,Nat.reduceGT,Nat.reduceBEq,reduceCtorEq,↓reduceIte,Int.reduceToNat,Int.reduceLE,Int.reduceLT,Int.reduceNe,Int.reduceEq];refine⟨fun q=>⟨(k+n,pre++[(c,(s.data.toList.drop k).take n)]),⟨by dsimp only;omega,?_,?_⟩,by dsimp only;omega,?_,.refl _⟩,fun q hN=>?_⟩
   ·dsimp only;rw[YR,List.singleton_append,←h1];exact hpre
   ·intro r hr;rcases Xn.1 hr with hr|hr
    ·exact hlet r hr
    ·rw[Xl.1 hr];exact q
   ·rw[oN (by omega) (by omega)];simp
   ·have:=hN.NY (c,(s.data.toList.drop k).take n) (by rw[←hpre,h1];simp);rw[q]at this;cases this
attribute [go_sem] dJ
def kF(l:List (List UInt8))(s:List UInt8):Int:=if s∈l then((l.idxOf s:Nat):Int)else -1
theorem sw{l:List (List UInt8)}{s:List UInt8}:kF l s<0↔s∉l:=by
 unfold kF;split <;>simp_all <;>omega
theorem zE{l:List (List UInt8)}{s:List UInt8}{k:Nat}(h0:s∉l.take k)(h:l[k]? =some s):kF l s=(k:Int):=by
 unfold kF;obtain⟨hk,e⟩:=Xc.1 h;rw[if_pos (Xd h)];have h1:l=l.take k++s::l.drop (k+1):=by rw[←e,←List.drop_eq_getElem_cons hk,Y2]
 have:l.idxOf s=k:=by
  rw[h1,List.idxOf_append,if_neg h0,List.idxOf_cons_self,X3];omega
 rw[this]
theorem vM{l:List (List UInt8)}{s:List UInt8}(h:s∉l):kF l s= -1:=by unfold kF;rw[if_neg h]
theorem vr{l:List (List UInt8)}{s x:List UInt8}{k:Nat}(h0:s∉l.take k)(hx:l[k]? =some x)(hne:¬s=x):s∉l.take (k+1):=by
 rw[X8,hx];intro hm;rcases Xn.1 hm with hm|hm
 ·exact h0 hm
 ·simp only[YV,Xl]at hm;exact hne hm
theorem Oi(w0:W0)(l:List (List UInt8))(s:List UInt8)(hl:l.length≤4611686018427387904)(S:St):aa Tryz.prog w0 117 [.sl 1 false (az l),dS (tx s)] S (fun d S'=>d=dI (kF l s)∧S'=S):=by
 refine cb [] mx Tryz.func117 rfl rfl (by kernel_rfl) ?_;simp(maxDischargeDepth:=12) (maxSteps:=1000000) -implicitDefEqProofs only[Tryz.ntmps117,go_sem,Nat.reduceAdd,Nat.reduceSub,Nat.reduceMul,Nat.reduceLeDiff,Nat.reduceEqDiff,Nat.reduceGT,Nat.reduceBEq,reduceCtorEq,↓reduceIte,Int.reduceToNat,Int.reduceLE,Int.reduceLT,Int.reduceNe,Int.reduceEq];refine aX [] l.length [0,1,7,8] (fun a=>[(8,dI a)]) (fun _=>S) (fun a=>s∉l.take a) mx (by kernel_rfl) ?_ ?_
 ·simp(maxDischargeDepth:=12) (maxSteps:=1000000) -implicitDefEqProofs only[go_sem,Nat.reduceAdd,Nat.reduceSub,Nat.reduceMul,Nat.reduceLeDiff,Nat.reduceEqDiff,Nat.reduceGT,Nat.reduceBEq,reduceCtorEq,↓reduceIte,Int.reduceToNat,Int.reduceLE,Int.reduceLT,Int.reduceNe,Int.reduceEq];exact YB
 ·intro a ha hA;simp(maxDischargeDepth:=12) (maxSteps:=1000000) -implicitDefEqProofs only[go_sem,Nat.reduceAdd,Nat.reduceSub,Nat.reduceMul,Nat.reduceLeDiff,Nat.reduceEqDiff,Nat.reduceGT,Nat.reduceBEq,reduceCtorEq,↓reduceIte,Int.reduceToNat,Int.reduceLE,Int.reduceLT,Int.reduceNe,Int.reduceEq];refine⟨fun hla=>⟨hla,fun x hx=>⟨fun e=>(zE hA (e▸hx)).symm,fun e=>⟨hla,vr hA hx e,aH (by omega)⟩⟩⟩,fun hge=>?_⟩;rw[XL (by omega)]at hA;exact(vM hA).symm
theorem Pr(w0:W0)(l:List (List UInt8))(s:List UInt8)(hl:l.length≤4611686018427387904)(S:St):aa Tryz.prog w0 58 [.sl 1 false (az l),dS (tx s)] S (fun d S'=>d=dI (kF l s)∧S'=S):=by
 refine cb [] mx Tryz.func58 rfl rfl (by kernel_rfl) ?_;simp(maxDischargeDepth:=12) (maxSteps:=1000000) -implicitDefEqProofs only[Tryz.ntmps58,go_sem,Nat.reduceAdd,Nat.reduceSub,Nat.reduceMul,Nat.reduceLeDiff,Nat.reduceEqDiff,Nat.reduceGT,Nat.reduceBEq,reduceCtorEq,↓reduceIte,Int.reduceToNat,Int.reduceLE,Int.reduceLT,Int.reduceNe,Int.reduceEq];refine aX [] l.length [0,1,5] (fun a=>[(5,dI a)]) (fun _=>S) (fun a=>s∉l.take a) mx (by kernel_rfl) ?_ ?_
 ·simp(maxDischargeDepth:=12) (maxSteps:=1000000) -implicitDefEqProofs only[go_sem,Nat.reduceAdd,Nat.reduceSub,Nat.reduceMul,Nat.reduceLeDiff,Nat.reduceEqDiff,Nat.reduceGT,Nat.reduceBEq,reduceCtorEq,↓reduceIte,Int.reduceToNat,Int.reduceLE,Int.reduceLT,Int.reduceNe,Int.reduceEq];exact YB
 ·intro a ha hA;simp(maxDischargeDepth:=12) (maxSteps:=1000000) -implicitDefEqProofs only[go_sem,Nat.reduceAdd,Nat.reduceSub,Nat.reduceMul,Nat.reduceLeDiff,Nat.reduceEqDiff,Nat.reduceGT,Nat.reduceBEq,reduceCtorEq,↓reduceIte,Int.reduceToNat,Int.reduceLE,Int.reduceLT,Int.reduceNe,Int.reduceEq];refine⟨fun hla=>⟨hla,fun x hx=>⟨fun e=>(zE hA (e▸hx)).symm,fun e=>⟨hla,vr hA hx (fun q=>e q.symm),aH (by omega)⟩⟩⟩,fun hge=>?_⟩;rw[XL (by omega)]at hA;exact(vM hA).symm
theorem Ch(w0:W0)(l:List (List UInt8))(s:List UInt8)(hl:l.length≤4611686018427387904)(S:St):aa Tryz.prog w0 65 [.sl 1 false (az l),dS (tx s)] S (fun d S'=>d=dB (decide (s∈l))∧S'=S):=by
 refine cb [] mx Tryz.func65 rfl rfl (by kernel_rfl) ?_;simp(maxDischargeDepth:=12) (maxSteps:=1000000) -implicitDefEqProofs only[Tryz.ntmps65,go_sem,Nat.reduceAdd,Nat.reduceSub,Nat.reduceMul,Nat.reduceLeDiff,Nat.reduceEqDiff,Nat.reduceGT,Nat.reduceBEq,reduceCtorEq,↓reduceIte,Int.reduceToNat,Int.reduceLE,Int.reduceLT,Int.reduceNe,Int.reduceEq];refine aw (Oi _ l s hl _) ?_;simp(maxDischargeDepth:=12) (maxSteps:=1000000) -implicitDefEqProofs only[go_sem,Nat.reduceAdd,Nat.reduceSub,Nat.reduceMul,Nat.reduceLeDiff,Nat.reduceEqDiff,Nat.reduceGT,Nat.reduceBEq,reduceCtorEq,↓reduceIte,Int.reduceToNat,Int.reduceLE,Int.reduceLT,Int.reduceNe,Int.reduceEq];have:=sw (l:=l) (s:=s);by_cases h:s∈l
 ·exact⟨fun _=>h,fun _=>Int.not_lt.1 fun q=>this.1 q h⟩
 ·exact⟨fun q=>by have:=this.2 h;omega,fun q=>absurd q h⟩
theorem LG(w0:W0)(n:Int)(S:St):aa Tryz.prog w0 64 [dI n] S (fun d S'=>d=dB (decide (4≤n∧n≤1000))∧S'=S):=by
 refine cb [] mx Tryz.func64 rfl rfl (by kernel_rfl) ?_;simp(maxDischargeDepth:=12) (maxSteps:=1000000) -implicitDefEqProofs only[Tryz.ntmps64,go_sem,Nat.reduceAdd,Nat.reduceSub,Nat.reduceMul,Nat.reduceLeDiff,Nat.reduceEqDiff,Nat.reduceGT,Nat.reduceBEq,reduceCtorEq,↓reduceIte,Int.reduceToNat,Int.reduceLE,Int.reduceLT,Int.reduceNe,Int.reduceEq];refine⟨fun h=>⟨fun q=>⟨h,q⟩,fun q=>q.2⟩,fun h q=>h q.1⟩
structure Cf where
 nm:List (List UInt8)
 up:List Nat
 qu:List Int
 gr:List G
@[go_sem] def lA (l:List Int):DV:= .sl 1 false (l.map dI)
@[go_sem] def OP (c:Cf):DV:= .agg [.sl 1 false (az c.nm),dZ c.up,lA c.qu,jk c.gr]
structure HV(c:Cf):Prop where
 Iy:c.nm.length=c.up.length
 Ov:c.qu.length=c.up.length
 PX:rb c.up
 Sc:JH c.up c.gr
 name:∀s,s∈c.nm→gP s
 quo:∀n,n∈c.qu→4≤n∧n≤1000
 uniq:c.nm.Nodup
structure yY(c:Cf):Prop where
 TA:c.nm.length≤1048576
 Ux:∀s,s∈c.nm→s.length≤1048576
 TJ:c.up.length≤1048576
 EK:dq c.up
 Sv:c.qu.length≤1048576
 Pk:c.gr.length≤1048576
def HF(c:Cf)(k:Nat):Prop:=∀i,i<k→∀s n,c.nm[i]? =some s→c.qu[i]? =some n→gP s∧(4≤n∧n≤1000)∧s∉c.nm.take i
theorem zq{c:Cf}(h1:c.nm.length=c.up.length)(h2:c.qu.length=c.up.length):HV c↔rb c.up∧JH c.up c.gr∧HF c c.nm.length:=by
 constructor
 ·intro h;refine⟨h.PX,h.Sc,fun i hi s n hs hn=>⟨h.name s (Xd hs),h.quo n (Xd hn),fun hm=>?_⟩⟩;obtain⟨j,hj,e⟩:=Za.1 hm;rw[X3]at hj;rw[List.getElem_take]at e;obtain⟨hi',e'⟩:=Xc.1 hs;have:=Yv.1 h.uniq j i (by omega) hi' (by omega);exact this (by rw[e,e'])
 ·rintro⟨a1,a2,a3⟩;have key:∀i,(hi:i<c.nm.length)→gP (c.nm[i])∧(4≤c.qu[i]'(by omega)∧c.qu[i]'(by omega)≤1000)∧c.nm[i]∉c.nm.take i:=fun i hi=>a3 i hi _ _ (Xb hi) (Xb (by omega));refine⟨h1,h2,a1,a2,fun s hs=>?_,fun n hn=>?_,?_⟩
  ·obtain⟨i,hi,rfl⟩:=Za.1 hs;exact(key i hi).1
  ·obtain⟨i,hi,rfl⟩:=Za.1 hn;exact(key i (by omega)).2.1
  ·refine Yv.2 fun i j hi hj hij e=>(key j hj).2.2 ?_;rw[←e];exact Za.2 ⟨i,by rw[X3];omega,by rw[List.getElem_take]⟩
theorem vA{c:Cf}{k:Nat}{s:List UInt8}{n:Int}(h:HF c k)(hs:c.nm[k]? =some s)(hn:c.qu[k]? =some n)(h1:gP s)(h2:4≤n∧n≤1000)(h3:s∉c.nm.take k):HF c (k+1):=fun i hi s' n' hs' hn'=>by
 by_cases e:i=k
 ·subst e;rw[hs]at hs';rw[hn]at hn';cases hs';cases hn';exact⟨h1,h2,h3⟩
 ·exact h i (by omega) s' n' hs' hn'
theorem KS{c:Cf}(h2:c.qu.length=c.up.length)(h1:c.nm.length=c.up.length){k:Nat}(hk:k<c.nm.length):∃n,c.qu[k]? =some n:=⟨_,Xb (by omega)⟩
theorem L4(w0:W0)(hg:gq w0)(hk:KU w0)(c:Cf)(hc:yY c)(S:St):aa Tryz.prog w0 26 [OP c] S (fun d S'=>d=dB (pB (HV c))∧S'=S):=by
 have h1:=hc.TA;have h2:=hc.TJ;have h3:=hc.Sv;have h4:=hc.Pk;refine cb [] mx Tryz.func26 rfl rfl (by kernel_rfl) ?_;simp(maxDischargeDepth:=12) (maxSteps:=1000000) -implicitDefEqProofs only[Tryz.ntmps26,go_sem,Nat.reduceAdd,Nat.reduceSub,Nat.reduceMul,Nat.reduceLeDiff,Nat.reduceEqDiff,Nat.reduceGT,Nat.reduceBEq,reduceCtorEq,↓reduceIte,Int.reduceToNat,Int.reduceLE,Int.reduceLT,Int.reduceNe,Int.reduceEq];intro b;refine⟨fun h hp=>h hp.Iy,fun e1=>⟨fun h hp=>h hp.Ov,fun e2=>?_⟩⟩;have e1:=Xs.1 e1;have e2:=Xs.1 e2;refine aw (TD _ hg c.up hc.EK (by omega) _) ?_;simp(maxDischargeDepth:=12) (maxSteps:=1000000) -implicitDefEqProofs only[go_sem,Nat.reduceAdd,Nat.reduceSub,Nat.reduceMul,Nat.reduceLeDiff,Nat.reduceEqDiff,Nat.reduceGT,Nat.reduceBEq,reduceCtorEq,↓reduceIte,Int.reduceToNat,Int.reduceLE,Int.reduceLT,Int.reduceNe,Int.reduceEq];refine⟨fun hL hp=>hL hp.PX,fun hL=>aw (Vk _ c.up hc.EK c.gr (by omega) _) ?_⟩;simp(maxDischargeDepth:=12) (maxSteps:=1000000) -implicitDefEqProofs only[go_sem,Nat.reduceAdd,Nat.reduceSub,Nat.reduceMul,Nat.reduceLeDiff,Nat.reduceEqDiff,Nat.reduceGT,Nat.reduceBEq,reduceCtorEq,↓reduceIte,Int.reduceToNat,Int.reduceLE,Int.reduceLT,Int.reduceNe,Int.reduceEq];refine⟨fun hG hp=>hG hp.Sc,fun hG=>?_⟩;rw[zq e1 e2];refine aX [] c.nm.length [1,36,37,38] (fun a=>[(38,dI a)]) (fun _=>⟨(b.n,[.sl 1 false (az c.nm),dZ c.up,lA c.qu,jk c.gr])::S.box,S.acc⟩) (fun a=>HF c a) mx (by kernel_rfl) ?_ ?_
 ·simp(maxDischargeDepth:=12) (maxSteps:=1000000) -implicitDefEqProofs only[go_sem,Nat.reduceAdd,Nat.reduceSub,Nat.reduceMul,Nat.reduceLeDiff,Nat.reduceEqDiff,Nat.reduceGT,Nat.reduceBEq,reduceCtorEq,↓reduceIte,Int.reduceToNat,Int.reduceLE,Int.reduceLT,Int.reduceNe,Int.reduceEq];intro i hi;omega
 ·intro a ha hA;simp(maxDischargeDepth:=12) (maxSteps:=1000000) -implicitDefEqProofs only[go_sem,Nat.reduceAdd,Nat.reduceSub,Nat.reduceMul,Nat.reduceLeDiff,Nat.reduceEqDiff,Nat.reduceGT,Nat.reduceBEq,reduceCtorEq,↓reduceIte,Int.reduceToNat,Int.reduceLE,Int.reduceLT,Int.reduceNe,Int.reduceEq];refine⟨fun hla=>⟨hla,fun s hs=>?_⟩,fun hge=>?_⟩
  ·refine Exists.elim (KS e2 e1 hla) fun n hn=>?_;have hsl:=hc.Ux s (Xd hs);refine aw (Qy _ hk (tx s) (by rw[dQ];exact hsl) _) ?_;simp(maxDischargeDepth:=12) (maxSteps:=1000000) -implicitDefEqProofs only[go_sem,Nat.reduceAdd,Nat.reduceSub,Nat.reduceMul,Nat.reduceLeDiff,Nat.reduceEqDiff,Nat.reduceGT,Nat.reduceBEq,reduceCtorEq,↓reduceIte,Int.reduceToNat,Int.reduceLE,Int.reduceLT,Int.reduceNe,Int.reduceEq];refine⟨fun q hp=>q (hp.2.2 a hla s n hs hn).1,fun q=>⟨by omega,fun n' hn'=>?_⟩⟩;rw[hn]at hn';cases hn';refine aw (LG _ n _) ?_;simp(maxDischargeDepth:=12) (maxSteps:=1000000) -implicitDefEqProofs only[go_sem,Nat.reduceAdd,Nat.reduceSub,Nat.reduceMul,Nat.reduceLeDiff,Nat.reduceEqDiff,Nat.reduceGT,Nat.reduceBEq,reduceCtorEq,↓reduceIte,Int.reduceToNat,Int.reduceLE,Int.reduceLT,Int.reduceNe,Int.reduceEq];refine⟨fun q2 hp=>q2 (hp.2.2 a hla s n hs hn).2.1,fun q2=>⟨by omega,?_⟩⟩;refine aw (Ch _ (c.nm.take a) s (by rw[X3];omega) _) ?_;simp(maxDischargeDepth:=12) (maxSteps:=1000000) -implicitDefEqProofs only[go_sem,Nat.reduceAdd,Nat.reduceSub,Nat.reduceMul,Nat.reduceLeDiff,Nat.reduceEqDiff,Nat.reduceGT,Nat.reduceBEq,reduceCtorEq,↓reduceIte,Int.reduceToNat,Int.reduceLE,Int.reduceLT,Int.reduceNe,Int.reduceEq];have z1:s∈List.take a c.nm→¬(rb c.up∧JH c.up c.gr∧HF c c.nm.length):=fun q3 hp=>(hp.2.2 a hla s n hs hn).2.2 q3;have z2:¬s∈List.take a c.nm→HF c (a+1):=fun q3=>vA hA hs hn (Xs.1 q) (Xs.1 q2) q3;exact⟨z1,fun q3=>⟨hla,z2 q3,aH (show a<4611686018427387905 by omega)⟩⟩
  ·have e:a=c.nm.length:=by omega
   subst e;exact⟨Xs.1 hL,Xs.1 hG,hA⟩
theorem Eo(w0:W0)(c:Cf)(hc:yY c)(S:St):aa Tryz.prog w0 19 [OP c] S (fun d S'=>d=dB (pB (HV c))∧S'=S):=by
 have h1:=hc.TA;have h2:=hc.TJ;have h3:=hc.Sv;have h4:=hc.Pk;refine cb [] mx Tryz.func19 rfl rfl (by kernel_rfl) ?_;simp(maxDischargeDepth:=12) (maxSteps:=1000000) -implicitDefEqProofs only[Tryz.ntmps19,go_sem,Nat.reduceAdd,Nat.reduceSub,Nat.reduceMul,Nat.reduceLeDiff,Nat.reduceEqDiff,Nat.reduceGT,Nat.reduceBEq,reduceCtorEq,↓reduceIte,Int.reduceToNat,Int.reduceLE,Int.reduceLT,Int.reduceNe,Int.reduceEq];intro b;refine⟨fun h hp=>h hp.Iy,fun e1=>⟨fun h hp=>h (by rw[hp.Iy,hp.Ov]),fun e2=>?_⟩⟩;have e1:=Xs.1 e1;have e2:c.qu.length=c.up.length:=by rw[←Xs.1 e2,e1]
 refine aw (Tx _ c.up hc.EK (by omega) _) ?_;simp(maxDischargeDepth:=12) (maxSteps:=1000000) -implicitDefEqProofs only[go_sem,Nat.reduceAdd,Nat.reduceSub,Nat.reduceMul,Nat.reduceLeDiff,Nat.reduceEqDiff,Nat.reduceGT,Nat.reduceBEq,reduceCtorEq,↓reduceIte,Int.reduceToNat,Int.reduceLE,Int.reduceLT,Int.reduceNe,Int.reduceEq];refine⟨fun hL hp=>hL hp.PX,fun hL=>aw (V5 _ c.up hc.EK c.gr (by omega) _) ?_⟩;simp(maxDischargeDepth:=12) (maxSteps:=1000000) -implicitDefEqProofs only[go_sem,Nat.reduceAdd,Nat.reduceSub,Nat.reduceMul,Nat.reduceLeDiff,Nat.reduceEqDiff,Nat.reduceGT,Nat.reduceBEq,reduceCtorEq,↓reduceIte,Int.reduceToNat,Int.reduceLE,Int.reduceLT,Int.reduceNe,Int.reduceEq];refine⟨fun hG hp=>hG hp.Sc,fun hG=>?_⟩;rw[zq e1 e2];refine aX [] c.nm.length [1,3] (fun a=>[(3,dI a)]) (fun _=>⟨(b.n,[.sl 1 false (az c.nm),dZ c.up,lA c.qu,jk c.gr])::S.box,S.acc⟩) (fun a=>HF c a) mx (by kernel_rfl) ?_ ?_
 ·simp(maxDischargeDepth:=12) (maxSteps:=1000000) -implicitDefEqProofs only[go_sem,Nat.reduceAdd,Nat.reduceSub,Nat.reduceMul,Nat.reduceLeDiff,Nat.reduceEqDiff,Nat.reduceGT,Nat.reduceBEq,reduceCtorEq,↓reduceIte,Int.reduceToNat,Int.reduceLE,Int.reduceLT,Int.reduceNe,Int.reduceEq];intro i hi;omega
 ·intro a ha hA;simp(maxDischargeDepth:=12) (maxSteps:=1000000) -implicitDefEqProofs only[go_sem,Nat.reduceAdd,Nat.reduceSub,Nat.reduceMul,Nat.reduceLeDiff,Nat.reduceEqDiff,Nat.reduceGT,Nat.reduceBEq,reduceCtorEq,↓reduceIte,Int.reduceToNat,Int.reduceLE,Int.reduceLT,Int.reduceNe,Int.reduceEq];refine⟨fun hla=>⟨hla,fun s hs=>?_⟩,fun hge=>?_⟩
  ·refine Exists.elim (KS e2 e1 hla) fun n hn=>?_;have hsl:=hc.Ux s (Xd hs);refine aw (Ri _ (tx s) (by rw[dQ];exact hsl) _) ?_;simp(maxDischargeDepth:=12) (maxSteps:=1000000) -implicitDefEqProofs only[go_sem,Nat.reduceAdd,Nat.reduceSub,Nat.reduceMul,Nat.reduceLeDiff,Nat.reduceEqDiff,Nat.reduceGT,Nat.reduceBEq,reduceCtorEq,↓reduceIte,Int.reduceToNat,Int.reduceLE,Int.reduceLT,Int.reduceNe,Int.reduceEq];have K:=fun hp:rb c.up∧JH c.up c.gr∧HF c c.nm.length=>hp.2.2 a hla s n hs hn;refine⟨fun q hp=>q (K hp).1,fun q=>⟨by omega,fun n' hn'=>?_⟩⟩;obtain rfl:n=n':=XJ (hn.symm.trans hn');refine⟨fun q2 hp=>by have:=(K hp).2.1;omega,fun q2=>⟨by omega,fun n' hn'=>?_⟩⟩;obtain rfl:n=n':=XJ (hn.symm.trans hn');refine⟨fun q3 hp=>by have:=(K hp).2.1;omega,fun q3=>⟨by omega,by omega,fun s' hs'=>?_⟩⟩;obtain rfl:s=s':=XJ (hs.symm.trans hs');refine df (Pr _ (c.nm.take a) s (by rw[X3];omega) _) ?_;simp(maxDischargeDepth:=12) (maxSteps:=1000000) -implicitDefEqProofs only[go_sem,Nat.reduceAdd,Nat.reduceSub,Nat.reduceMul,Nat.reduceLeDiff,Nat.reduceEqDiff,Nat.reduceGT,Nat.reduceBEq,reduceCtorEq,↓reduceIte,Int.reduceToNat,Int.reduceLE,Int.reduceLT,Int.reduceNe,Int.reduceEq];have fn:=sw (l:=c.nm.take a) (s:=s);have z1:kF (List.take a c.nm) s≥0→¬(rb c.up∧JH c.up c.gr∧HF c c.nm.length):=fun q4 hp=>(K hp).2.2 (Xs.1 fun g=>by have:=fn.2 g;omega);have z2:¬kF (List.take a c.nm) s≥0→HF c (a+1):=fun q4=>vA hA hs hn (Xs.1 q) (by omega) (fn.1 (by omega));exact⟨z1,fun q4=>⟨hla,z2 q4,aH (show a<4611686018427387905 by omega)⟩⟩
  ·have e:a=c.nm.length:=by omega
   subst e;exact⟨Xs.1 hL,Xs.1 hG,hA⟩
end Go.Proofs.YtoepfmhnapedoaaGreatDoor
namespace Go.Proofs.YtoepfmhnapedoaaGreatDoor
open Aml Go Rn Lat Grs
structure bl where
 kind:Int
 level:Int
 aB:Int
 snap:Int
 bucket:List UInt8
 key:List UInt8
 value:List UInt8
 label:Int
 eX:Int
 n:Int
 bY:List (List UInt8)
@[go_sem] def bl.ds (o:bl):List DV:=[dI o.kind,dI o.level,dI o.aB,dI o.snap,dS (tx o.bucket),dS (tx o.key),dS (tx o.value),dI o.label,dI o.eX,dI o.n,.sl 1 false (az o.bY)]
@[go_sem] def HJ (o:bl):DV:= .agg [dI o.kind,dI o.level,dI o.aB,dI o.snap,dS (tx o.bucket),dS (tx o.key),dS (tx o.value),dI o.label,dI o.eX,dI o.n,.sl 1 false (az o.bY)]
def mj(w0:W0)(S:St)(e:Int):Prop:=∀T,Has S T→w0.pq (.ij 33 (dI e)) T
theorem aC(w0:W0)(b:Bool)(e:Int)(S:St)(hq:b=false→mj w0 S e):aa Tryz.prog w0 33 [dB b,dI e] S (fun d S'=>b=true∧d= .cK []∧S'=S):=by
 refine jj [] mx Tryz.func33 rfl rfl (by kernel_rfl) ?_;simp(maxDischargeDepth:=12) (maxSteps:=1000000) -implicitDefEqProofs only[Tryz.ntmps33,go_sem,Nat.reduceAdd,Nat.reduceSub,Nat.reduceMul,Nat.reduceLeDiff,Nat.reduceEqDiff,Nat.reduceGT,Nat.reduceBEq,reduceCtorEq,↓reduceIte,Int.reduceToNat,Int.reduceLE,Int.reduceLT,Int.reduceNe,Int.reduceEq];exact fun h=>hq h S (.refl S)
theorem KC(w0:W0)(s:List UInt8)(m:Int)(S:St):aa Tryz.prog w0 121 [dS (tx s),dI m] S (fun d S'=>d=dB (decide (s≠[]∧(s.length:Int)≤m))∧S'=S):=by
 refine cb [] mx Tryz.func121 rfl rfl (by kernel_rfl) ?_;simp(maxDischargeDepth:=12) (maxSteps:=1000000) -implicitDefEqProofs only[Tryz.ntmps121,go_sem,Nat.reduceAdd,Nat.reduceSub,Nat.reduceMul,Nat.reduceLeDiff,Nat.reduceEqDiff,Nat.reduceGT,Nat.reduceBEq,reduceCtorEq,↓reduceIte,Int.reduceToNat,Int.reduceLE,Int.reduceLT,Int.reduceNe,Int.reduceEq];rw[dQ];exact⟨fun h=>⟨fun q=>⟨h,q⟩,fun q=>q.2⟩,fun h q=>h q.1⟩
@[go_sem] def DK (c:Cf) (ls:List Nat) (t sn:Nat):List DV:=[.sl 1 false (az c.nm),dZ c.up,lA c.qu,jk c.gr,.sl 1 false (ls.map bg),bg t,.mp sn]
@[go_sem] def qY (m own:Nat) (o:bl) (full:Bool):List DV:=[bg m,dI o.kind,dI o.level,dI o.aB,dI o.snap,dS (tx o.bucket),dS (tx o.key),dS (tx o.value),dI o.label,dI o.eX,dI o.n,.sl 1 false (az o.bY),dB full,bg own]
@[go_sem] def lC (b:Nat) (au:DV) (has:Int) (dr:DV):List DV:=[.mp b,au,dI has,dr]
def wX(ls:List Nat)(x:Int):Option Nat:=if 0≤x then ls[x.toNat]? else none
theorem tu(w0:W0){S:St}{w m own:Nat}{o:bl}{full:Bool}{b:Nat}{au dr:DV}{has:Int}(hw:lk S.box w=some (qY m own o full))(hl:lk S.box own=some (lC b au has dr)):
 aa Tryz.prog w0 118 [bg w] S (fun d S'=>d=dB (decide (has=o.aB))∧S'=S):=by
 refine cb [] mx Tryz.func118 rfl rfl (by kernel_rfl) ?_;simp(maxDischargeDepth:=12) (maxSteps:=1000000) -implicitDefEqProofs only[Tryz.ntmps118,go_sem,Nat.reduceAdd,Nat.reduceSub,Nat.reduceMul,Nat.reduceLeDiff,Nat.reduceEqDiff,Nat.reduceGT,Nat.reduceBEq,reduceCtorEq,↓reduceIte,Int.reduceToNat,Int.reduceLE,Int.reduceLT,Int.reduceNe,Int.reduceEq,hw,hl]
theorem dG(w0:W0){S:St}{w m own:Nat}{o:bl}{full:Bool}(hw:lk S.box w=some (qY m own o full)):
 aa Tryz.prog w0 38 [bg w] S (fun d S'=>d=yS o.level o.aB∧S'=S):=by
 refine cb [] mx Tryz.func38 rfl rfl (by kernel_rfl) ?_;simp(maxDischargeDepth:=12) (maxSteps:=1000000) -implicitDefEqProofs only[Tryz.ntmps38,go_sem,Nat.reduceAdd,Nat.reduceSub,Nat.reduceMul,Nat.reduceLeDiff,Nat.reduceEqDiff,Nat.reduceGT,Nat.reduceBEq,reduceCtorEq,↓reduceIte,Int.reduceToNat,Int.reduceLE,Int.reduceLT,Int.reduceNe,Int.reduceEq,hw]
theorem mF(w0:W0){S:St}{w m own:Nat}{o:bl}{full:Bool}{c:Cf}{ls:List Nat}{t sn:Nat}(hw:lk S.box w=some (qY m own o full))(hm:lk S.box m=some (DK c ls t sn))(hu:dq c.up)(x:Int):
 aa Tryz.prog w0 131 [bg w,dI x] S (fun d S'=>d=dB (jl c.up x o.level)∧S'=S):=by
 refine cb [] mx Tryz.func131 rfl rfl (by kernel_rfl) ?_;simp(maxDischargeDepth:=12) (maxSteps:=1000000) -implicitDefEqProofs only[Tryz.ntmps131,go_sem,Nat.reduceAdd,Nat.reduceSub,Nat.reduceMul,Nat.reduceLeDiff,Nat.reduceEqDiff,Nat.reduceGT,Nat.reduceBEq,reduceCtorEq,↓reduceIte,Int.reduceToNat,Int.reduceLE,Int.reduceLT,Int.reduceNe,Int.reduceEq,hw,hm];refine df (sW _ c.up hu x o.level _) ?_;simp(maxDischargeDepth:=12) (maxSteps:=1000000) -implicitDefEqProofs only[go_sem,Nat.reduceAdd,Nat.reduceSub,Nat.reduceMul,Nat.reduceLeDiff,Nat.reduceEqDiff,Nat.reduceGT,Nat.reduceBEq,reduceCtorEq,↓reduceIte,Int.reduceToNat,Int.reduceLE,Int.reduceLT,Int.reduceNe,Int.reduceEq]
theorem ofM(w0:W0){S:St}{m:Nat}{c:Cf}{ls:List Nat}{t sn:Nat}(hm:lk S.box m=some (DK c ls t sn))(x:Int):
 aa Tryz.prog w0 51 [bg m,dI x] S (fun d S'=>d=uR (wX ls x)∧S'=S):=by
 refine cb [] mx Tryz.func51 rfl rfl (by kernel_rfl) ?_;simp(maxDischargeDepth:=12) (maxSteps:=1000000) -implicitDefEqProofs only[Tryz.ntmps51,go_sem,Nat.reduceAdd,Nat.reduceSub,Nat.reduceMul,Nat.reduceLeDiff,Nat.reduceEqDiff,Nat.reduceGT,Nat.reduceBEq,reduceCtorEq,↓reduceIte,Int.reduceToNat,Int.reduceLE,Int.reduceLT,Int.reduceNe,Int.reduceEq,hm];unfold wX;refine⟨fun h=>?_,fun h=>⟨fun h2=>?_,fun h2=>⟨by omega,by omega,fun a ha=>?_⟩⟩⟩
 ·rw[if_neg (by omega)];exact .refl _
 ·rw[if_pos (by omega),Xk (by omega)];exact .refl _
 ·rw[if_pos (by omega),ha];exact .refl _
theorem l7(w0:W0){S:St}{l N:Nat}{ids:List UInt8→Option Nat}{F:List UInt8→Option (List UInt8→Option (List UInt8))}(h:BM S l N ids F)(n:List UInt8)(hq:ids n=none→mj w0 S 32):
 aa Tryz.prog w0 122 [.mp l,dS (tx n)] S (fun d S'=>∃i,ids n=some i∧d= .mp i∧S'=S):=by
 obtain⟨es,c,h1,h2,h3⟩:=h.top;have h3:=h3 n;unfold kT at h3
 cases hi:ids n with
 |none=>
  rw[hi]at h3;refine jj [] mx Tryz.func122 rfl rfl (by kernel_rfl) ?_;simp(maxDischargeDepth:=12) (maxSteps:=1000000) -implicitDefEqProofs only[Tryz.ntmps122,go_sem,Nat.reduceAdd,Nat.reduceSub,Nat.reduceMul,Nat.reduceLeDiff,Nat.reduceEqDiff,Nat.reduceGT,Nat.reduceBEq,reduceCtorEq,↓reduceIte,Int.reduceToNat,Int.reduceLE,Int.reduceLT,Int.reduceNe,Int.reduceEq,h1,h3];refine aj (aC w0 false 32 _ fun _=>hq hi) ?_;rintro _ _ ⟨h,_⟩;cases h
 |some i=>
  rw[hi]at h3;refine jj [] mx Tryz.func122 rfl rfl (by kernel_rfl) ?_;simp(maxDischargeDepth:=12) (maxSteps:=1000000) -implicitDefEqProofs only[Tryz.ntmps122,go_sem,Nat.reduceAdd,Nat.reduceSub,Nat.reduceMul,Nat.reduceLeDiff,Nat.reduceEqDiff,Nat.reduceGT,Nat.reduceBEq,reduceCtorEq,↓reduceIte,Int.reduceToNat,Int.reduceLE,Int.reduceLT,Int.reduceNe,Int.reduceEq,h1,h3];refine aj (aC w0 true 32 _ fun h=>by cases h) ?_;rintro _ _ ⟨_,rfl,rfl⟩;simp(maxDischargeDepth:=12) (maxSteps:=1000000) -implicitDefEqProofs only[go_sem,Nat.reduceAdd,Nat.reduceSub,Nat.reduceMul,Nat.reduceLeDiff,Nat.reduceEqDiff,Nat.reduceGT,Nat.reduceBEq,reduceCtorEq,↓reduceIte,Int.reduceToNat,Int.reduceLE,Int.reduceLT,Int.reduceNe,Int.reduceEq];exact⟨i,rfl,rfl⟩
def Ge:List (List UInt8):=[[111,112,101,110],[99,108,111,115,101],[98,101,103,105,110],[99,111,109,109,105,116],[114,111,108,108,98,97,99,107],[109,97,107,101],[100,114,111,112],[112,117,116],[100,101,108,101,116,101],[103,101,116],[115,99,97,110],[115,110,97,112],[117,110,115,110,97,112],[99,111,117,110,116],[97,117,100,105,116],[100,101,99,108,97,115,115,105,102,121],[99,114,97,115,104]]
def HA(k:Int):List UInt8:=if 0≤k∧k<17 then Ge.getD k.toNat []else []
def uM:List Value:=Ge.map fun l=> .string (tx l)
def l8(w0:W0):Prop:=mQ w0 0 uM
theorem HM(k:Int)(h0:0≤k)(h1:k<17):uM[k.toNat]? =some (.string (tx (HA k))):=by
 unfold HA uM;have hk2:k.toNat<Ge.length:=by show k.toNat<17;omega
 rw[if_pos ⟨h0,h1⟩,Xi,Xb hk2,Xy,Xb hk2];rfl
theorem MV(k:Int)(h0:0≤k)(h1:k<17):uM.drop (k.toNat*1)= .string (tx (HA k))::uM.drop (k.toNat+1):=by
 obtain⟨h,e⟩:=Xc.1 (HM k h0 h1);rw[YU,List.drop_eq_getElem_cons h,e]
theorem MB(k:Int):HA k≠[]↔0≤k∧k<17:=by
 unfold HA;by_cases h:0≤k∧k<17
 ·rw[if_pos h];refine⟨fun _=>h,fun _=>?_⟩;have key:∀i:Fin 17,Ge.getD i.val []≠[]:=by decide
  exact key ⟨k.toNat,by omega⟩
 ·rw[if_neg h];exact⟨fun q=>absurd rfl q,fun q=>absurd q h⟩
theorem Nb(w0:W0)(hg:l8 w0)(k:Int)(S:St):aa Tryz.prog w0 66 [dI k] S (fun d S'=>d=dS (tx (HA k))∧S'=S):=by
 have hG:=pA hg;refine cb [] mx Tryz.func66 rfl rfl (by kernel_rfl) ?_;simp(maxDischargeDepth:=12) (maxSteps:=1000000) -implicitDefEqProofs only[Tryz.ntmps66,go_sem,Nat.reduceAdd,Nat.reduceSub,Nat.reduceMul,Nat.reduceLeDiff,Nat.reduceEqDiff,Nat.reduceGT,Nat.reduceBEq,reduceCtorEq,↓reduceIte,Int.reduceToNat,Int.reduceLE,Int.reduceLT,Int.reduceNe,Int.reduceEq,hG];have e0:∀h:¬(0≤k∧k<17),tx (HA k)=⟨#[]⟩:=by intro h;unfold HA;rw[if_neg h];rfl
 refine⟨fun h=>?_,fun h=>⟨fun h2=>?_,fun h2=>?_⟩⟩
 ·rw[e0 (by omega)]
 ·rw[e0 (by omega)]
 ·have hl:uM.length=17:=rfl;refine⟨by omega,by omega,by omega,?_⟩;rw[MV k (by omega) (by omega)];simp(maxDischargeDepth:=12) (maxSteps:=1000000) -implicitDefEqProofs only[go_sem,Nat.reduceAdd,Nat.reduceSub,Nat.reduceMul,Nat.reduceLeDiff,Nat.reduceEqDiff,Nat.reduceGT,Nat.reduceBEq,reduceCtorEq,↓reduceIte,Int.reduceToNat,Int.reduceLE,Int.reduceLT,Int.reduceNe,Int.reduceEq]
def uo(n:Int)(o:bl):Bool:=decide ((0≤o.kind∧o.kind<17)∧(o.kind=16∨(0≤o.level∧o.level<n)))
theorem BI(n:Int)(o:bl):(¬HA o.kind=[]→(o.kind=16→true=uo n o)∧(¬o.kind=16→(o.level≥0→decide (o.level<n)=uo n o)∧(¬o.level≥0→false=uo n o)))∧(¬¬HA o.kind=[]→false=uo n o):=by
 unfold uo;have h:=MB o.kind;refine⟨fun h1=>⟨fun h2=>?_,fun h2=>⟨fun h3=>?_,fun h3=>?_⟩⟩,fun h1=>?_⟩
 ·have:=h.1 h1;exact(decide_eq_true ⟨this,.inl h2⟩).symm
 ·have:=h.1 h1;exact decide_eq_decide.2 ⟨fun q=>⟨this,.inr ⟨h3,q⟩⟩,fun q=>q.2.elim (fun e=>absurd e h2) fun e=>e.2⟩
 ·exact(decide_eq_false fun q=>q.2.elim (fun e=>h2 e) fun e=>h3 e.1).symm
 ·exact(decide_eq_false fun q=>h1 fun e=>(h.2 q.1) e).symm
theorem NK(w0:W0)(hg:l8 w0)(n:Int)(o:bl)(S:St):aa Tryz.prog w0 34 [dI n,HJ o] S (fun d S'=>d=dB (uo n o)∧S'=S):=by
 refine cb [] mx Tryz.func34 rfl rfl (by kernel_rfl) ?_;simp(maxDischargeDepth:=12) (maxSteps:=1000000) -implicitDefEqProofs only[Tryz.ntmps34,go_sem,Nat.reduceAdd,Nat.reduceSub,Nat.reduceMul,Nat.reduceLeDiff,Nat.reduceEqDiff,Nat.reduceGT,Nat.reduceBEq,reduceCtorEq,↓reduceIte,Int.reduceToNat,Int.reduceLE,Int.reduceLT,Int.reduceNe,Int.reduceEq];intro b;refine aw (Nb _ hg o.kind _) ?_;simp(maxDischargeDepth:=12) (maxSteps:=1000000) -implicitDefEqProofs only[go_sem,Nat.reduceAdd,Nat.reduceSub,Nat.reduceMul,Nat.reduceLeDiff,Nat.reduceEqDiff,Nat.reduceGT,Nat.reduceBEq,reduceCtorEq,↓reduceIte,Int.reduceToNat,Int.reduceLE,Int.reduceLT,Int.reduceNe,Int.reduceEq];exact BI n o
def Sx(k:Int):Bool:=decide (5≤k∧k≤8)
theorem Jz(w0:W0)(k:Int)(S:St):aa Tryz.prog w0 24 [dI k] S (fun d S'=>d=dB (Sx k)∧S'=S):=by
 refine cb [] mx Tryz.func24 rfl rfl (by kernel_rfl) ?_;simp(maxDischargeDepth:=12) (maxSteps:=1000000) -implicitDefEqProofs only[Tryz.ntmps24,go_sem,Nat.reduceAdd,Nat.reduceSub,Nat.reduceMul,Nat.reduceLeDiff,Nat.reduceEqDiff,Nat.reduceGT,Nat.reduceBEq,reduceCtorEq,↓reduceIte,Int.reduceToNat,Int.reduceLE,Int.reduceLT,Int.reduceNe,Int.reduceEq];unfold Sx;refine⟨fun h=>?_,fun h=>⟨fun h2=>?_,fun h2=>⟨fun h3=>?_,fun h3=>?_⟩⟩⟩
 ·exact(decide_eq_true (by omega)).symm
 ·exact(decide_eq_true (by omega)).symm
 ·exact(decide_eq_true (by omega)).symm
 ·exact decide_eq_decide.2 (by omega)
end Go.Proofs.YtoepfmhnapedoaaGreatDoor
namespace Go.Proofs.YtoepfmhnapedoaaGreatDoor
open Aml Go Rn Lat Grs
end Go.Proofs.YtoepfmhnapedoaaGreatDoor
namespace Go.Proofs.YtoepfmhnapedoaaGreatDoor
open Aml Go Rn Lat Grs
structure hY where
 key:List UInt8
 uw:Int
 val:List UInt8
@[go_sem] def pQ (r:hY):DV:= .agg [dS (tx r.key),dI r.uw,dS (tx r.val)]
noncomputable def iE(x:Int)(n:List UInt8)(f:List UInt8→Option (List UInt8)):List hY:=(cO f).map fun k=>⟨n++[47]++k,x,(f k).getD []⟩
noncomputable def lx(x:Int)(F:List UInt8→Option (List UInt8→Option (List UInt8))):List hY:=(cO F).flatMap fun n=>iE x n ((F n).getD fun _=>none)
noncomputable def lS(x:Int)(F:List UInt8→Option (List UInt8→Option (List UInt8)))(i:Nat):List hY:=((cO F).take i).flatMap fun n=>iE x n ((F n).getD fun _=>none)
theorem CN(x:Int){F:List UInt8→Option (List UInt8→Option (List UInt8))}{i:Nat}{n:List UInt8}(h:(cO F)[i]? =some n):lS x F (i+1)=lS x F i++iE x n ((F n).getD fun _=>none):=by
 unfold lS;rw[X8,h,List.flatMap_append];simp
theorem xe{α:Type}{l:List α}{i:Nat}{x:α}(h:l[i]? =some x):l.take (i+1)=l.take i++[x]:=by rw[X8,h];rfl
theorem oI{α:Type}{f:List UInt8→Option α}{k:List UInt8}(h:k∈cO f):f k≠none:=by
 unfold cO at h;split at h
 ·rename_i hx;have:=(List.mergeSort_perm _ _).mem_iff.1 h;exact(hx.choose_spec.2 k).1 this
 ·cases h
theorem Ph{S:St}{l N:Nat}{ids:List UInt8→Option Nat}{F:List UInt8→Option (List UInt8→Option (List UInt8))}(h:BM S l N ids F){i:Nat}{n:List UInt8}(hx:(cO F)[i]? =some n):∃id f,ids n=some id∧F n=some f:=by
 have h1:=oI (Xd hx);obtain⟨f,hf⟩:=XH.1 h1;obtain⟨id,hi⟩:=XH.1 (fun q=>h1 ((h.some_ n).1 q));exact⟨id,f,hi,hf⟩
theorem G9(w0:W0){S:St}{m:Nat}{c:Cf}{ls:List Nat}{t sn:Nat}(hm:lk S.box m=some (DK c ls t sn))(x:Int){b lb:Nat}{au dr:DV}{has:Int}(hx:wX ls x=some b)(hl:lk S.box b=some (lC lb au has dr))
 {N:Nat} {ids:List UInt8→Option Nat} {F:List UInt8→Option (List UInt8→Option (List UInt8))} (h:BM S lb N ids F) (hN:N≤10000) (hz:∀n f k v,F n=some f→f k=some v→n.length≤1000∧k.length≤1000):
 aa Tryz.prog w0 17 [bg m,dI x] S (fun d S'=>d= .sl 3 false ((lx x F).map pQ)∧S'=S):=by
 refine cb [] mx Tryz.func17 rfl rfl (by kernel_rfl) ?_;simp(maxDischargeDepth:=12) (maxSteps:=1000000) -implicitDefEqProofs only[Tryz.ntmps17,go_sem,Nat.reduceAdd,Nat.reduceSub,Nat.reduceMul,Nat.reduceLeDiff,Nat.reduceEqDiff,Nat.reduceGT,Nat.reduceBEq,reduceCtorEq,↓reduceIte,Int.reduceToNat,Int.reduceLE,Int.reduceLT,Int.reduceNe,Int.reduceEq];refine aw (ofM w0 hm x) ?_;rw[hx];unfold uR;simp(maxDischargeDepth:=12) (maxSteps:=1000000) -implicitDefEqProofs only[go_sem,Nat.reduceAdd,Nat.reduceSub,Nat.reduceMul,Nat.reduceLeDiff,Nat.reduceEqDiff,Nat.reduceGT,Nat.reduceBEq,reduceCtorEq,↓reduceIte,Int.reduceToNat,Int.reduceLE,Int.reduceLT,Int.reduceNe,Int.reduceEq,hl];refine aj (Jt w0 S) ?_;rintro _ _ ⟨bk,rfl,rfl⟩;simp(maxDischargeDepth:=12) (maxSteps:=1000000) -implicitDefEqProofs only[go_sem,Nat.reduceAdd,Nat.reduceSub,Nat.reduceMul,Nat.reduceLeDiff,Nat.reduceEqDiff,Nat.reduceGT,Nat.reduceBEq,reduceCtorEq,↓reduceIte,Int.reduceToNat,Int.reduceLE,Int.reduceLT,Int.reduceNe,Int.reduceEq];have h':BM ⟨(bk.n,[.mp lb])::S.box,S.acc⟩ lb N ids F:=h.mono fun c x _ hc=>hc;refine aj (MR w0 (b:=bk.n) (by simp[lk]) h' (by omega)) ?_;rintro _ _ ⟨r,rfl,hkl,rfl⟩;simp(maxDischargeDepth:=12) (maxSteps:=1000000) -implicitDefEqProofs only[go_sem,Nat.reduceAdd,Nat.reduceSub,Nat.reduceMul,Nat.reduceLeDiff,Nat.reduceEqDiff,Nat.reduceGT,Nat.reduceBEq,reduceCtorEq,↓reduceIte,Int.reduceToNat,Int.reduceLE,Int.reduceLT,Int.reduceNe,Int.reduceEq];refine nJ 6 3 rfl (by omega) fun ln=>?_;have hlr:=av ln r.n (by simp(maxDischargeDepth:=12) (maxSteps:=1000000) -implicitDefEqProofs only[go_sem,Nat.reduceAdd,Nat.reduceSub,Nat.reduceMul,Nat.reduceLeDiff,Nat.reduceEqDiff,Nat.reduceGT,Nat.reduceBEq,reduceCtorEq,↓reduceIte,Int.reduceToNat,Int.reduceLE,Int.reduceLT,Int.reduceNe,Int.reduceEq]);obtain⟨es,c1,h1,h2,h3⟩:=h.top;have hr1:(r.n=ln.n)=False:=by rw[←hlr];exact propext eq_comm
 refine aX [] (cO F).length [1,5,6,21,22,23] (fun i=>[(6,.acc ln.n (lS x F i).length),(21,.acc r.n (cO F).length),(22,dI (cO F).length),(23,dI i)]) (fun i=>⟨(bk.n,[.mp lb])::S.box,(ln.n,.arr 3 ((lS x F i).map pQ))::(r.n,.arr 1 ((cO F).map eJ))::S.acc⟩) (fun i=>(lS x F i).length≤i*N) mx (by kernel_rfl) ?_ ?_
 ·have e0:lS x F 0=[]:=rfl;simp(maxDischargeDepth:=12) (maxSteps:=1000000) -implicitDefEqProofs only[go_sem,Nat.reduceAdd,Nat.reduceSub,Nat.reduceMul,Nat.reduceLeDiff,Nat.reduceEqDiff,Nat.reduceGT,Nat.reduceBEq,reduceCtorEq,↓reduceIte,Int.reduceToNat,Int.reduceLE,Int.reduceLT,Int.reduceNe,Int.reduceEq];rw[e0];exact⟨by simp,.refl _,.refl _⟩
 ·intro i hi hen;by_cases hil:i<(cO F).length
  ·have e1:IntKind.i64.wrap ((i:Int)+1)=((i+1:Nat):Int):=aH (by omega);have hx:(cO F)[i]? =some (cO F)[i]:=Xb hil;have hks:=CN x hx;generalize (cO F)[i]=n at hx hks;obtain⟨id,f,g1,g2⟩:=Ph h hx;have h3n:=h3 n;rw[g1]at h3n;unfold kT at h3n;have hlrr:((cO F).map eJ)[i]? =some (eJ n):=by rw[Xi,hx];rfl
   have hiN:i*N≤10000*10000:=Nat.mul_le_mul (by omega) hN;have hrS:lk S.acc r.n=none:=ak r
   have hlS:lk S.acc ln.n=none:=by
    have q:=ak ln;simp only[lk]at q;rw[if_neg (fun e=>by rw[hr1]at e;exact e)]at q;exact q
   obtain⟨esi,ci,i1,i2,i3⟩:=h.low n id f g1 g2;have hr2:(r.n=id)=False:=eq_false fun e=>by rw[e,i1]at hrS;cases hrS
   have hl2:(ln.n=id)=False:=eq_false fun e=>by rw[e,i1]at hlS;cases hlS
   have hr3:(r.n=lb)=False:=eq_false fun e=>by rw[e,h1]at hrS;cases hrS
   have hl3:(ln.n=lb)=False:=eq_false fun e=>by rw[e,h1]at hlS;cases hlS
   have hke:(F n).getD (fun _=>none)=f:=by rw[g2];rfl
   rw[hke]at hks;simp(maxDischargeDepth:=12) (maxSteps:=1000000) -implicitDefEqProofs only[go_sem,Nat.reduceAdd,Nat.reduceSub,Nat.reduceMul,Nat.reduceLeDiff,Nat.reduceEqDiff,Nat.reduceGT,Nat.reduceBEq,reduceCtorEq,↓reduceIte,Int.reduceToNat,Int.reduceLE,Int.reduceLT,Int.reduceNe,Int.reduceEq,hx,e1,hr1,hlr,hl,h1,h3n];refine⟨fun _=>⟨hil,hil,?_⟩,fun h=>absurd hil h⟩;refine aj (zt w0 _) ?_;rintro _ _ ⟨b2,rfl,rfl⟩;simp(maxDischargeDepth:=12) (maxSteps:=1000000) -implicitDefEqProofs only[go_sem,Nat.reduceAdd,Nat.reduceSub,Nat.reduceMul,Nat.reduceLeDiff,Nat.reduceEqDiff,Nat.reduceGT,Nat.reduceBEq,reduceCtorEq,↓reduceIte,Int.reduceToNat,Int.reduceLE,Int.reduceLT,Int.reduceNe,Int.reduceEq];have hIM:IM ⟨(b2.n,[.mp id])::(bk.n,[.mp lb])::S.box,(ln.n,.arr 3 ((lS x F i).map pQ))::(r.n,.arr 1 ((cO F).map eJ))::S.acc⟩ id N f:=⟨esi,ci,by simp(maxDischargeDepth:=12) (maxSteps:=1000000) -implicitDefEqProofs only[go_sem,Nat.reduceAdd,Nat.reduceSub,Nat.reduceMul,Nat.reduceLeDiff,Nat.reduceEqDiff,Nat.reduceGT,Nat.reduceBEq,reduceCtorEq,↓reduceIte,Int.reduceToNat,Int.reduceLE,Int.reduceLT,Int.reduceNe,Int.reduceEq,hr2,hl2,i1],i2,i3⟩;refine aj (G3 w0 (b:=b2.n) (by simp[lk]) hIM (by omega)) ?_;rintro _ _ ⟨r2,rfl,hkf,rfl⟩;simp(maxDischargeDepth:=12) (maxSteps:=1000000) -implicitDefEqProofs only[go_sem,Nat.reduceAdd,Nat.reduceSub,Nat.reduceMul,Nat.reduceLeDiff,Nat.reduceEqDiff,Nat.reduceGT,Nat.reduceBEq,reduceCtorEq,↓reduceIte,Int.reduceToNat,Int.reduceLE,Int.reduceLT,Int.reduceNe,Int.reduceEq];have hil2:(iE x n f).length=(cO f).length:=by unfold iE;simp
   have r2l:(r2.n=ln.n)=False:=av r2 ln.n (by simp(maxDischargeDepth:=12) (maxSteps:=1000000) -implicitDefEqProofs only[go_sem,Nat.reduceAdd,Nat.reduceSub,Nat.reduceMul,Nat.reduceLeDiff,Nat.reduceEqDiff,Nat.reduceGT,Nat.reduceBEq,reduceCtorEq,↓reduceIte,Int.reduceToNat,Int.reduceLE,Int.reduceLT,Int.reduceNe,Int.reduceEq]);have r2r:(r2.n=r.n)=False:=av r2 r.n (by simp(maxDischargeDepth:=12) (maxSteps:=1000000) -implicitDefEqProofs only[go_sem,Nat.reduceAdd,Nat.reduceSub,Nat.reduceMul,Nat.reduceLeDiff,Nat.reduceEqDiff,Nat.reduceGT,Nat.reduceBEq,reduceCtorEq,↓reduceIte,Int.reduceToNat,Int.reduceLE,Int.reduceLT,Int.reduceNe,Int.reduceEq,hlr]);have r2l':(ln.n=r2.n)=False:=by rw[←r2l];exact propext eq_comm
   have r2r':(r.n=r2.n)=False:=by rw[←r2r];exact propext eq_comm
   have hr2S:lk S.acc r2.n=none:=by
    have q:=ak r2;simp only[lk]at q;rw[if_neg (fun e=>by rw[r2l']at e;exact e),if_neg (fun e=>by rw[r2r']at e;exact e)]at q;exact q
   have q2:(r2.n=id)=False:=eq_false fun e=>by rw[e,i1]at hr2S;cases hr2S
   have q3:(r2.n=lb)=False:=eq_false fun e=>by rw[e,h1]at hr2S;cases hr2S
   refine aX [] (cO f).length [1,5,6,8,21,22,23,34,35,36] (fun j=>[(6,.acc ln.n (lS x F i++(iE x n f).take j).length),(34,.acc r2.n (cO f).length),(35,dI (cO f).length),(36,dI j)]) (fun j=>⟨(b2.n,[.mp id])::(bk.n,[.mp lb])::S.box,(r2.n,.arr 1 ((cO f).map eJ))::(ln.n,.arr 3 ((lS x F i++(iE x n f).take j).map pQ))::(r.n,.arr 1 ((cO F).map eJ))::S.acc⟩) (fun _=>True) mx (by kernel_rfl) ?_ ?_
   ·simp(maxDischargeDepth:=12) (maxSteps:=1000000) -implicitDefEqProofs only[go_sem,Nat.reduceAdd,Nat.reduceSub,Nat.reduceMul,Nat.reduceLeDiff,Nat.reduceEqDiff,Nat.reduceGT,Nat.reduceBEq,reduceCtorEq,↓reduceIte,Int.reduceToNat,Int.reduceLE,Int.reduceLT,Int.reduceNe,Int.reduceEq,r2l,r2r,r2l',r2r']
   ·intro j hj _;by_cases hjl:j<(cO f).length
    ·have e2:IntKind.i64.wrap ((j:Int)+1)=((j+1:Nat):Int):=aH (by omega);have hy:(cO f)[j]? =some (cO f)[j]:=Xb hjl;generalize (cO f)[j]=k at hy;obtain⟨v,hv⟩:=XH.1 (oI (Xd hy));have i3k:=i3 k;rw[hv]at i3k;unfold kT at i3k;obtain⟨z1,z2⟩:=hz n f k v g2 hv;have het:(iE x n f)[j]? =some ⟨n++[47]++k,x,v⟩:=by unfold iE;rw[Xi,hy,XG,hv];rfl
     have hts:=xe het;have hLn:(lS x F i++(iE x n f).take j).length≤100010000:=by rw[Xp,X3];omega
     have hcat:tx n++⟨#[47]⟩++tx k=tx (n++[47]++k):=by
      refine Fu ?_;have h2:(⟨#[47]⟩:ByteArray).data.toList=[47]:=rfl;simp only[D4,dJ,h2]
     have hm8:maxLen=9223372036854775807:=rfl;simp(maxDischargeDepth:=12) (maxSteps:=1000000) -implicitDefEqProofs only[go_sem,Nat.reduceAdd,Nat.reduceSub,Nat.reduceMul,Nat.reduceLeDiff,Nat.reduceEqDiff,Nat.reduceGT,Nat.reduceBEq,reduceCtorEq,↓reduceIte,Int.reduceToNat,Int.reduceLE,Int.reduceLT,Int.reduceNe,Int.reduceEq,hy,e2,r2l,r2r,r2l',r2r',hl,h1,h3n,hr2,hl2,hr3,hl3,q2,q3,i1,i3k,dQ,hcat];have hmin:min j (iE x n f).length=j:=by omega
     have hmin':min (j+1) (iE x n f).length=j+1:=by omega
     rw[hmin,hmin'];refine⟨fun _=>⟨hjl,hjl,by omega,by omega,by omega,by omega,hjl,.refl _,?_⟩,fun h=>absurd hjl h⟩;rw[hts,←YR,XB (l₁:=lS x F i++(iE x n f).take j)];exact .refl _
    ·have hjt:(iE x n f).take j=iE x n f:=XL (by omega);rw[hjt,←hks];simp(maxDischargeDepth:=12) (maxSteps:=1000000) -implicitDefEqProofs only[go_sem,Nat.reduceAdd,Nat.reduceSub,Nat.reduceMul,Nat.reduceLeDiff,Nat.reduceEqDiff,Nat.reduceGT,Nat.reduceBEq,reduceCtorEq,↓reduceIte,Int.reduceToNat,Int.reduceLE,Int.reduceLT,Int.reduceNe,Int.reduceEq,e1,r2l,r2r,r2l',r2r'];refine⟨fun h=>absurd h hjl,fun _=>⟨hil,?_⟩⟩;rw[hks,Xp,hil2,X9];omega
  ·have hie:lS x F i=lx x F:=by unfold lS lx;rw[XL (by omega)]
   simp(maxDischargeDepth:=12) (maxSteps:=1000000) -implicitDefEqProofs only[go_sem,Nat.reduceAdd,Nat.reduceSub,Nat.reduceMul,Nat.reduceLeDiff,Nat.reduceEqDiff,Nat.reduceGT,Nat.reduceBEq,reduceCtorEq,↓reduceIte,Int.reduceToNat,Int.reduceLE,Int.reduceLT,Int.reduceNe,Int.reduceEq,hr1,hlr];refine⟨fun h=>absurd h hil,fun _=>?_⟩;rw[hie];exact .refl _
@[go_sem] def HH:DV:= .agg [dI 0,dI 0,.sl 0 true [],dI 0,dI 0,dI 0,dI 0,.sl 0 true []]
theorem Ni{A B C:St}(h:Has A B)(k:Has B C):Has A C:=⟨fun c x q=>k.box c x (h.box c x q),fun c x q=>k.acc c x (h.acc c x q)⟩
theorem mj.to{w0:W0}{S T:St}{e:Int}(h:mj w0 S e)(k:Has S T):mj w0 T e:=fun U q=>h U (Ni k q)
theorem Cd(w0:W0){S:St}{w m own b:Nat}{o:bl}{full:Bool}{au dr:DV}{has:Int}(hw:lk S.box w=some (qY m own o full))(hl:lk S.box own=some (lC b au has dr))(hq:has≠o.aB→mj w0 S 35):
 aa Tryz.prog w0 72 [bg w] S (fun d S'=>has=o.aB∧d=HH∧S'=⟨up S.box own (lC b au 0 dr),S.acc⟩):=by
 refine mi [] mx Tryz.func72 rfl rfl (by kernel_rfl) ?_;simp(maxDischargeDepth:=12) (maxSteps:=1000000) -implicitDefEqProofs only[Tryz.ntmps72,go_sem,Nat.reduceAdd,Nat.reduceSub,Nat.reduceMul,Nat.reduceLeDiff,Nat.reduceEqDiff,Nat.reduceGT,Nat.reduceBEq,reduceCtorEq,↓reduceIte,Int.reduceToNat,Int.reduceLE,Int.reduceLT,Int.reduceNe,Int.reduceEq];intro b2;have e1:=bu b2 hw;have e2:=bu b2 hl;have hH:∀ds,Has S ⟨(b2.n,ds)::S.box,S.acc⟩:=fun ds=>(Has.refl S).aP b2 ds rfl;refine aj (tu w0 (w:=w) (own:=own) (m:=m) (o:=o) (full:=full) (b:=b) (au:=au) (dr:=dr) (has:=has) (by simp(maxDischargeDepth:=12) (maxSteps:=1000000) -implicitDefEqProofs only[go_sem,Nat.reduceAdd,Nat.reduceSub,Nat.reduceMul,Nat.reduceLeDiff,Nat.reduceEqDiff,Nat.reduceGT,Nat.reduceBEq,reduceCtorEq,↓reduceIte,Int.reduceToNat,Int.reduceLE,Int.reduceLT,Int.reduceNe,Int.reduceEq,e1,hw]) (by simp(maxDischargeDepth:=12) (maxSteps:=1000000) -implicitDefEqProofs only[go_sem,Nat.reduceAdd,Nat.reduceSub,Nat.reduceMul,Nat.reduceLeDiff,Nat.reduceEqDiff,Nat.reduceGT,Nat.reduceBEq,reduceCtorEq,↓reduceIte,Int.reduceToNat,Int.reduceLE,Int.reduceLT,Int.reduceNe,Int.reduceEq,e2,hl])) ?_;rintro _ _ ⟨rfl,rfl⟩;by_cases hh:has=o.aB
 ·rw[decide_eq_true hh];simp(maxDischargeDepth:=12) (maxSteps:=1000000) -implicitDefEqProofs only[go_sem,Nat.reduceAdd,Nat.reduceSub,Nat.reduceMul,Nat.reduceLeDiff,Nat.reduceEqDiff,Nat.reduceGT,Nat.reduceBEq,reduceCtorEq,↓reduceIte,Int.reduceToNat,Int.reduceLE,Int.reduceLT,Int.reduceNe,Int.reduceEq];refine aj (aC w0 true 35 _ (fun h=>by cases h)) ?_;rintro _ _ ⟨_,rfl,rfl⟩;simp(maxDischargeDepth:=12) (maxSteps:=1000000) -implicitDefEqProofs only[go_sem,Nat.reduceAdd,Nat.reduceSub,Nat.reduceMul,Nat.reduceLeDiff,Nat.reduceEqDiff,Nat.reduceGT,Nat.reduceBEq,reduceCtorEq,↓reduceIte,Int.reduceToNat,Int.reduceLE,Int.reduceLT,Int.reduceNe,Int.reduceEq,e1,e2,hw,hl];exact⟨_,_,.refl _,(Sub.refl _).aP,hh,rfl,rfl⟩
 ·rw[decide_eq_false hh];simp(maxDischargeDepth:=12) (maxSteps:=1000000) -implicitDefEqProofs only[go_sem,Nat.reduceAdd,Nat.reduceSub,Nat.reduceMul,Nat.reduceLeDiff,Nat.reduceEqDiff,Nat.reduceGT,Nat.reduceBEq,reduceCtorEq,↓reduceIte,Int.reduceToNat,Int.reduceLE,Int.reduceLT,Int.reduceNe,Int.reduceEq];refine aj (aC w0 false 35 _ (fun _=>(hq hh).to (hH _))) ?_;rintro _ _ ⟨q,_⟩;cases q
theorem JK(w0:W0){S:St}{w m own b d:Nat}{o:bl}{full:Bool}{au dr:DV}{has:Int}(hw:lk S.box w=some (qY m own o full))(hl:lk S.box own=some (lC b au has dr))(hdr:has=o.aB→dr= .mp d)(hne:(own=w)=False)(hq:has≠o.aB→mj w0 S 35):
 aa Tryz.prog w0 71 [bg w] S (fun d' S'=>has=o.aB∧d'=HH∧S'=⟨up S.box own (lC d au 0 (.mp d)),S.acc⟩):=by
 refine mi [] mx Tryz.func71 rfl rfl (by kernel_rfl) ?_;simp(maxDischargeDepth:=12) (maxSteps:=1000000) -implicitDefEqProofs only[Tryz.ntmps71,go_sem,Nat.reduceAdd,Nat.reduceSub,Nat.reduceMul,Nat.reduceLeDiff,Nat.reduceEqDiff,Nat.reduceGT,Nat.reduceBEq,reduceCtorEq,↓reduceIte,Int.reduceToNat,Int.reduceLE,Int.reduceLT,Int.reduceNe,Int.reduceEq];intro b2;have e1:=bu b2 hw;have e2:=bu b2 hl;have hH:∀ds,Has S ⟨(b2.n,ds)::S.box,S.acc⟩:=fun ds=>(Has.refl S).aP b2 ds rfl;refine aj (tu w0 (w:=w) (own:=own) (m:=m) (o:=o) (full:=full) (b:=b) (au:=au) (dr:=dr) (has:=has) (by simp(maxDischargeDepth:=12) (maxSteps:=1000000) -implicitDefEqProofs only[go_sem,Nat.reduceAdd,Nat.reduceSub,Nat.reduceMul,Nat.reduceLeDiff,Nat.reduceEqDiff,Nat.reduceGT,Nat.reduceBEq,reduceCtorEq,↓reduceIte,Int.reduceToNat,Int.reduceLE,Int.reduceLT,Int.reduceNe,Int.reduceEq,e1,hw]) (by simp(maxDischargeDepth:=12) (maxSteps:=1000000) -implicitDefEqProofs only[go_sem,Nat.reduceAdd,Nat.reduceSub,Nat.reduceMul,Nat.reduceLeDiff,Nat.reduceEqDiff,Nat.reduceGT,Nat.reduceBEq,reduceCtorEq,↓reduceIte,Int.reduceToNat,Int.reduceLE,Int.reduceLT,Int.reduceNe,Int.reduceEq,e2,hl])) ?_;rintro _ _ ⟨rfl,rfl⟩;by_cases hh:has=o.aB
 ·cases hdr hh;rw[decide_eq_true hh];simp(maxDischargeDepth:=12) (maxSteps:=1000000) -implicitDefEqProofs only[go_sem,Nat.reduceAdd,Nat.reduceSub,Nat.reduceMul,Nat.reduceLeDiff,Nat.reduceEqDiff,Nat.reduceGT,Nat.reduceBEq,reduceCtorEq,↓reduceIte,Int.reduceToNat,Int.reduceLE,Int.reduceLT,Int.reduceNe,Int.reduceEq];refine aj (aC w0 true 35 _ (fun h=>by cases h)) ?_;rintro _ _ ⟨_,rfl,rfl⟩;simp(maxDischargeDepth:=12) (maxSteps:=1000000) -implicitDefEqProofs only[go_sem,Nat.reduceAdd,Nat.reduceSub,Nat.reduceMul,Nat.reduceLeDiff,Nat.reduceEqDiff,Nat.reduceGT,Nat.reduceBEq,reduceCtorEq,↓reduceIte,Int.reduceToNat,Int.reduceLE,Int.reduceLT,Int.reduceNe,Int.reduceEq,e1,e2,hw,hl,hne];exact⟨_,_,.refl _,(Sub.refl _).aP,hh,rfl,rfl⟩
 ·rw[decide_eq_false hh];simp(maxDischargeDepth:=12) (maxSteps:=1000000) -implicitDefEqProofs only[go_sem,Nat.reduceAdd,Nat.reduceSub,Nat.reduceMul,Nat.reduceLeDiff,Nat.reduceEqDiff,Nat.reduceGT,Nat.reduceBEq,reduceCtorEq,↓reduceIte,Int.reduceToNat,Int.reduceLE,Int.reduceLT,Int.reduceNe,Int.reduceEq];refine aj (aC w0 false 35 _ (fun _=>(hq hh).to (hH _))) ?_;rintro _ _ ⟨q,_⟩;cases q
theorem Qe(w0:W0){S:St}{w m own b d N:Nat}{o:bl}{full:Bool}{au dr:DV}{has:Int}{ids:List UInt8→Option Nat}{F:List UInt8→Option (List UInt8→Option (List UInt8))}(hw:lk S.box w=some (qY m own o full))(hl:lk S.box own=some (lC b au has dr))(hdr:has=o.aB→dr= .mp d∧BM S d N ids F)
 (q1:has≠o.aB→mj w0 S 35) (q2:has=o.aB→¬(o.key≠[]∧(o.key.length:Int)≤16∧o.value.length≤400)→mj w0 S 34) (q3:has=o.aB→(o.key≠[]∧(o.key.length:Int)≤16∧o.value.length≤400)→ids o.bucket=none→mj w0 S 32) (q4:has=o.aB→(o.key≠[]∧(o.key.length:Int)≤16∧o.value.length≤400)→ids o.bucket≠none→full=true→mj w0 S 37):
 aa Tryz.prog w0 75 [bg w] S (fun d' S'=>has=o.aB∧(o.key≠[]∧(o.key.length:Int)≤16∧o.value.length≤400)∧full=false∧∃i es c,ids o.bucket=some i∧lk S.acc i=some (.xo (.mp .str es c))∧d'=HH∧S'=⟨S.box,up S.acc i (.xo (.mp .str (cU es c (kT o.key) (eJ o.value)) (eD es c (kT o.key))))⟩):=by
 refine mi [3] mx Tryz.func75 rfl rfl (by kernel_rfl) ?_;simp(maxDischargeDepth:=12) (maxSteps:=1000000) -implicitDefEqProofs only[Tryz.ntmps75,go_sem,Nat.reduceAdd,Nat.reduceSub,Nat.reduceMul,Nat.reduceLeDiff,Nat.reduceEqDiff,Nat.reduceGT,Nat.reduceBEq,reduceCtorEq,↓reduceIte,Int.reduceToNat,Int.reduceLE,Int.reduceLT,Int.reduceNe,Int.reduceEq];intro b2;have e1:=bu b2 hw;have e2:=bu b2 hl;have hH:∀ds,Has S ⟨(b2.n,ds)::S.box,S.acc⟩:=fun ds=>(Has.refl S).aP b2 ds rfl;refine aj (tu w0 (w:=w) (own:=own) (m:=m) (o:=o) (full:=full) (b:=b) (au:=au) (dr:=dr) (has:=has) (by simp(maxDischargeDepth:=12) (maxSteps:=1000000) -implicitDefEqProofs only[go_sem,Nat.reduceAdd,Nat.reduceSub,Nat.reduceMul,Nat.reduceLeDiff,Nat.reduceEqDiff,Nat.reduceGT,Nat.reduceBEq,reduceCtorEq,↓reduceIte,Int.reduceToNat,Int.reduceLE,Int.reduceLT,Int.reduceNe,Int.reduceEq,e1,hw]) (by simp(maxDischargeDepth:=12) (maxSteps:=1000000) -implicitDefEqProofs only[go_sem,Nat.reduceAdd,Nat.reduceSub,Nat.reduceMul,Nat.reduceLeDiff,Nat.reduceEqDiff,Nat.reduceGT,Nat.reduceBEq,reduceCtorEq,↓reduceIte,Int.reduceToNat,Int.reduceLE,Int.reduceLT,Int.reduceNe,Int.reduceEq,e2,hl])) ?_;rintro _ _ ⟨rfl,rfl⟩;by_cases hh:has=o.aB
 ·obtain⟨hdr1,hB⟩:=hdr hh;cases hdr1;rw[decide_eq_true hh];simp(maxDischargeDepth:=12) (maxSteps:=1000000) -implicitDefEqProofs only[go_sem,Nat.reduceAdd,Nat.reduceSub,Nat.reduceMul,Nat.reduceLeDiff,Nat.reduceEqDiff,Nat.reduceGT,Nat.reduceBEq,reduceCtorEq,↓reduceIte,Int.reduceToNat,Int.reduceLE,Int.reduceLT,Int.reduceNe,Int.reduceEq];refine aj (aC w0 true 35 _ (fun h=>by cases h)) ?_;rintro _ _ ⟨_,rfl,rfl⟩;simp(maxDischargeDepth:=12) (maxSteps:=1000000) -implicitDefEqProofs only[go_sem,Nat.reduceAdd,Nat.reduceSub,Nat.reduceMul,Nat.reduceLeDiff,Nat.reduceEqDiff,Nat.reduceGT,Nat.reduceBEq,reduceCtorEq,↓reduceIte,Int.reduceToNat,Int.reduceLE,Int.reduceLT,Int.reduceNe,Int.reduceEq,e1,e2,hw,hl];refine aw (KC w0 o.key 16 _) ?_;simp(maxDischargeDepth:=12) (maxSteps:=1000000) -implicitDefEqProofs only[go_sem,Nat.reduceAdd,Nat.reduceSub,Nat.reduceMul,Nat.reduceLeDiff,Nat.reduceEqDiff,Nat.reduceGT,Nat.reduceBEq,reduceCtorEq,↓reduceIte,Int.reduceToNat,Int.reduceLE,Int.reduceLT,Int.reduceNe,Int.reduceEq,e1,e2,hw,hl];by_cases hk:¬o.key=[]∧(o.key.length:Int)≤16
  ·refine⟨fun _ _=>?_,fun h=>absurd hk h⟩;by_cases hv:o.value.length≤400
   ·have hd:decide (((tx o.value).size:Int)≤400)=true:=decide_eq_true (by rw[dQ];omega);rw[hd];refine aj (aC w0 true 34 _ (fun h=>by cases h)) ?_;rintro _ _ ⟨_,rfl,rfl⟩;simp(maxDischargeDepth:=12) (maxSteps:=1000000) -implicitDefEqProofs only[go_sem,Nat.reduceAdd,Nat.reduceSub,Nat.reduceMul,Nat.reduceLeDiff,Nat.reduceEqDiff,Nat.reduceGT,Nat.reduceBEq,reduceCtorEq,↓reduceIte,Int.reduceToNat,Int.reduceLE,Int.reduceLT,Int.reduceNe,Int.reduceEq,e1,e2,hw,hl];refine Y.iM [] [12] [0,1,2,7,8,9,10,3,4,5,6,11,12,13] mx (by kernel_rfl) ?_;simp(maxDischargeDepth:=12) (maxSteps:=1000000) -implicitDefEqProofs only[go_sem,Nat.reduceAdd,Nat.reduceSub,Nat.reduceMul,Nat.reduceLeDiff,Nat.reduceEqDiff,Nat.reduceGT,Nat.reduceBEq,reduceCtorEq,↓reduceIte,Int.reduceToNat,Int.reduceLE,Int.reduceLT,Int.reduceNe,Int.reduceEq,e1,e2,hw,hl];have hB':BM ⟨(b2.n,[dI 0,dI 0,.sl 0 true [],dI 0,dI 0,dI 0,dI 0,.sl 0 true []])::S.box,S.acc⟩ d N ids F:=hB.mono fun c x _ hc=>hc;refine aj (l7 w0 hB' o.bucket fun h=>(q3 hh ⟨hk.1,hk.2,hv⟩ h).to (hH _)) ?_;rintro _ _ ⟨i,hi,rfl,rfl⟩;obtain⟨f,hf⟩:=XH.1 (fun q=>by rw[(hB.some_ o.bucket).2 q]at hi;cases hi);obtain⟨es,c,g1,g2,g3⟩:=hB.low o.bucket i f hi hf;simp(maxDischargeDepth:=12) (maxSteps:=1000000) -implicitDefEqProofs only[go_sem,Nat.reduceAdd,Nat.reduceSub,Nat.reduceMul,Nat.reduceLeDiff,Nat.reduceEqDiff,Nat.reduceGT,Nat.reduceBEq,reduceCtorEq,↓reduceIte,Int.reduceToNat,Int.reduceLE,Int.reduceLT,Int.reduceNe,Int.reduceEq,e1,e2,hw,hl]
    cases full with
    |true=>
     simp(maxDischargeDepth:=12) (maxSteps:=1000000) -implicitDefEqProofs only[go_sem,Nat.reduceAdd,Nat.reduceSub,Nat.reduceMul,Nat.reduceLeDiff,Nat.reduceEqDiff,Nat.reduceGT,Nat.reduceBEq,reduceCtorEq,↓reduceIte,Int.reduceToNat,Int.reduceLE,Int.reduceLT,Int.reduceNe,Int.reduceEq,e1,e2,hw,hl];refine aj (aC w0 false 37 _ (fun _=>(q4 hh ⟨hk.1,hk.2,hv⟩ (by rw[hi];simp) rfl).to (hH _))) ?_;rintro _ _ ⟨q,_⟩;cases q
    |false=>
     simp(maxDischargeDepth:=12) (maxSteps:=1000000) -implicitDefEqProofs only[go_sem,Nat.reduceAdd,Nat.reduceSub,Nat.reduceMul,Nat.reduceLeDiff,Nat.reduceEqDiff,Nat.reduceGT,Nat.reduceBEq,reduceCtorEq,↓reduceIte,Int.reduceToNat,Int.reduceLE,Int.reduceLT,Int.reduceNe,Int.reduceEq,e1,e2,hw,hl];refine aj (aC w0 true 37 _ (fun h=>by cases h)) ?_;rintro _ _ ⟨_,rfl,rfl⟩;simp(maxDischargeDepth:=12) (maxSteps:=1000000) -implicitDefEqProofs only[go_sem,Nat.reduceAdd,Nat.reduceSub,Nat.reduceMul,Nat.reduceLeDiff,Nat.reduceEqDiff,Nat.reduceGT,Nat.reduceBEq,reduceCtorEq,↓reduceIte,Int.reduceToNat,Int.reduceLE,Int.reduceLT,Int.reduceNe,Int.reduceEq,e1,e2,hw,hl,g1];exact⟨_,_,.refl _,(Sub.refl _).aP,hh,⟨hk.1,hk.2,hv⟩,i,es,c,hi,g1,rfl,rfl⟩
   ·have hd:decide (((tx o.value).size:Int)≤400)=false:=decide_eq_false (by rw[dQ];omega);rw[hd];refine aj (aC w0 false 34 _ (fun _=>(q2 hh fun h=>hv h.2.2).to (hH _))) ?_;rintro _ _ ⟨q,_⟩;cases q
  ·refine⟨fun h h'=>absurd ⟨h,h'⟩ hk,fun _=>?_⟩;refine aj (aC w0 false 34 _ (fun _=>(q2 hh fun h=>hk ⟨h.1,h.2.1⟩).to (hH _))) ?_;rintro _ _ ⟨q,_⟩;cases q
 ·rw[decide_eq_false hh];simp(maxDischargeDepth:=12) (maxSteps:=1000000) -implicitDefEqProofs only[go_sem,Nat.reduceAdd,Nat.reduceSub,Nat.reduceMul,Nat.reduceLeDiff,Nat.reduceEqDiff,Nat.reduceGT,Nat.reduceBEq,reduceCtorEq,↓reduceIte,Int.reduceToNat,Int.reduceLE,Int.reduceLT,Int.reduceNe,Int.reduceEq];refine aj (aC w0 false 35 _ (fun _=>(q1 hh).to (hH _))) ?_;rintro _ _ ⟨q,_⟩;cases q
theorem Q7(w0:W0){S:St}{w m own b d N:Nat}{o:bl}{full:Bool}{au dr:DV}{has:Int}{ids:List UInt8→Option Nat}{F:List UInt8→Option (List UInt8→Option (List UInt8))}(hw:lk S.box w=some (qY m own o full))(hl:lk S.box own=some (lC b au has dr))(hdr:has=o.aB→dr= .mp d∧BM S d N ids F)
 (q1:has≠o.aB→mj w0 S 35) (q3:has=o.aB→ids o.bucket=none→mj w0 S 32) (q4:has=o.aB→ids o.bucket≠none→full=true→mj w0 S 37):
 aa Tryz.prog w0 74 [bg w] S (fun d' S'=>has=o.aB∧full=false∧∃i es c,ids o.bucket=some i∧lk S.acc d=some (.xo (.mp .str es c))∧d'=HH∧S'=⟨S.box,up S.acc d (.xo (.mp .str (gY es (kT o.bucket)) c))⟩):=by
 refine mi [2] mx Tryz.func74 rfl rfl (by kernel_rfl) ?_;simp(maxDischargeDepth:=12) (maxSteps:=1000000) -implicitDefEqProofs only[Tryz.ntmps74,go_sem,Nat.reduceAdd,Nat.reduceSub,Nat.reduceMul,Nat.reduceLeDiff,Nat.reduceEqDiff,Nat.reduceGT,Nat.reduceBEq,reduceCtorEq,↓reduceIte,Int.reduceToNat,Int.reduceLE,Int.reduceLT,Int.reduceNe,Int.reduceEq];intro b2;have e1:=bu b2 hw;have e2:=bu b2 hl;have hH:∀ds,Has S ⟨(b2.n,ds)::S.box,S.acc⟩:=fun ds=>(Has.refl S).aP b2 ds rfl;refine aj (tu w0 (w:=w) (own:=own) (m:=m) (o:=o) (full:=full) (b:=b) (au:=au) (dr:=dr) (has:=has) (by simp(maxDischargeDepth:=12) (maxSteps:=1000000) -implicitDefEqProofs only[go_sem,Nat.reduceAdd,Nat.reduceSub,Nat.reduceMul,Nat.reduceLeDiff,Nat.reduceEqDiff,Nat.reduceGT,Nat.reduceBEq,reduceCtorEq,↓reduceIte,Int.reduceToNat,Int.reduceLE,Int.reduceLT,Int.reduceNe,Int.reduceEq,e1,hw]) (by simp(maxDischargeDepth:=12) (maxSteps:=1000000) -implicitDefEqProofs only[go_sem,Nat.reduceAdd,Nat.reduceSub,Nat.reduceMul,Nat.reduceLeDiff,Nat.reduceEqDiff,Nat.reduceGT,Nat.reduceBEq,reduceCtorEq,↓reduceIte,Int.reduceToNat,Int.reduceLE,Int.reduceLT,Int.reduceNe,Int.reduceEq,e2,hl])) ?_;rintro _ _ ⟨rfl,rfl⟩;by_cases hh:has=o.aB
 case neg=>
  rw[decide_eq_false hh];simp(maxDischargeDepth:=12) (maxSteps:=1000000) -implicitDefEqProofs only[go_sem,Nat.reduceAdd,Nat.reduceSub,Nat.reduceMul,Nat.reduceLeDiff,Nat.reduceEqDiff,Nat.reduceGT,Nat.reduceBEq,reduceCtorEq,↓reduceIte,Int.reduceToNat,Int.reduceLE,Int.reduceLT,Int.reduceNe,Int.reduceEq];refine aj (aC w0 false 35 _ (fun _=>(q1 hh).to (hH _))) ?_;rintro _ _ ⟨q,_⟩;cases q
 obtain⟨hdr1,hB⟩:=hdr hh;cases hdr1;rw[decide_eq_true hh];simp(maxDischargeDepth:=12) (maxSteps:=1000000) -implicitDefEqProofs only[go_sem,Nat.reduceAdd,Nat.reduceSub,Nat.reduceMul,Nat.reduceLeDiff,Nat.reduceEqDiff,Nat.reduceGT,Nat.reduceBEq,reduceCtorEq,↓reduceIte,Int.reduceToNat,Int.reduceLE,Int.reduceLT,Int.reduceNe,Int.reduceEq];refine aj (aC w0 true 35 _ (fun h=>by cases h)) ?_;rintro _ _ ⟨_,rfl,rfl⟩;simp(maxDischargeDepth:=12) (maxSteps:=1000000) -implicitDefEqProofs only[go_sem,Nat.reduceAdd,Nat.reduceSub,Nat.reduceMul,Nat.reduceLeDiff,Nat.reduceEqDiff,Nat.reduceGT,Nat.reduceBEq,reduceCtorEq,↓reduceIte,Int.reduceToNat,Int.reduceLE,Int.reduceLT,Int.reduceNe,Int.reduceEq,e1,e2,hw,hl];refine Y.iM [] [12] [0,1,2,7,8,9,10,3,4,5,6,11,12] mx (by kernel_rfl) ?_;simp(maxDischargeDepth:=12) (maxSteps:=1000000) -implicitDefEqProofs only[go_sem,Nat.reduceAdd,Nat.reduceSub,Nat.reduceMul,Nat.reduceLeDiff,Nat.reduceEqDiff,Nat.reduceGT,Nat.reduceBEq,reduceCtorEq,↓reduceIte,Int.reduceToNat,Int.reduceLE,Int.reduceLT,Int.reduceNe,Int.reduceEq,e1,e2,hw,hl];have hB':BM ⟨(b2.n,[dI 0,dI 0,.sl 0 true [],dI 0,dI 0,dI 0,dI 0,.sl 0 true []])::S.box,S.acc⟩ d N ids F:=hB.mono fun c x _ hc=>hc;refine aj (l7 w0 hB' o.bucket fun h=>(q3 hh h).to (hH _)) ?_;rintro _ _ ⟨i,hi,rfl,rfl⟩;obtain⟨f,hf⟩:=XH.1 (fun q=>by rw[(hB.some_ o.bucket).2 q]at hi;cases hi);obtain⟨es,c,g1,g2,g3⟩:=hB.low o.bucket i f hi hf;obtain⟨et,ct,t1,t2,t3⟩:=hB.top;simp(maxDischargeDepth:=12) (maxSteps:=1000000) -implicitDefEqProofs only[go_sem,Nat.reduceAdd,Nat.reduceSub,Nat.reduceMul,Nat.reduceLeDiff,Nat.reduceEqDiff,Nat.reduceGT,Nat.reduceBEq,reduceCtorEq,↓reduceIte,Int.reduceToNat,Int.reduceLE,Int.reduceLT,Int.reduceNe,Int.reduceEq,e1,e2,hw,hl,t1]
 cases full with
 |true=>
  simp(maxDischargeDepth:=12) (maxSteps:=1000000) -implicitDefEqProofs only[go_sem,Nat.reduceAdd,Nat.reduceSub,Nat.reduceMul,Nat.reduceLeDiff,Nat.reduceEqDiff,Nat.reduceGT,Nat.reduceBEq,reduceCtorEq,↓reduceIte,Int.reduceToNat,Int.reduceLE,Int.reduceLT,Int.reduceNe,Int.reduceEq,e1,e2,hw,hl,t1];refine aj (aC w0 false 37 _ (fun _=>(q4 hh (by rw[hi];simp) rfl).to (hH _))) ?_;rintro _ _ ⟨q,_⟩;cases q
 |false=>
  simp(maxDischargeDepth:=12) (maxSteps:=1000000) -implicitDefEqProofs only[go_sem,Nat.reduceAdd,Nat.reduceSub,Nat.reduceMul,Nat.reduceLeDiff,Nat.reduceEqDiff,Nat.reduceGT,Nat.reduceBEq,reduceCtorEq,↓reduceIte,Int.reduceToNat,Int.reduceLE,Int.reduceLT,Int.reduceNe,Int.reduceEq,e1,e2,hw,hl,t1];refine aj (aC w0 true 37 _ (fun h=>by cases h)) ?_;rintro _ _ ⟨_,rfl,rfl⟩;simp(maxDischargeDepth:=12) (maxSteps:=1000000) -implicitDefEqProofs only[go_sem,Nat.reduceAdd,Nat.reduceSub,Nat.reduceMul,Nat.reduceLeDiff,Nat.reduceEqDiff,Nat.reduceGT,Nat.reduceBEq,reduceCtorEq,↓reduceIte,Int.reduceToNat,Int.reduceLE,Int.reduceLT,Int.reduceNe,Int.reduceEq,e1,e2,hw,hl,t1];exact⟨_,_,.refl _,(Sub.refl _).aP,hh,i,et,ct,hi,rfl,rfl,rfl⟩
theorem I1(w0:W0){S:St}{w m own b d N:Nat}{o:bl}{full:Bool}{au dr:DV}{has:Int}{ids:List UInt8→Option Nat}{F:List UInt8→Option (List UInt8→Option (List UInt8))}(hw:lk S.box w=some (qY m own o full))(hl:lk S.box own=some (lC b au has dr))(hdr:has=o.aB→dr= .mp d∧BM S d N ids F)
 (q1:has≠o.aB→mj w0 S 35) (q3:has=o.aB→ids o.bucket=none→mj w0 S 32) (q5:has=o.aB→∀f,F o.bucket=some f→f o.key=none→mj w0 S 33) (q4:has=o.aB→∀f v,F o.bucket=some f→f o.key=some v→full=true→mj w0 S 37):
 aa Tryz.prog w0 76 [bg w] S (fun d' S'=>has=o.aB∧full=false∧∃i es c f v,ids o.bucket=some i∧F o.bucket=some f∧f o.key=some v∧lk S.acc i=some (.xo (.mp .str es c))∧d'=HH∧S'=⟨S.box,up S.acc i (.xo (.mp .str (gY es (kT o.key)) c))⟩):=by
 refine mi [2] mx Tryz.func76 rfl rfl (by kernel_rfl) ?_;simp(maxDischargeDepth:=12) (maxSteps:=1000000) -implicitDefEqProofs only[Tryz.ntmps76,go_sem,Nat.reduceAdd,Nat.reduceSub,Nat.reduceMul,Nat.reduceLeDiff,Nat.reduceEqDiff,Nat.reduceGT,Nat.reduceBEq,reduceCtorEq,↓reduceIte,Int.reduceToNat,Int.reduceLE,Int.reduceLT,Int.reduceNe,Int.reduceEq];intro b2;have e1:=bu b2 hw;have e2:=bu b2 hl;have hH:∀ds,Has S ⟨(b2.n,ds)::S.box,S.acc⟩:=fun ds=>(Has.refl S).aP b2 ds rfl;refine aj (tu w0 (w:=w) (own:=own) (m:=m) (o:=o) (full:=full) (b:=b) (au:=au) (dr:=dr) (has:=has) (by simp(maxDischargeDepth:=12) (maxSteps:=1000000) -implicitDefEqProofs only[go_sem,Nat.reduceAdd,Nat.reduceSub,Nat.reduceMul,Nat.reduceLeDiff,Nat.reduceEqDiff,Nat.reduceGT,Nat.reduceBEq,reduceCtorEq,↓reduceIte,Int.reduceToNat,Int.reduceLE,Int.reduceLT,Int.reduceNe,Int.reduceEq,e1,hw]) (by simp(maxDischargeDepth:=12) (maxSteps:=1000000) -implicitDefEqProofs only[go_sem,Nat.reduceAdd,Nat.reduceSub,Nat.reduceMul,Nat.reduceLeDiff,Nat.reduceEqDiff,Nat.reduceGT,Nat.reduceBEq,reduceCtorEq,↓reduceIte,Int.reduceToNat,Int.reduceLE,Int.reduceLT,Int.reduceNe,Int.reduceEq,e2,hl])) ?_;rintro _ _ ⟨rfl,rfl⟩;by_cases hh:has=o.aB
 case neg=>
  rw[decide_eq_false hh];simp(maxDischargeDepth:=12) (maxSteps:=1000000) -implicitDefEqProofs only[go_sem,Nat.reduceAdd,Nat.reduceSub,Nat.reduceMul,Nat.reduceLeDiff,Nat.reduceEqDiff,Nat.reduceGT,Nat.reduceBEq,reduceCtorEq,↓reduceIte,Int.reduceToNat,Int.reduceLE,Int.reduceLT,Int.reduceNe,Int.reduceEq];refine aj (aC w0 false 35 _ (fun _=>(q1 hh).to (hH _))) ?_;rintro _ _ ⟨q,_⟩;cases q
 obtain⟨hdr1,hB⟩:=hdr hh;cases hdr1;rw[decide_eq_true hh];simp(maxDischargeDepth:=12) (maxSteps:=1000000) -implicitDefEqProofs only[go_sem,Nat.reduceAdd,Nat.reduceSub,Nat.reduceMul,Nat.reduceLeDiff,Nat.reduceEqDiff,Nat.reduceGT,Nat.reduceBEq,reduceCtorEq,↓reduceIte,Int.reduceToNat,Int.reduceLE,Int.reduceLT,Int.reduceNe,Int.reduceEq];refine aj (aC w0 true 35 _ (fun h=>by cases h)) ?_;rintro _ _ ⟨_,rfl,rfl⟩;simp(maxDischargeDepth:=12) (maxSteps:=1000000) -implicitDefEqProofs only[go_sem,Nat.reduceAdd,Nat.reduceSub,Nat.reduceMul,Nat.reduceLeDiff,Nat.reduceEqDiff,Nat.reduceGT,Nat.reduceBEq,reduceCtorEq,↓reduceIte,Int.reduceToNat,Int.reduceLE,Int.reduceLT,Int.reduceNe,Int.reduceEq,e1,e2,hw,hl];refine Y.iM [] [12] [0,1,2,7,8,9,10,3,4,5,6,11,12,13] mx (by kernel_rfl) ?_;simp(maxDischargeDepth:=12) (maxSteps:=1000000) -implicitDefEqProofs only[go_sem,Nat.reduceAdd,Nat.reduceSub,Nat.reduceMul,Nat.reduceLeDiff,Nat.reduceEqDiff,Nat.reduceGT,Nat.reduceBEq,reduceCtorEq,↓reduceIte,Int.reduceToNat,Int.reduceLE,Int.reduceLT,Int.reduceNe,Int.reduceEq,e1,e2,hw,hl];have hB':BM ⟨(b2.n,[dI 0,dI 0,.sl 0 true [],dI 0,dI 0,dI 0,dI 0,.sl 0 true []])::S.box,S.acc⟩ d N ids F:=hB.mono fun c x _ hc=>hc;refine aj (l7 w0 hB' o.bucket fun h=>(q3 hh h).to (hH _)) ?_;rintro _ _ ⟨i,hi,rfl,rfl⟩;obtain⟨f,hf⟩:=XH.1 (fun q=>by rw[(hB.some_ o.bucket).2 q]at hi;cases hi);obtain⟨es,c,g1,g2,g3⟩:=hB.low o.bucket i f hi hf;have g3k:=g3 o.key;unfold kT at g3k
 cases hv:f o.key with
 |none=>
  rw[hv]at g3k;simp(maxDischargeDepth:=12) (maxSteps:=1000000) -implicitDefEqProofs only[go_sem,Nat.reduceAdd,Nat.reduceSub,Nat.reduceMul,Nat.reduceLeDiff,Nat.reduceEqDiff,Nat.reduceGT,Nat.reduceBEq,reduceCtorEq,↓reduceIte,Int.reduceToNat,Int.reduceLE,Int.reduceLT,Int.reduceNe,Int.reduceEq,e1,e2,hw,hl,g1,g3k];refine aj (aC w0 false 33 _ (fun _=>(q5 hh f hf hv).to (hH _))) ?_;rintro _ _ ⟨q,_⟩;cases q
 |some v=>
 rw[hv]at g3k;simp(maxDischargeDepth:=12) (maxSteps:=1000000) -implicitDefEqProofs only[go_sem,Nat.reduceAdd,Nat.reduceSub,Nat.reduceMul,Nat.reduceLeDiff,Nat.reduceEqDiff,Nat.reduceGT,Nat.reduceBEq,reduceCtorEq,↓reduceIte,Int.reduceToNat,Int.reduceLE,Int.reduceLT,Int.reduceNe,Int.reduceEq,e1,e2,hw,hl,g1,g3k];refine aj (aC w0 true 33 _ (fun h=>by cases h)) ?_;rintro _ _ ⟨_,rfl,rfl⟩;simp(maxDischargeDepth:=12) (maxSteps:=1000000) -implicitDefEqProofs only[go_sem,Nat.reduceAdd,Nat.reduceSub,Nat.reduceMul,Nat.reduceLeDiff,Nat.reduceEqDiff,Nat.reduceGT,Nat.reduceBEq,reduceCtorEq,↓reduceIte,Int.reduceToNat,Int.reduceLE,Int.reduceLT,Int.reduceNe,Int.reduceEq,e1,e2,hw,hl,g1,g3k]
 cases full with
 |true=>
  simp(maxDischargeDepth:=12) (maxSteps:=1000000) -implicitDefEqProofs only[go_sem,Nat.reduceAdd,Nat.reduceSub,Nat.reduceMul,Nat.reduceLeDiff,Nat.reduceEqDiff,Nat.reduceGT,Nat.reduceBEq,reduceCtorEq,↓reduceIte,Int.reduceToNat,Int.reduceLE,Int.reduceLT,Int.reduceNe,Int.reduceEq,e1,e2,hw,hl,g1,g3k];refine aj (aC w0 false 37 _ (fun _=>(q4 hh f v hf hv rfl).to (hH _))) ?_;rintro _ _ ⟨q,_⟩;cases q
 |false=>
  simp(maxDischargeDepth:=12) (maxSteps:=1000000) -implicitDefEqProofs only[go_sem,Nat.reduceAdd,Nat.reduceSub,Nat.reduceMul,Nat.reduceLeDiff,Nat.reduceEqDiff,Nat.reduceGT,Nat.reduceBEq,reduceCtorEq,↓reduceIte,Int.reduceToNat,Int.reduceLE,Int.reduceLT,Int.reduceNe,Int.reduceEq,e1,e2,hw,hl,g1,g3k];refine aj (aC w0 true 37 _ (fun h=>by cases h)) ?_;rintro _ _ ⟨_,rfl,rfl⟩;simp(maxDischargeDepth:=12) (maxSteps:=1000000) -implicitDefEqProofs only[go_sem,Nat.reduceAdd,Nat.reduceSub,Nat.reduceMul,Nat.reduceLeDiff,Nat.reduceEqDiff,Nat.reduceGT,Nat.reduceBEq,reduceCtorEq,↓reduceIte,Int.reduceToNat,Int.reduceLE,Int.reduceLT,Int.reduceNe,Int.reduceEq,e1,e2,hw,hl,g1,g3k];exact⟨_,_,.refl _,(Sub.refl _).aP,hh,i,es,c,f,v,hi,hf,hv,g1,rfl,rfl⟩
theorem PO(w0:W0){S:St}{w m own b d N:Nat}{o:bl}{full:Bool}{au dr:DV}{has:Int}{ids:List UInt8→Option Nat}{F:List UInt8→Option (List UInt8→Option (List UInt8))}(hw:lk S.box w=some (qY m own o full))(hl:lk S.box own=some (lC b au has dr))(hdr:has=o.aB→dr= .mp d∧BM S d N ids F)
 (q1:has≠o.aB→mj w0 S 35) (q2:has=o.aB→¬(o.bucket≠[]∧(o.bucket.length:Int)≤15)→mj w0 S 34) (q3:has=o.aB→(o.bucket≠[]∧(o.bucket.length:Int)≤15)→ids o.bucket≠none→mj w0 S 38) (q4:has=o.aB→(o.bucket≠[]∧(o.bucket.length:Int)≤15)→ids o.bucket=none→full=true→mj w0 S 37):
 aa Tryz.prog w0 73 [bg w] S (fun d' S'=>has=o.aB∧(o.bucket≠[]∧(o.bucket.length:Int)≤15)∧full=false∧ids o.bucket=none∧∃(l:FN S.acc) (es:List (Value×DV×Nat)) (c:Nat),lk S.acc d=some (.xo (.mp .str es c))∧d'=HH∧S'=⟨S.box,(l.n,.xo (.mp .str [] 0))::up S.acc d (.xo (.mp .str (cU es c (kT o.bucket) (.mp l.n)) (eD es c (kT o.bucket))))⟩):=by
 refine mi [6] mx Tryz.func73 rfl rfl (by kernel_rfl) ?_;simp(maxDischargeDepth:=12) (maxSteps:=1000000) -implicitDefEqProofs only[Tryz.ntmps73,go_sem,Nat.reduceAdd,Nat.reduceSub,Nat.reduceMul,Nat.reduceLeDiff,Nat.reduceEqDiff,Nat.reduceGT,Nat.reduceBEq,reduceCtorEq,↓reduceIte,Int.reduceToNat,Int.reduceLE,Int.reduceLT,Int.reduceNe,Int.reduceEq];intro b2;have e1:=bu b2 hw;have e2:=bu b2 hl;have hH:∀ds,Has S ⟨(b2.n,ds)::S.box,S.acc⟩:=fun ds=>(Has.refl S).aP b2 ds rfl;refine aj (tu w0 (w:=w) (own:=own) (m:=m) (o:=o) (full:=full) (b:=b) (au:=au) (dr:=dr) (has:=has) (by simp(maxDischargeDepth:=12) (maxSteps:=1000000) -implicitDefEqProofs only[go_sem,Nat.reduceAdd,Nat.reduceSub,Nat.reduceMul,Nat.reduceLeDiff,Nat.reduceEqDiff,Nat.reduceGT,Nat.reduceBEq,reduceCtorEq,↓reduceIte,Int.reduceToNat,Int.reduceLE,Int.reduceLT,Int.reduceNe,Int.reduceEq,e1,hw]) (by simp(maxDischargeDepth:=12) (maxSteps:=1000000) -implicitDefEqProofs only[go_sem,Nat.reduceAdd,Nat.reduceSub,Nat.reduceMul,Nat.reduceLeDiff,Nat.reduceEqDiff,Nat.reduceGT,Nat.reduceBEq,reduceCtorEq,↓reduceIte,Int.reduceToNat,Int.reduceLE,Int.reduceLT,Int.reduceNe,Int.reduceEq,e2,hl])) ?_;rintro _ _ ⟨rfl,rfl⟩;by_cases hh:has=o.aB
 case neg=>
  rw[decide_eq_false hh];simp(maxDischargeDepth:=12) (maxSteps:=1000000) -implicitDefEqProofs only[go_sem,Nat.reduceAdd,Nat.reduceSub,Nat.reduceMul,Nat.reduceLeDiff,Nat.reduceEqDiff,Nat.reduceGT,Nat.reduceBEq,reduceCtorEq,↓reduceIte,Int.reduceToNat,Int.reduceLE,Int.reduceLT,Int.reduceNe,Int.reduceEq];refine aj (aC w0 false 35 _ (fun _=>(q1 hh).to (hH _))) ?_;rintro _ _ ⟨q,_⟩;cases q
 obtain⟨hdr1,hB⟩:=hdr hh;cases hdr1;rw[decide_eq_true hh];simp(maxDischargeDepth:=12) (maxSteps:=1000000) -implicitDefEqProofs only[go_sem,Nat.reduceAdd,Nat.reduceSub,Nat.reduceMul,Nat.reduceLeDiff,Nat.reduceEqDiff,Nat.reduceGT,Nat.reduceBEq,reduceCtorEq,↓reduceIte,Int.reduceToNat,Int.reduceLE,Int.reduceLT,Int.reduceNe,Int.reduceEq];refine aj (aC w0 true 35 _ (fun h=>by cases h)) ?_;rintro _ _ ⟨_,rfl,rfl⟩;simp(maxDischargeDepth:=12) (maxSteps:=1000000) -implicitDefEqProofs only[go_sem,Nat.reduceAdd,Nat.reduceSub,Nat.reduceMul,Nat.reduceLeDiff,Nat.reduceEqDiff,Nat.reduceGT,Nat.reduceBEq,reduceCtorEq,↓reduceIte,Int.reduceToNat,Int.reduceLE,Int.reduceLT,Int.reduceNe,Int.reduceEq,e1,e2,hw,hl];refine aw (KC w0 o.bucket 15 _) ?_;by_cases hk:o.bucket≠[]∧(o.bucket.length:Int)≤15
 case neg=>
  rw[decide_eq_false hk];simp(maxDischargeDepth:=12) (maxSteps:=1000000) -implicitDefEqProofs only[go_sem,Nat.reduceAdd,Nat.reduceSub,Nat.reduceMul,Nat.reduceLeDiff,Nat.reduceEqDiff,Nat.reduceGT,Nat.reduceBEq,reduceCtorEq,↓reduceIte,Int.reduceToNat,Int.reduceLE,Int.reduceLT,Int.reduceNe,Int.reduceEq];refine aj (aC w0 false 34 _ (fun _=>(q2 hh hk).to (hH _))) ?_;rintro _ _ ⟨q,_⟩;cases q
 rw[decide_eq_true hk];simp(maxDischargeDepth:=12) (maxSteps:=1000000) -implicitDefEqProofs only[go_sem,Nat.reduceAdd,Nat.reduceSub,Nat.reduceMul,Nat.reduceLeDiff,Nat.reduceEqDiff,Nat.reduceGT,Nat.reduceBEq,reduceCtorEq,↓reduceIte,Int.reduceToNat,Int.reduceLE,Int.reduceLT,Int.reduceNe,Int.reduceEq];refine aj (aC w0 true 34 _ (fun h=>by cases h)) ?_;rintro _ _ ⟨_,rfl,rfl⟩;obtain⟨et,ct,t1,t2,t3⟩:=hB.top;have t3n:=t3 o.bucket;unfold kT at t3n
 cases hi:ids o.bucket with
 |some i=>
  rw[hi]at t3n;simp(maxDischargeDepth:=12) (maxSteps:=1000000) -implicitDefEqProofs only[go_sem,Nat.reduceAdd,Nat.reduceSub,Nat.reduceMul,Nat.reduceLeDiff,Nat.reduceEqDiff,Nat.reduceGT,Nat.reduceBEq,reduceCtorEq,↓reduceIte,Int.reduceToNat,Int.reduceLE,Int.reduceLT,Int.reduceNe,Int.reduceEq,e1,e2,hw,hl,t1,t3n];refine aj (aC w0 false 38 _ (fun _=>(q3 hh hk (by rw[hi];simp)).to (hH _))) ?_;rintro _ _ ⟨q,_⟩;cases q
 |none=>
 rw[hi]at t3n;simp(maxDischargeDepth:=12) (maxSteps:=1000000) -implicitDefEqProofs only[go_sem,Nat.reduceAdd,Nat.reduceSub,Nat.reduceMul,Nat.reduceLeDiff,Nat.reduceEqDiff,Nat.reduceGT,Nat.reduceBEq,reduceCtorEq,↓reduceIte,Int.reduceToNat,Int.reduceLE,Int.reduceLT,Int.reduceNe,Int.reduceEq,e1,e2,hw,hl,t1,t3n];refine aj (aC w0 true 38 _ (fun h=>by cases h)) ?_;rintro _ _ ⟨_,rfl,rfl⟩
 cases full with
 |true=>
  simp(maxDischargeDepth:=12) (maxSteps:=1000000) -implicitDefEqProofs only[go_sem,Nat.reduceAdd,Nat.reduceSub,Nat.reduceMul,Nat.reduceLeDiff,Nat.reduceEqDiff,Nat.reduceGT,Nat.reduceBEq,reduceCtorEq,↓reduceIte,Int.reduceToNat,Int.reduceLE,Int.reduceLT,Int.reduceNe,Int.reduceEq,e1,e2,hw,hl];refine aj (aC w0 false 37 _ (fun _=>(q4 hh hk hi rfl).to (hH _))) ?_;rintro _ _ ⟨q,_⟩;cases q
 |false=>
  simp(maxDischargeDepth:=12) (maxSteps:=1000000) -implicitDefEqProofs only[go_sem,Nat.reduceAdd,Nat.reduceSub,Nat.reduceMul,Nat.reduceLeDiff,Nat.reduceEqDiff,Nat.reduceGT,Nat.reduceBEq,reduceCtorEq,↓reduceIte,Int.reduceToNat,Int.reduceLE,Int.reduceLT,Int.reduceNe,Int.reduceEq,e1,e2,hw,hl];refine aj (aC w0 true 37 _ (fun h=>by cases h)) ?_;rintro _ _ ⟨_,rfl,rfl⟩;simp(maxDischargeDepth:=12) (maxSteps:=1000000) -implicitDefEqProofs only[go_sem,Nat.reduceAdd,Nat.reduceSub,Nat.reduceMul,Nat.reduceLeDiff,Nat.reduceEqDiff,Nat.reduceGT,Nat.reduceBEq,reduceCtorEq,↓reduceIte,Int.reduceToNat,Int.reduceLE,Int.reduceLT,Int.reduceNe,Int.reduceEq,e1,e2,hw,hl];refine Y.iM [12] [13] [0,1,2,7,8,9,10,3,4,5,6,11,12,13] mx (by kernel_rfl) ?_;simp(maxDischargeDepth:=12) (maxSteps:=1000000) -implicitDefEqProofs only[go_sem,Nat.reduceAdd,Nat.reduceSub,Nat.reduceMul,Nat.reduceLeDiff,Nat.reduceEqDiff,Nat.reduceGT,Nat.reduceBEq,reduceCtorEq,↓reduceIte,Int.reduceToNat,Int.reduceLE,Int.reduceLT,Int.reduceNe,Int.reduceEq,e1,e2,hw,hl,t1];exact fun l=>⟨_,_,.refl _,(Sub.refl _).aP,hh,hk,l,et,ct,rfl,rfl,rfl⟩
theorem L2(w0:W0){S:St}{w m own b N:Nat}{o:bl}{full:Bool}{au dr:DV}{has:Int}{ids:List UInt8→Option Nat}{F:List UInt8→Option (List UInt8→Option (List UInt8))}(hw:lk S.box w=some (qY m own o full))(hl:lk S.box own=some (lC b au has dr))(hne:(own=w)=False)(hB:BM S b N ids F)(hN:N≤1048576)
 (q1:has≠0→mj w0 S 36):
 aa Tryz.prog w0 70 [bg w] S (fun d' S'=>has=0∧∃l ids',d'=HH∧BM S' l N ids' F∧S'.box=up S.box own (lC b au o.aB (.mp l))∧(∀c x,lk S.acc c=some x→lk S'.acc c=some x)∧lk S.acc l=none∧∀n i,ids' n=some i→lk S.acc i=none):=by
 refine mi [2] mx Tryz.func70 rfl rfl (by kernel_rfl) ?_;simp(maxDischargeDepth:=12) (maxSteps:=1000000) -implicitDefEqProofs only[Tryz.ntmps70,go_sem,Nat.reduceAdd,Nat.reduceSub,Nat.reduceMul,Nat.reduceLeDiff,Nat.reduceEqDiff,Nat.reduceGT,Nat.reduceBEq,reduceCtorEq,↓reduceIte,Int.reduceToNat,Int.reduceLE,Int.reduceLT,Int.reduceNe,Int.reduceEq];intro b2;have e1:=bu b2 hw;have e2:=bu b2 hl;have hH:∀ds,Has S ⟨(b2.n,ds)::S.box,S.acc⟩:=fun ds=>(Has.refl S).aP b2 ds rfl;simp(maxDischargeDepth:=12) (maxSteps:=1000000) -implicitDefEqProofs only[go_sem,Nat.reduceAdd,Nat.reduceSub,Nat.reduceMul,Nat.reduceLeDiff,Nat.reduceEqDiff,Nat.reduceGT,Nat.reduceBEq,reduceCtorEq,↓reduceIte,Int.reduceToNat,Int.reduceLE,Int.reduceLT,Int.reduceNe,Int.reduceEq,e1,e2,hw,hl];by_cases h0:has=0
 case neg=>
  rw[decide_eq_false h0];refine aj (aC w0 false 36 _ (fun _=>(q1 h0).to (hH _))) ?_;rintro _ _ ⟨q,_⟩;cases q
 rw[decide_eq_true h0];refine aj (aC w0 true 36 _ (fun h=>by cases h)) ?_;rintro _ _ ⟨_,rfl,rfl⟩;simp(maxDischargeDepth:=12) (maxSteps:=1000000) -implicitDefEqProofs only[go_sem,Nat.reduceAdd,Nat.reduceSub,Nat.reduceMul,Nat.reduceLeDiff,Nat.reduceEqDiff,Nat.reduceGT,Nat.reduceBEq,reduceCtorEq,↓reduceIte,Int.reduceToNat,Int.reduceLE,Int.reduceLT,Int.reduceNe,Int.reduceEq,e1,e2,hw,hl];have hB':BM ⟨(b2.n,[dI 0,dI 0,.sl 0 true [],dI 0,dI 0,dI 0,dI 0,.sl 0 true []])::S.box,S.acc⟩ b N ids F:=hB.mono fun c x _ hc=>hc;refine Y.iM [20] [23,26] [0,1,2,4,5,6,8,9,10,11,13,14,15,3,7,12,16,17,18,19,20,21,22,23,24,25,26] mx (by kernel_rfl) ?_;simp(maxDischargeDepth:=12) (maxSteps:=1000000) -implicitDefEqProofs only[go_sem,Nat.reduceAdd,Nat.reduceSub,Nat.reduceMul,Nat.reduceLeDiff,Nat.reduceEqDiff,Nat.reduceGT,Nat.reduceBEq,reduceCtorEq,↓reduceIte,Int.reduceToNat,Int.reduceLE,Int.reduceLT,Int.reduceNe,Int.reduceEq,e1,e2,hw,hl];refine aj (EP w0 hB' hN) ?_;rintro _ T ⟨l,ids',rfl,hB2,hbx,hac,hl0,hid⟩;obtain⟨Tb,Ta⟩:=T;simp only at hbx;subst hbx;simp(maxDischargeDepth:=12) (maxSteps:=1000000) -implicitDefEqProofs only[go_sem,Nat.reduceAdd,Nat.reduceSub,Nat.reduceMul,Nat.reduceLeDiff,Nat.reduceEqDiff,Nat.reduceGT,Nat.reduceBEq,reduceCtorEq,↓reduceIte,Int.reduceToNat,Int.reduceLE,Int.reduceLT,Int.reduceNe,Int.reduceEq,e1,e2,hw,hl,hne];exact⟨⟨fun _ _ h=>h,hac⟩,_,⟨_,Ta⟩,.refl _,(Sub.refl _).aP,h0,l,ids',rfl,hB2.mono fun c x _ hc=>hc,rfl,hac,hl0,hid⟩
abbrev gu:=List UInt8→Option (List UInt8→Option (List UInt8))
theorem IM.le{S:St}{l N M:Nat}{f:List UInt8→Option (List UInt8)}(h:IM S l N f)(k:N≤M):IM S l M f:=by
 obtain⟨es,c,h1,h2,h3⟩:=h;exact⟨es,c,h1,by omega,h3⟩
theorem DZ{S:St}{l N:Nat}{f:List UInt8→Option (List UInt8)}(h:IM S l N f){es:List (Value×DV×Nat)}{c:Nat}(g:lk S.acc l=some (.xo (.mp .str es c))):es.length≤N∧∀k,aJ es (kT k)=(f k).map eJ:=by
 obtain⟨es',c',h1,h2,h3⟩:=h;rw[g]at h1;cases h1;exact⟨h2,h3⟩
theorem Hc{S:St}{l N:Nat}{ids:List UInt8→Option Nat}{F:gu}(h:BM S l N ids F){es:List (Value×DV×Nat)}{c:Nat}(g:lk S.acc l=some (.xo (.mp .str es c))):es.length≤N∧∀k,aJ es (kT k)=(ids k).map DV.mp:=by
 obtain⟨es',c',h1,h2,h3⟩:=h.top;rw[g]at h1;cases h1;exact⟨h2,h3⟩
def fI(F:gu)(n:List UInt8)(f:List UInt8→Option (List UInt8)):gu:=fun m=>if m=n then some f else F m
theorem F6{S:St}{d N M:Nat}{ids:List UInt8→Option Nat}{F:gu}(h:BM S d N ids F)(hNM:N≤M){n:List UInt8}{i:Nat}(hi:ids n=some i){o:Ob}{f:List UInt8→Option (List UInt8)}(hn:IM ⟨S.box,up S.acc i o⟩ i M f):BM ⟨S.box,up S.acc i o⟩ d M ids (fI F n f) where
 top:=by
  obtain⟨es,c,h1,h2,h3⟩:=h.top;exact⟨es,c,by show lk (up S.acc i o) d=_;rw[ab (h.ne n i hi)];exact h1,by omega,h3⟩
 some_:=fun m=>by
  unfold fI;by_cases e:m=n
  ·rw[if_pos e,e,hi];simp
  ·rw[if_neg e];exact h.some_ m
 low:=fun m j g q1 q2=>by
  unfold fI at q2;by_cases e:m=n
  ·rw[if_pos e]at q2;cases q2;rw[e,hi]at q1;cases q1;exact hn
  ·rw[if_neg e]at q2;refine((h.low m j g q1 q2).mono fun x hx=>?_).le hNM;show lk (up S.acc i o) j=_;rw[ab (fun q=>e (h.inj m n i (by rw[q1,q]) hi))];exact hx
 inj:=h.inj
 ne:=h.ne
theorem tX{S:St}{i:Nat}{x o:Ob}(g:lk S.acc i=some x):lk (up S.acc i o) i=some o:=by rw[aE,g];rfl
theorem Dh{S:St}{d N:Nat}{ids:List UInt8→Option Nat}{F:gu}(h:BM S d N ids F){n:List UInt8}{i:Nat}(hi:ids n=some i){f:List UInt8→Option (List UInt8)}(hf:F n=some f){es:List (Value×DV×Nat)}{c:Nat}(g:lk S.acc i=some (.xo (.mp .str es c)))(k v:List UInt8):
 BM ⟨S.box,up S.acc i (.xo (.mp .str (cU es c (kT k) (eJ v)) (eD es c (kT k))))⟩ d (N+1) ids (fI F n fun j=>if j=k then some v else f j):=by
 obtain⟨g1,g2⟩:=DZ (h.low n i f hi hf) g;refine F6 h (by omega) hi ⟨_,_,tX g,?_,fun j=>?_⟩
 ·have:=pR es c (kT k) (eJ v);omega
 ·dsimp only;by_cases e:j=k
  ·rw[if_pos e,e,aY];rfl
  ·rw[if_neg e,bW _ _ (fun q=>e (dy q)),g2]
theorem uY(es:List (Value×DV×Nat))(k:Value):(gY es k).length≤es.length:=by
 unfold gY;exact List.length_filter_le _ _
theorem Cs{S:St}{d N:Nat}{ids:List UInt8→Option Nat}{F:gu}(h:BM S d N ids F){n:List UInt8}{i:Nat}(hi:ids n=some i){f:List UInt8→Option (List UInt8)}(hf:F n=some f){es:List (Value×DV×Nat)}{c:Nat}(g:lk S.acc i=some (.xo (.mp .str es c)))(k:List UInt8):
 BM ⟨S.box,up S.acc i (.xo (.mp .str (gY es (kT k)) c))⟩ d N ids (fI F n fun j=>if j=k then none else f j):=by
 obtain⟨g1,g2⟩:=DZ (h.low n i f hi hf) g;refine F6 h (Xg _) hi ⟨_,_,tX g,?_,fun j=>?_⟩
 ·have:=uY es (kT k);omega
 ·dsimp only;by_cases e:j=k
  ·rw[if_pos e,e,cZ];rfl
  ·rw[if_neg e,dj _ (fun q=>e (dy q)),g2]
theorem HS{S:St}{d N:Nat}{ids:List UInt8→Option Nat}{F:gu}(h:BM S d N ids F){es:List (Value×DV×Nat)}{c:Nat}(g:lk S.acc d=some (.xo (.mp .str es c)))(n:List UInt8):
 BM ⟨S.box,up S.acc d (.xo (.mp .str (gY es (kT n)) c))⟩ d N (fun m=>if m=n then none else ids m) (fun m=>if m=n then none else F m):=by
 obtain⟨g1,g2⟩:=Hc h g;refine⟨⟨_,_,tX g,?_,fun m=>?_⟩,fun m=>?_,fun m j f q1 q2=>?_,fun m m' j q1 q2=>?_,fun m j q1=>?_⟩
 ·have:=uY es (kT n);omega
 ·try dsimp only at*
  by_cases e:m=n
  ·rw[if_pos e,e,cZ];rfl
  ·rw[if_neg e,dj _ (fun q=>e (dy q)),g2]
 ·try dsimp only at*
  by_cases e:m=n
  ·rw[if_pos e,if_pos e];simp
  ·rw[if_neg e,if_neg e];exact h.some_ m
 ·try dsimp only at*
  by_cases e:m=n
  ·rw[if_pos e]at q1;cases q1
  ·rw[if_neg e]at q1 q2;refine(h.low m j f q1 q2).mono fun x hx=>?_;show lk (up S.acc d _) j=_;rw[ab (fun q=>h.ne m j q1 q.symm)];exact hx
 ·try dsimp only at*
  by_cases e:m=n
  ·rw[if_pos e]at q1;cases q1
  ·by_cases e':m'=n
   ·rw[if_pos e']at q2;cases q2
   ·rw[if_neg e]at q1;rw[if_neg e']at q2;exact h.inj m m' j q1 q2
 ·try dsimp only at*
  by_cases e:m=n
  ·rw[if_pos e]at q1;cases q1
  ·rw[if_neg e]at q1;exact h.ne m j q1
theorem HT{S:St}{d N:Nat}{ids:List UInt8→Option Nat}{F:gu}(h:BM S d N ids F){es:List (Value×DV×Nat)}{c:Nat}(g:lk S.acc d=some (.xo (.mp .str es c)))(n:List UInt8){l:Nat}(hl:lk S.acc l=none):
 BM ⟨S.box,(l,.xo (.mp .str [] 0))::up S.acc d (.xo (.mp .str (cU es c (kT n) (.mp l)) (eD es c (kT n))))⟩ d (N+1) (fun m=>if m=n then some l else ids m) (fI F n fun _=>none):=by
 obtain⟨g1,g2⟩:=Hc h g;have hld:¬l=d:=fun e=>by rw[e,g]at hl;cases hl
 have old:∀m j,ids m=some j→lk S.acc j≠none:=fun m j q=>by
  obtain⟨f,hf⟩:=XH.1 (fun r=>by rw[(h.some_ m).2 r]at q;cases q);exact(h.low m j f q hf).lk
 refine⟨⟨cU es c (kT n) (.mp l),eD es c (kT n),?_,?_,fun m=>?_⟩,fun m=>?_,fun m j f q1 q2=>?_,fun m m' j q1 q2=>?_,fun m j q1=>?_⟩
 ·show lk (_::_) d=_;simp only[lk];rw[if_neg hld];exact tX g
 ·have:=pR es c (kT n) (.mp l);omega
 ·try dsimp only at*
  by_cases e:m=n
  ·rw[if_pos e,e,aY];rfl
  ·rw[if_neg e,bW _ _ (fun q=>e (dy q)),g2]
 ·unfold fI
  try dsimp only
  by_cases e:m=n
  ·rw[if_pos e,if_pos e];simp
  ·rw[if_neg e,if_neg e];exact h.some_ m
 ·unfold fI at q2
  try dsimp only at q1 q2
  by_cases e:m=n
  ·rw[if_pos e]at q1 q2;cases q1;cases q2;exact⟨[],0,by simp[lk],XR _,fun k=>by simp[aJ]⟩
  ·rw[if_neg e]at q1 q2;refine((h.low m j f q1 q2).mono fun x hx=>?_).le (by omega);show lk (_::_) j=_;simp only[lk];rw[if_neg (fun q=>old m j q1 (by rw[←q];exact hl)),ab (fun q=>h.ne m j q1 q.symm)];exact hx
 ·try dsimp only at*
  by_cases e:m=n
  ·rw[if_pos e]at q1;cases q1;by_cases e':m'=n
   ·rw[e,e']
   ·rw[if_neg e']at q2;exact absurd hl (old m' _ q2)
  ·rw[if_neg e]at q1;by_cases e':m'=n
   ·rw[if_pos e']at q2;cases q2;exact absurd hl (old m _ q1)
   ·rw[if_neg e']at q2;exact h.inj m m' j q1 q2
 ·try dsimp only at*
  by_cases e:m=n
  ·rw[if_pos e]at q1;cases q1;exact hld
  ·rw[if_neg e]at q1;exact h.ne m j q1
theorem L5(w0:W0){S:St}{w m own:Nat}{o:bl}{full:Bool}{c:Cf}{ls:List Nat}{t sn:Nat}(hw:lk S.box w=some (qY m own o full))(hm:lk S.box m=some (DK c ls t sn))(hu:dq c.up)(hq:jl c.up o.label o.level=false→mj w0 S 31):
 aa Tryz.prog w0 81 [bg w] S (fun d S'=>jl c.up o.label o.level=true∧d=HH∧S'=S):=by
 refine mi [] mx Tryz.func81 rfl rfl (by kernel_rfl) ?_;simp(maxDischargeDepth:=12) (maxSteps:=1000000) -implicitDefEqProofs only[Tryz.ntmps81,go_sem,Nat.reduceAdd,Nat.reduceSub,Nat.reduceMul,Nat.reduceLeDiff,Nat.reduceEqDiff,Nat.reduceGT,Nat.reduceBEq,reduceCtorEq,↓reduceIte,Int.reduceToNat,Int.reduceLE,Int.reduceLT,Int.reduceNe,Int.reduceEq];intro b2;have e1:=bu b2 hw;have e2:=bu b2 hm;have hH:∀ds,Has S ⟨(b2.n,ds)::S.box,S.acc⟩:=fun ds=>(Has.refl S).aP b2 ds rfl;simp(maxDischargeDepth:=12) (maxSteps:=1000000) -implicitDefEqProofs only[go_sem,Nat.reduceAdd,Nat.reduceSub,Nat.reduceMul,Nat.reduceLeDiff,Nat.reduceEqDiff,Nat.reduceGT,Nat.reduceBEq,reduceCtorEq,↓reduceIte,Int.reduceToNat,Int.reduceLE,Int.reduceLT,Int.reduceNe,Int.reduceEq,e1,hw];refine aw (mF w0 (w:=w) (m:=m) (own:=own) (o:=o) (full:=full) (c:=c) (ls:=ls) (t:=t) (sn:=sn) (by simp(maxDischargeDepth:=12) (maxSteps:=1000000) -implicitDefEqProofs only[go_sem,Nat.reduceAdd,Nat.reduceSub,Nat.reduceMul,Nat.reduceLeDiff,Nat.reduceEqDiff,Nat.reduceGT,Nat.reduceBEq,reduceCtorEq,↓reduceIte,Int.reduceToNat,Int.reduceLE,Int.reduceLT,Int.reduceNe,Int.reduceEq,e1,hw]) (by simp(maxDischargeDepth:=12) (maxSteps:=1000000) -implicitDefEqProofs only[go_sem,Nat.reduceAdd,Nat.reduceSub,Nat.reduceMul,Nat.reduceLeDiff,Nat.reduceEqDiff,Nat.reduceGT,Nat.reduceBEq,reduceCtorEq,↓reduceIte,Int.reduceToNat,Int.reduceLE,Int.reduceLT,Int.reduceNe,Int.reduceEq,e2,hm]) hu o.label) ?_
 cases hle:jl c.up o.label o.level with
 |true=>
  simp(maxDischargeDepth:=12) (maxSteps:=1000000) -implicitDefEqProofs only[go_sem,Nat.reduceAdd,Nat.reduceSub,Nat.reduceMul,Nat.reduceLeDiff,Nat.reduceEqDiff,Nat.reduceGT,Nat.reduceBEq,reduceCtorEq,↓reduceIte,Int.reduceToNat,Int.reduceLE,Int.reduceLT,Int.reduceNe,Int.reduceEq];refine aj (aC w0 true 31 _ (fun h=>by cases h)) ?_;rintro _ _ ⟨_,rfl,rfl⟩;simp(maxDischargeDepth:=12) (maxSteps:=1000000) -implicitDefEqProofs only[go_sem,Nat.reduceAdd,Nat.reduceSub,Nat.reduceMul,Nat.reduceLeDiff,Nat.reduceEqDiff,Nat.reduceGT,Nat.reduceBEq,reduceCtorEq,↓reduceIte,Int.reduceToNat,Int.reduceLE,Int.reduceLT,Int.reduceNe,Int.reduceEq,e1,hw];exact⟨_,_,.refl _,(Sub.refl _).aP,rfl,rfl⟩
 |false=>
  simp(maxDischargeDepth:=12) (maxSteps:=1000000) -implicitDefEqProofs only[go_sem,Nat.reduceAdd,Nat.reduceSub,Nat.reduceMul,Nat.reduceLeDiff,Nat.reduceEqDiff,Nat.reduceGT,Nat.reduceBEq,reduceCtorEq,↓reduceIte,Int.reduceToNat,Int.reduceLE,Int.reduceLT,Int.reduceNe,Int.reduceEq];refine aj (aC w0 false 31 _ (fun _=>(hq hle).to (hH _))) ?_;rintro _ _ ⟨q,_⟩;cases q
theorem L8(w0:W0){S:St}{w m own b:Nat}{o:bl}{full:Bool}{au dr:DV}{has:Int}{c:Cf}{ls:List Nat}{sn:Nat}{θ:ec}{r:List RH}(hw:lk S.box w=some (qY m own o full))(hl:lk S.box own=some (lC b au has dr))(hm:lk S.box m=some (DK c ls θ.t sn))(hT:TI S θ r)
 (hno:(own=w)=False) (hnm:(own=m)=False) (hob:own∉θ.bx):
 aa Tryz.prog w0 69 [bg w] S (fun d S'=>d=HH∧TI S' θ (mP r o.level o.aB).1∧vD ⟨up S.box own (lC b au (if has=o.aB then 0 else has) dr),S.acc⟩ S' θ θ):=by
 refine mi [3] mx Tryz.func69 rfl rfl (by kernel_rfl) ?_;simp(maxDischargeDepth:=12) (maxSteps:=1000000) -implicitDefEqProofs only[Tryz.ntmps69,go_sem,Nat.reduceAdd,Nat.reduceSub,Nat.reduceMul,Nat.reduceLeDiff,Nat.reduceEqDiff,Nat.reduceGT,Nat.reduceBEq,reduceCtorEq,↓reduceIte,Int.reduceToNat,Int.reduceLE,Int.reduceLT,Int.reduceNe,Int.reduceEq];intro b2;have e1:=bu b2 hw;have e2:=bu b2 hl;have e3:=bu b2 hm;refine aj (tu w0 (w:=w) (own:=own) (m:=m) (o:=o) (full:=full) (b:=b) (au:=au) (dr:=dr) (has:=has) (by simp(maxDischargeDepth:=12) (maxSteps:=1000000) -implicitDefEqProofs only[go_sem,Nat.reduceAdd,Nat.reduceSub,Nat.reduceMul,Nat.reduceLeDiff,Nat.reduceEqDiff,Nat.reduceGT,Nat.reduceBEq,reduceCtorEq,↓reduceIte,Int.reduceToNat,Int.reduceLE,Int.reduceLT,Int.reduceNe,Int.reduceEq,e1,hw]) (by simp(maxDischargeDepth:=12) (maxSteps:=1000000) -implicitDefEqProofs only[go_sem,Nat.reduceAdd,Nat.reduceSub,Nat.reduceMul,Nat.reduceLeDiff,Nat.reduceEqDiff,Nat.reduceGT,Nat.reduceBEq,reduceCtorEq,↓reduceIte,Int.reduceToNat,Int.reduceLE,Int.reduceLT,Int.reduceNe,Int.reduceEq,e2,hl])) ?_;rintro _ _ ⟨rfl,rfl⟩;by_cases hh:has=o.aB
 ·rw[decide_eq_true hh,if_pos hh];simp(maxDischargeDepth:=12) (maxSteps:=1000000) -implicitDefEqProofs only[go_sem,Nat.reduceAdd,Nat.reduceSub,Nat.reduceMul,Nat.reduceLeDiff,Nat.reduceEqDiff,Nat.reduceGT,Nat.reduceBEq,reduceCtorEq,↓reduceIte,Int.reduceToNat,Int.reduceLE,Int.reduceLT,Int.reduceNe,Int.reduceEq,e1,e2,e3,hw,hl,hm,hno,hnm];refine Y.iM [8] [9] [0,1,2,7,3,4,5,6,8,9] mx (by kernel_rfl) ?_;simp(maxDischargeDepth:=12) (maxSteps:=1000000) -implicitDefEqProofs only[go_sem,Nat.reduceAdd,Nat.reduceSub,Nat.reduceMul,Nat.reduceLeDiff,Nat.reduceEqDiff,Nat.reduceGT,Nat.reduceBEq,reduceCtorEq,↓reduceIte,Int.reduceToNat,Int.reduceLE,Int.reduceLT,Int.reduceNe,Int.reduceEq,e1,e2,e3,hw,hl,hm,hno,hnm];refine aj (dG w0 (w:=w) (m:=m) (own:=own) (o:=o) (full:=full) (by simp(maxDischargeDepth:=12) (maxSteps:=1000000) -implicitDefEqProofs only[go_sem,Nat.reduceAdd,Nat.reduceSub,Nat.reduceMul,Nat.reduceLeDiff,Nat.reduceEqDiff,Nat.reduceGT,Nat.reduceBEq,reduceCtorEq,↓reduceIte,Int.reduceToNat,Int.reduceLE,Int.reduceLT,Int.reduceNe,Int.reduceEq,e1,hno,hw])) ?_;rintro _ _ ⟨rfl,rfl⟩;simp(maxDischargeDepth:=12) (maxSteps:=1000000) -implicitDefEqProofs only[go_sem,Nat.reduceAdd,Nat.reduceSub,Nat.reduceMul,Nat.reduceLeDiff,Nat.reduceEqDiff,Nat.reduceGT,Nat.reduceBEq,reduceCtorEq,↓reduceIte,Int.reduceToNat,Int.reduceLE,Int.reduceLT,Int.reduceNe,Int.reduceEq,e1,e2,e3,hw,hl,hm,hno,hnm];have hb2:lk S.box b2.n=none:=ak b2;have hbt:b2.n∉θ.bx:=fun hc=>hT.mn _ hc hb2
  have hTx:TI ⟨(b2.n,[dI 0,dI 0,.sl 0 true [],dI 0,dI 0,dI 0,dI 0,.sl 0 true []])::up S.box own [.mp b,au,dI 0,dr],S.acc⟩ θ r:=hT.mono (fun j x hj hx=>by
   show lk (_::_) j=_;simp only[lk];rw[if_neg (show¬b2.n=j from fun q=>hbt (by rw[q];exact hj)),ab (show¬own=j from fun q=>hob (by rw[q];exact hj))];exact hx) fun _ _ _ h=>h
  refine aj (Es w0 hTx o.level o.aB) ?_;rintro _ T ⟨rfl,hT',hF⟩;have g2:lk T.box b2.n=some [dI 0,dI 0,.sl 0 true [],dI 0,dI 0,dI 0,dI 0,.sl 0 true []]:=hF.box _ _ hbt (by simp[lk]);simp(maxDischargeDepth:=12) (maxSteps:=1000000) -implicitDefEqProofs only[go_sem,Nat.reduceAdd,Nat.reduceSub,Nat.reduceMul,Nat.reduceLeDiff,Nat.reduceEqDiff,Nat.reduceGT,Nat.reduceBEq,reduceCtorEq,↓reduceIte,Int.reduceToNat,Int.reduceLE,Int.reduceLT,Int.reduceNe,Int.reduceEq,g2]
  have hne2:∀j x,lk (up S.box own [.mp b,au,dI 0,dr]) j=some x→¬b2.n=j:=fun j x hx q=>by
   rw[←q,ab (fun r=>by rw[←e2];exact r.symm),hb2]at hx;cases hx
  refine⟨_,_,.refl _,.refl _,rfl,hT'.mono (fun j x hj hx=>?_) (fun _ _ _ h=>h),⟨rfl,fun j x hj hx=>?_,fun j x hj hx=>hF.acc j x hj hx,fun j hj=> .inl hj,fun j hj=> .inl hj⟩⟩
  ·show lk (up T.box b2.n _) j=_;rw[ab (show¬b2.n=j from fun q=>hbt (by rw[q];exact hj))];exact hx
  ·show lk (up T.box b2.n _) j=_;rw[ab (hne2 j x hx)];refine hF.box j x hj ?_;show lk (_::_) j=_;simp only[lk];rw[if_neg (hne2 j x hx)];exact hx
 ·rw[decide_eq_false hh,if_neg hh,og hl];simp(maxDischargeDepth:=12) (maxSteps:=1000000) -implicitDefEqProofs only[go_sem,Nat.reduceAdd,Nat.reduceSub,Nat.reduceMul,Nat.reduceLeDiff,Nat.reduceEqDiff,Nat.reduceGT,Nat.reduceBEq,reduceCtorEq,↓reduceIte,Int.reduceToNat,Int.reduceLE,Int.reduceLT,Int.reduceNe,Int.reduceEq,e1,e2,e3,hw,hl,hm,hno,hnm];refine Y.iM [8] [9] [0,1,2,7,3,4,5,6,8,9] mx (by kernel_rfl) ?_;simp(maxDischargeDepth:=12) (maxSteps:=1000000) -implicitDefEqProofs only[go_sem,Nat.reduceAdd,Nat.reduceSub,Nat.reduceMul,Nat.reduceLeDiff,Nat.reduceEqDiff,Nat.reduceGT,Nat.reduceBEq,reduceCtorEq,↓reduceIte,Int.reduceToNat,Int.reduceLE,Int.reduceLT,Int.reduceNe,Int.reduceEq,e1,e2,e3,hw,hl,hm,hno,hnm];refine aj (dG w0 (w:=w) (m:=m) (own:=own) (o:=o) (full:=full) (by simp(maxDischargeDepth:=12) (maxSteps:=1000000) -implicitDefEqProofs only[go_sem,Nat.reduceAdd,Nat.reduceSub,Nat.reduceMul,Nat.reduceLeDiff,Nat.reduceEqDiff,Nat.reduceGT,Nat.reduceBEq,reduceCtorEq,↓reduceIte,Int.reduceToNat,Int.reduceLE,Int.reduceLT,Int.reduceNe,Int.reduceEq,e1,hw])) ?_;rintro _ _ ⟨rfl,rfl⟩;simp(maxDischargeDepth:=12) (maxSteps:=1000000) -implicitDefEqProofs only[go_sem,Nat.reduceAdd,Nat.reduceSub,Nat.reduceMul,Nat.reduceLeDiff,Nat.reduceEqDiff,Nat.reduceGT,Nat.reduceBEq,reduceCtorEq,↓reduceIte,Int.reduceToNat,Int.reduceLE,Int.reduceLT,Int.reduceNe,Int.reduceEq,e1,e2,e3,hw,hl,hm,hno,hnm];have hb2:lk S.box b2.n=none:=ak b2;have hbt:b2.n∉θ.bx:=fun hc=>hT.mn _ hc hb2
  have hTx:TI ⟨(b2.n,[dI 0,dI 0,.sl 0 true [],dI 0,dI 0,dI 0,dI 0,.sl 0 true []])::S.box,S.acc⟩ θ r:=hT.mono (fun j x hj hx=>by
   show lk (_::_) j=_;simp only[lk];rw[if_neg (show¬b2.n=j from fun q=>hbt (by rw[q];exact hj))];exact hx) fun _ _ _ h=>h
  refine aj (Es w0 hTx o.level o.aB) ?_;rintro _ T ⟨rfl,hT',hF⟩;have g2:lk T.box b2.n=some [dI 0,dI 0,.sl 0 true [],dI 0,dI 0,dI 0,dI 0,.sl 0 true []]:=hF.box _ _ hbt (by simp[lk]);simp(maxDischargeDepth:=12) (maxSteps:=1000000) -implicitDefEqProofs only[go_sem,Nat.reduceAdd,Nat.reduceSub,Nat.reduceMul,Nat.reduceLeDiff,Nat.reduceEqDiff,Nat.reduceGT,Nat.reduceBEq,reduceCtorEq,↓reduceIte,Int.reduceToNat,Int.reduceLE,Int.reduceLT,Int.reduceNe,Int.reduceEq,g2]
  have hne2:∀j x,lk (S.box) j=some x→¬b2.n=j:=fun j x hx q=>by
   rw[←q,hb2]at hx;cases hx
  refine⟨_,_,.refl _,.refl _,rfl,hT'.mono (fun j x hj hx=>?_) (fun _ _ _ h=>h),⟨rfl,fun j x hj hx=>?_,fun j x hj hx=>hF.acc j x hj hx,fun j hj=> .inl hj,fun j hj=> .inl hj⟩⟩
  ·show lk (up T.box b2.n _) j=_;rw[ab (show¬b2.n=j from fun q=>hbt (by rw[q];exact hj))];exact hx
  ·show lk (up T.box b2.n _) j=_;rw[ab (hne2 j x hx)];refine hF.box j x hj ?_;show lk (_::_) j=_;simp only[lk];rw[if_neg (hne2 j x hx)];exact hx
theorem Sw(w0:W0){S:St}{bx w m own:Nat}{o:bl}{full:Bool}(hb:lk S.box bx=some [bg w])(hw:lk S.box w=some (qY m own o full))(k:List UInt8):
 aa Tryz.prog w0 125 [dS (tx k),bg bx] S (fun d S'=>d=dB (decide (k=o.key))∧S'=S):=by
 have htx:(tx k=tx o.key)=(k=o.key):=propext ⟨El,fun h=>by rw[h]⟩;refine cb [] mx Tryz.func125 rfl rfl (by kernel_rfl) ?_;simp only[Tryz.ntmps125,Xo,XP,Nat.reduceAdd,Nat.reduceSub,List.reduceReplicate,Yi,Yx];simp(maxDischargeDepth:=12) (maxSteps:=1000000) -implicitDefEqProofs only[Tryz.ntmps125,go_sem,Nat.reduceAdd,Nat.reduceSub,Nat.reduceMul,Nat.reduceLeDiff,Nat.reduceEqDiff,Nat.reduceGT,Nat.reduceBEq,reduceCtorEq,↓reduceIte,Int.reduceToNat,Int.reduceLE,Int.reduceLT,Int.reduceNe,Int.reduceEq,hb,hw]
def qv(n:Int):Int:=if n<0 then 0 else if n>50 then 50 else n
theorem Rk(w0:W0)(n:Int)(S:St):aa Tryz.prog w0 128 [dI n] S (fun d S'=>d=dI (qv n)∧S'=S):=by
 refine cb [] mx Tryz.func128 rfl rfl (by kernel_rfl) ?_;simp(maxDischargeDepth:=12) (maxSteps:=1000000) -implicitDefEqProofs only[Tryz.ntmps128,go_sem,Nat.reduceAdd,Nat.reduceSub,Nat.reduceMul,Nat.reduceLeDiff,Nat.reduceEqDiff,Nat.reduceGT,Nat.reduceBEq,reduceCtorEq,↓reduceIte,Int.reduceToNat,Int.reduceLE,Int.reduceLT,Int.reduceNe,Int.reduceEq];unfold qv
 (repeat' split) <;>omega
@[go_sem] def cR (l:List hY):DV:= .sl 3 false (l.map pQ)
theorem EI(w0:W0)(l m:List hY)(h0:l.length≤4611686018427387904)(S:St):aa Tryz.prog w0 16 [cR l,cR m] S (fun d S'=>d=dB (pB (l=m))∧S'=S):=by
 refine cb [] mx Tryz.func16 rfl rfl (by kernel_rfl) ?_;simp(maxDischargeDepth:=12) (maxSteps:=1000000) -implicitDefEqProofs only[Tryz.ntmps16,go_sem,Nat.reduceAdd,Nat.reduceSub,Nat.reduceMul,Nat.reduceLeDiff,Nat.reduceEqDiff,Nat.reduceGT,Nat.reduceBEq,reduceCtorEq,↓reduceIte,Int.reduceToNat,Int.reduceLE,Int.reduceLT,Int.reduceNe,Int.reduceEq];refine⟨fun h1 h2=>h1 (congrArg List.length h2),fun h=>?_⟩;have h:l.length=m.length:=by omega
 refine aX [] l.length [0,1,5] (fun i=>[(5,dI i)]) (fun i=>S) (fun i=>∀j,j<i→l[j]? =m[j]?) mx (by kernel_rfl) ?_ ?_
 ·simp(maxDischargeDepth:=12) (maxSteps:=1000000) -implicitDefEqProofs only[go_sem,Nat.reduceAdd,Nat.reduceSub,Nat.reduceMul,Nat.reduceLeDiff,Nat.reduceEqDiff,Nat.reduceGT,Nat.reduceBEq,reduceCtorEq,↓reduceIte,Int.reduceToNat,Int.reduceLE,Int.reduceLT,Int.reduceNe,Int.reduceEq];intro j hj;omega
 ·intro i hi hinv;have e1:i<4611686018427387904→IntKind.i64.wrap ((i:Int)+1)=((i+1:Nat):Int):=fun h=>aH (by omega);by_cases hil:i<l.length
  ·have e1:=e1 (by omega);have hx:l[i]? =some l[i]:=Xb hil;have hy:m[i]? =some (m[i]'(by omega)):=Xb (by omega);generalize l[i]=x at hx;generalize m[i]'(by omega)=y at hy;simp(maxDischargeDepth:=12) (maxSteps:=1000000) -implicitDefEqProofs only[go_sem,Nat.reduceAdd,Nat.reduceSub,Nat.reduceMul,Nat.reduceLeDiff,Nat.reduceEqDiff,Nat.reduceGT,Nat.reduceBEq,reduceCtorEq,↓reduceIte,Int.reduceToNat,Int.reduceLE,Int.reduceLT,Int.reduceNe,Int.reduceEq,hx,hy,e1];refine⟨fun _=>⟨hil,by omega,fun he=>⟨hil,fun j hj=>?_⟩,fun hne e=>?_⟩,fun h=>absurd hil h⟩
   ·by_cases e:j=i
    ·subst e;simp only[Xe,decide_eq_true_eq]at he;obtain⟨⟨q1,q2⟩,q3⟩:=he;rw[hx,hy];cases x;cases y;simp at q1 q2 q3;rw[q1,q2,q3]
    ·exact hinv j (by omega)
   ·rw[e,hy]at hx;have:=XJ hx;subst this;simp at hne
  ·simp(maxDischargeDepth:=12) (maxSteps:=1000000) -implicitDefEqProofs only[go_sem,Nat.reduceAdd,Nat.reduceSub,Nat.reduceMul,Nat.reduceLeDiff,Nat.reduceEqDiff,Nat.reduceGT,Nat.reduceBEq,reduceCtorEq,↓reduceIte,Int.reduceToNat,Int.reduceLE,Int.reduceLT,Int.reduceNe,Int.reduceEq];refine⟨fun h=>absurd h hil,fun _=>?_⟩;refine Ya fun j=>?_;by_cases hj:j<l.length
   ·exact hinv j (by omega)
   ·rw[Xk (by omega),Xk (by omega)]
end Go.Proofs.YtoepfmhnapedoaaGreatDoor
