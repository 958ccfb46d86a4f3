/-
  Part 8 of the proof that the last text ends: from 'The numbers of the bits that are 1, one by one: the program's iterator' to 'Small functions of reading; rows compared: walked'. By an AI agent.
-/
import Derived.Test.YtoepfmhnapedoaaGreatDoorMI7
import Derived.RangeFuncNested
set_option linter.unusedVariables false
set_option linter.unusedSimpArgs false
set_option maxRecDepth 100000
set_option maxHeartbeats 16000000
namespace Go.Proofs.YtoepfmhnapedoaaGreatDoor
open Aml Go Lat
def NX:List Int:=[0,1,56,2,57,49,28,3,61,58,42,50,38,29,17,4,62,47,59,36,45,43,51,22,53,39,33,30,24,18,12,5,63,55,48,27,60,41,37,16,46,35,44,21,52,32,23,11,54,26,40,15,34,20,31,10,25,14,19,9,13,8,7,6]
def NG:List Value:=NX.map fun z=> .int .u8 z
def ga(w0:W0):Prop:=mf w0 4 NG
def JT(k:Nat):Int:=(IntKind.u64.wrap (((2^k:Nat):Int)*285870213051353865)).fdiv (2^min 58 64)
theorem Kg:∀k:Fin 64,0≤JT k.val∧JT k.val<64∧NX[(JT k.val).toNat]? =some (k.val:Int):=by decide +kernel
theorem PU(k:Nat)(hk:k<64):NG.drop ((JT k).toNat*1)= .int .u8 (k:Int)::NG.drop ((JT k).toNat+1):=by
 obtain⟨h1,h2,h3⟩:=Kg ⟨k,hk⟩;dsimp only at h1 h2 h3;rw[XV];obtain⟨hlt,hv⟩:=Wd.1 h3;have hd:NX.drop (JT k).toNat=(k:Int)::NX.drop ((JT k).toNat+1):=by rw[List.drop_eq_getElem_cons hlt,hv]
 unfold NG;rw[←List.map_drop,hd,WG,List.map_drop]
theorem Un(w0:W0)(hg:ga w0)(x k:Nat)(hx:x<18446744073709551616)(hk:k<64)(h:qa x k)(S:St):aa Tryz.prog w0 196 [dU (x:Int)] S (fun d S'=>d=dI (k:Int)∧S'=S):=by
 have hG:=og hg;have hne:x≠0:=by rintro rfl;have:=h.1;simp at this
 have hb:cu .and .u64 (x:Int) (IntKind.u64.wrap (0-(x:Int)))=((2^k:Nat):Int):=by
  have e:IntKind.u64.wrap (0-(x:Int))=((18446744073709551616-x:Nat):Int):=by
   show(0-(x:Int))%18446744073709551616=_;omega
  rw[e,dW hx (by omega),IA h hk hx]
 obtain⟨h1,h2,_⟩:=Kg ⟨k,hk⟩;have h4:=PU k hk;unfold JT at h1 h2 h4;dsimp only at h1 h2;refine cc [] mx Tryz.func196 rfl rfl (by kernel_rfl) ?_;simp(maxDischargeDepth:=12) (maxSteps:=1000000) -implicitDefEqProofs only[Tryz.ntmps196,go_sem,Nat.reduceAdd,Nat.reduceSub,Nat.reduceMul,Nat.reduceLeDiff,Nat.reduceEqDiff,Nat.reduceGT,Nat.reduceBEq,reduceCtorEq,↓reduceIte,Int.reduceToNat,Int.reduceLE,Int.reduceLT,Int.reduceNe,Int.reduceEq,hG,hb];refine⟨fun q=>by omega,fun _=>⟨h1,h2,?_,?_⟩⟩
 ·show _≤64;omega
 ·rw[h4];simp(maxDischargeDepth:=12) (maxSteps:=1000000) -implicitDefEqProofs only[go_sem,Nat.reduceAdd,Nat.reduceSub,Nat.reduceMul,Nat.reduceLeDiff,Nat.reduceEqDiff,Nat.reduceGT,Nat.reduceBEq,reduceCtorEq,↓reduceIte,Int.reduceToNat,Int.reduceLE,Int.reduceLT,Int.reduceNe,Int.reduceEq];exact pN (by omega) (by omega)
theorem rP{ro:Option Nat}{P:Program}{ops:Array Oper}{Q:Exit→Act→World→Prop}{o:Oper}{rest:List Oper}{a:Act}{w w':World}{v:Value}(hg:o.guard=none)(hn:∀c,o.op≠ .defer c)(hr:(execOp a.eval o).run P w= .ok (.value v) w')
 (h:wpListIn (fz ro) 0 P ops Q rest (a.put o.dst v) w'):wpListIn (fz ro) 0 P ops Q (o::rest) a w:=by
 unfold wpListIn;rw[if_pos (by simp[Region.wanted,hg])];refine⟨fun _ _=>trivial,?_⟩;rw[Oper.semAt_eq _ _ _ hn,hr];exact h
theorem list_round{ro:Option Nat}{P:Program}{ops:Array Oper}{Q:Exit→Act→World→Prop}{o:Oper}{rest:List Oper}{a:Act}{w w':World}{l:Nat}{f:FuncId}{tmps:Array Value}{assign body:Code}{R:Ending→World→Prop}(hg:o.guard=none)(hn:∀c,o.op≠ .defer c)(hr:(execOp a.eval o).run P w= .ok (.round l f tmps assign body) w')
 (hR:RoundIn (fz ro) 0 P l f tmps assign body w' R) (h:∀e w'',R e w''→∃v,e= .returned v∧wpListIn (fz ro) 0 P ops Q rest (a.put o.dst v) w''):wpListIn (fz ro) 0 P ops Q (o::rest) a w:=by
 unfold wpListIn;rw[if_pos (by simp[Region.wanted,hg])];refine⟨fun _ _=>trivial,?_⟩;rw[Oper.semAt_eq _ _ _ hn,hr];refine⟨fun h=>by simp[fz,Fence.wide]at h,hR.mono fun e w'' k=>?_⟩;obtain⟨v,rfl,h⟩:=h e w'' k;exact h
theorem yo{g g':Gh}{ds:List DV}{us:List Value}(h:ae g ds us)(hp:∀d,d∈ds→(∃u,d= .v u)∨d= .any):ae g' ds us:=by
 refine⟨h.len,fun i d u h1 h2=>?_⟩;have hr:=h.at_ i d u h1 h2;rcases hp d (Wc h1)with⟨u',rfl⟩|rfl
 ·cases hr with
  |v _ ho=>exact .v _ ho
 ·exact .any _
def eF(l b:Nat):List DV:=wk [0,1] (cz ([.v (.func (.yield l) #[] #[]),.v (.pointer (some ⟨b,0,none⟩))]++List.replicate 14 ud))
def LB(l b k:Nat):List DV:=wk [0,1,3] (cz ([.v (.func (.yield l) #[] #[]),.v (.pointer (some ⟨b,0,none⟩)),.any,dI (k:Int)]++List.replicate 12 .any))
theorem C0(w0:W0)(hpq:∀d S,¬w0.pq d S)(hg:ga w0){l b x:Nat}(hx:x<18446744073709551616)(X:List Nat→Nat→St)(hb:∀pre y,lk (X pre y).box b=some [dU (y:Int)])
 (hup:∀pre (y y':Nat),(⟨up (X pre y).box b [dU (y':Int)],(X pre y).acc⟩:St)=X pre y') (Inv:List Nat→Prop) (hI0:Inv []) (G:Gh→Prop) (hGle:∀g g',G g→g.le g'→G g') (hGd:∀g,G g→g.j0=[]) (J:World→Prop)
 (hround:∀pre k y g w,pre++k::aQ y=aQ x→Inv pre→Rel w0 g (X pre y) w→G g→∃fn tmps assign body,(Instr.yield l #[.int .i64 (k:Int)]).run Tryz.prog w= .ok (.round l fn tmps assign body) w∧
  ∀ro,RoundIn (fz ro) 0 Tryz.prog l fn tmps assign body w fun e w'=>(e= .returned (.bool true)∧Inv (pre++[k])∧∃g',Rel w0 g' (X (pre++[k]) y) w'∧G g')∨(e= .returned (.bool false)∧J w'))
 (g:Gh) (w:World) (hR:Rel w0 g (X [] x) w) (hG:G g):
 Calls Tryz.prog 195 #[.func (.yield l) #[] #[],.pointer (some ⟨b,0,none⟩)] w fun e w'=>(∃r,e= .returned r)∧((Inv (aQ x)∧∃g',Rel w0 g' (X (aQ x) 0) w'∧G g')∨J w'):=by
 refine(dZ (ro:=none) (n:=0)).1 (callsIn_of_wp_marks Tryz.func195 rfl trivial ?_ rfl);refine wpIn_mono (Q:=fun e a w'=>(e= .normal∨e= .ret)∧a.defers=[]∧((Inv (aQ x)∧∃g',Rel w0 g' (X (aQ x) 0) w'∧G g')∨J w')) ?_ ?_
 rotate_left
 ·rintro e a w' ⟨he,hd,hq⟩;have hres:(results Tryz.f195 a.tmps).run Tryz.prog w'= .ok (.tuple #[]) w':=by simp[results,Tryz.results195]
  rcases he with rfl|rfl
  ·show LeavesInM _ _ _ _ _ _ a.defers _ _;rw[hd];exact⟨_,hres,⟨_,rfl⟩,hq⟩
  ·show LeavesInM _ _ _ _ _ _ a.defers _ _;rw[hd];exact⟨_,hres,⟨_,rfl⟩,hq⟩
 refine(gL (lh (fun m a w=>∃pre y g,Inv pre∧m=(aQ y).length∧pre++aQ y=aQ x∧y<18446744073709551616∧Rel w0 g (X pre y) w∧ae g (eF l b) a.tmps.toList∧a.defers=[]∧G g) (m:=(aQ x).length) ⟨[],x,g,hI0,rfl,rfl,hx,hR,?_,rfl,hG⟩ ?_)) none (.inl rfl)
 ·unfold eF;have h0:ae g [.v (.func (.yield l) #[] #[]),.v (.pointer (some ⟨b,0,none⟩))] [.func (.yield l) #[] #[],.pointer (some ⟨b,0,none⟩)]:=ae.cons (.v _ rfl) (ae.cons (.v _ rfl) (ae.nil g));have h1:=h0.append (ae.replicate g 14);have h2:=fY [0,1] h1;exact h2
 rintro m a w ⟨pre,y,g,hinv,rfl,hpre,hy,hR,hr,hd,hG⟩;have hdk:Dk w0 g a w:= .nil (hd.trans (hGd g hG).symm);have same0:∀a:Act,Aml.Same [] a a:=fun a=>⟨fun _ _=>rfl,rfl,rfl⟩;refine ic (aS (dm (P:=Tryz.prog) (w0:=w0) (t:=[]) (fr:=eF l b) (S:=X pre y) (Q:=fun e fr S=>(e= .normal∧y≠0∧S=X pre y∧wk [0,1] fr=eF l b)∨(e= .exit 0∧y=0∧S=X pre y)) _ (by kernel_rfl) ?_ g a a w hR hr hdk (same0 a)) ?_)
 ·unfold eF;have hb1:=hb pre y;simp(maxDischargeDepth:=12) (maxSteps:=1000000) -implicitDefEqProofs only[go_sem,Nat.reduceAdd,Nat.reduceSub,Nat.reduceMul,Nat.reduceLeDiff,Nat.reduceEqDiff,Nat.reduceGT,Nat.reduceBEq,reduceCtorEq,↓reduceIte,Int.reduceToNat,Int.reduceLE,Int.reduceLT,Int.reduceNe,Int.reduceEq,hb1];omega
 intro e a1 w1 hk
 cases e with
 |ret=>obtain⟨⟨_,_,_,_,_,_,_,q⟩,_⟩:=hk;rcases q with q|q <;>cases q.1
 |goto n=>obtain⟨⟨_,_,_,_,_,_,_,q⟩,_⟩:=hk;rcases q with q|q <;>cases q.1
 |outgrown=>obtain⟨_,_,_,_,_,_,_,q⟩:=hk;rcases q with q|q <;>cases q.1
 |panic ch=>obtain⟨⟨_,_,_,_,_,_,_,_,_,_,_,q⟩,_⟩:=hk;exact(hpq _ _ q).elim
 |exit n=>
  obtain⟨⟨_,g1,fr1,S1,k1,R1,r1,q⟩,hs⟩:=hk;rcases q with⟨q,_⟩|⟨q,rfl,rfl⟩
  ·cases q
  ·cases q;rw[wa,Xw]at hpre;change Exit.inBlock 0 (fun e a w'=>(e= .normal∨e= .ret)∧a.defers=[]∧((Inv (aQ x)∧∃g',Rel w0 g' (X (aQ x) 0) w'∧G g')∨J w')) (.exit 0) a1 w1;simp only[Exit.inBlock,if_true];exact⟨.inl (by trivial),hs.2.1.trans hd,.inl ⟨hpre▸hinv,g1,hpre▸R1,hGle _ _ hG k1⟩⟩
 |normal=>
  obtain⟨⟨hd1,g1,fr1,S1,k1,R1,r1,q⟩,hs1⟩:=hk;rcases q with⟨_,hy0,rfl,hfr1⟩|⟨q,_⟩
  rotate_left
  ·cases q
  have hG1:=hGle _ _ hG k1;have hdf1:a1.defers=[]:=hs1.2.1.trans hd;have r1':ae g1 (eF l b) a1.tmps.toList:=hfr1▸fY [0,1] r1;obtain⟨k,hk64,hlow⟩:=LA hy0 hy;have hbits:=BV hlow hk64;have hy2':y &&& (y-1)<18446744073709551616:=X1 Nat.and_le_left hy;show qg Tryz.prog (.block 1 _) _ a1 w1;refine gL (ic (aS (dm (P:=Tryz.prog) (w0:=w0) (t:=[]) (fr:=eF l b) (S:=X pre y) (Q:=fun e fr S=>e= .normal∧S=X pre y∧wk [0,1,3] fr=LB l b k) _ (by kernel_rfl) ?_ g1 a1 a1 w1 R1 r1' (.nil (hdf1.trans (hGd g1 hG1).symm)) (same0 a1)) ?_))
  ·unfold eF LB;have hb1:=hb pre y;simp(maxDischargeDepth:=12) (maxSteps:=1000000) -implicitDefEqProofs only[go_sem,Nat.reduceAdd,Nat.reduceSub,Nat.reduceMul,Nat.reduceLeDiff,Nat.reduceEqDiff,Nat.reduceGT,Nat.reduceBEq,reduceCtorEq,↓reduceIte,Int.reduceToNat,Int.reduceLE,Int.reduceLT,Int.reduceNe,Int.reduceEq,hb1];refine aw (Un _ hg y k hy hk64 hlow _) ?_;simp(maxDischargeDepth:=12) (maxSteps:=1000000) -implicitDefEqProofs only[go_sem,Nat.reduceAdd,Nat.reduceSub,Nat.reduceMul,Nat.reduceLeDiff,Nat.reduceEqDiff,Nat.reduceGT,Nat.reduceBEq,reduceCtorEq,↓reduceIte,Int.reduceToNat,Int.reduceLE,Int.reduceLT,Int.reduceNe,Int.reduceEq]
  intro e a2 w2 hk2
  cases e with
  |ret=>obtain⟨⟨_,_,_,_,_,_,_,q⟩,_⟩:=hk2;cases q.1
  |goto n=>obtain⟨⟨_,_,_,_,_,_,_,q⟩,_⟩:=hk2;cases q.1
  |exit n=>obtain⟨⟨_,_,_,_,_,_,_,q⟩,_⟩:=hk2;cases q.1
  |outgrown=>obtain⟨_,_,_,_,_,_,_,q⟩:=hk2;cases q.1
  |panic ch=>obtain⟨⟨_,_,_,_,_,_,_,_,_,_,_,q⟩,_⟩:=hk2;exact(hpq _ _ q).elim
  |normal=>
   obtain⟨⟨_,g2,fr2,S2,k2,R2,r2,_,rfl,hfr2⟩,hs2⟩:=hk2;have hG2:=hGle _ _ hG1 k2;have hdf2:a2.defers=[]:=hs2.2.1.trans hdf1;have r2':ae g2 (LB l b k) a2.tmps.toList:=hfr2▸fY [0,1,3] r2;refine ic (aS (dm (P:=Tryz.prog) (w0:=w0) (t:=[]) (fr:=LB l b k) (S:=X pre y) (Q:=fun e fr S=>e= .normal∧S=X pre (y &&& (y-1))∧wk [0,1,3] fr=LB l b k) _ (by kernel_rfl) ?_ g2 a2 a2 w2 R2 r2' (.nil (hdf2.trans (hGd g2 hG2).symm)) (same0 a2)) ?_)
   ·unfold LB;have hb1:=hb pre y;have hup1:=hup pre y (y &&& (y-1))
    have hsub:IntKind.u64.wrap ((y:Int)-1)=((y-1:Nat):Int):=by
     have:(y:Int)-1=((y-1:Nat):Int):=by omega
     rw[this,wN (by omega)]
    have hand:=dW (x:=y) (y:=y-1) hy (by omega);simp(maxDischargeDepth:=12) (maxSteps:=1000000) -implicitDefEqProofs only[go_sem,Nat.reduceAdd,Nat.reduceSub,Nat.reduceMul,Nat.reduceLeDiff,Nat.reduceEqDiff,Nat.reduceGT,Nat.reduceBEq,reduceCtorEq,↓reduceIte,Int.reduceToNat,Int.reduceLE,Int.reduceLT,Int.reduceNe,Int.reduceEq,hb1,hsub,hand];exact hup1
   intro e a3 w3 hk3
   cases e with
   |ret=>obtain⟨⟨_,_,_,_,_,_,_,q⟩,_⟩:=hk3;cases q.1
   |goto n=>obtain⟨⟨_,_,_,_,_,_,_,q⟩,_⟩:=hk3;cases q.1
   |exit n=>obtain⟨⟨_,_,_,_,_,_,_,q⟩,_⟩:=hk3;cases q.1
   |outgrown=>obtain⟨_,_,_,_,_,_,_,q⟩:=hk3;cases q.1
   |panic ch=>obtain⟨⟨_,_,_,_,_,_,_,_,_,_,_,q⟩,_⟩:=hk3;exact(hpq _ _ q).elim
   |normal=>
    obtain⟨⟨_,g3,fr3,S3,k3,R3,r3,_,rfl,hfr3⟩,hs3⟩:=hk3;have hG3:=hGle _ _ hG2 k3;have hdf3:a3.defers=[]:=hs3.2.1.trans hdf2;have r3':ae g3 (LB l b k) a3.tmps.toList:=hfr3▸fY [0,1,3] r3;have e0:a3.eval (.tmp 0)= .func (.yield l) #[] #[]:=ak (show ay g3 (.v (.func (.yield l) #[] #[])) _ from du r3' (.tmp 0));have e3:a3.eval (.tmp 3)= .int .i64 (k:Int):=ak (show ay g3 (.v (.int .i64 (k:Int))) _ from du r3' (.tmp 3))
    have hz:a3.tmps.size=16:=by
     have:=r3'.len;rw[W3]at this;exact this.symm.trans rfl
    obtain⟨fn,tmps,assign,body,hy1,hy2⟩:=hround pre k (y &&& (y-1)) g3 w3 (by rw[←hbits];exact hpre) hinv R3 hG3;obtain⟨a4,ha4⟩:∃a4:Act,a4=(a3.put (some 12) (.func (.yield l) #[] #[])).put (some 13) (.int .i64 (k:Int)):=⟨_,rfl⟩
    have e12:a4.eval (.tmp 12)= .func (.yield l) #[] #[]:=by
     rw[ha4];simp[Act.put,Act.eval,Wz,WB,hz]
    have e13:a4.eval (.tmp 13)= .int .i64 (k:Int):=by
     rw[ha4];simp[Act.put,Act.eval,Wz,WB,hz]
    have e33:(a3.put (some 12) (.func (.yield l) #[] #[])).eval (.tmp 3)= .int .i64 (k:Int):=by
     rw[←e3];simp[Act.put,Act.eval,Wz,WB]
    refine ic (dv fun ro=>?_);refine rP rfl (by intro c h;cases h) (v:= .func (.yield l) #[] #[]) (w':=w3) (by simp[execOp,e0]) ?_;refine rP rfl (by intro c h;cases h) (v:= .int .i64 (k:Int)) (w':=w3) (by simp[execOp,e33]) ?_;change wpListIn (fz ro) 0 Tryz.prog _ _ _ ((a3.put (some 12) (.func (.yield l) #[] #[])).put (some 13) (.int .i64 (k:Int))) w3;rw[←ha4];refine list_round rfl (by intro c h;cases h) (l:=l) (f:=fn) (tmps:=tmps) (assign:=assign) (body:=body) (w':=w3) (by rw[←hy1];simp[execOp,resolve,e12,e13,Deferred.ofValue,invoke]) (hy2 ro) ?_
    have fin:∀(ops:Array Oper) (t:Bool) (w4:World) (Qc:Exit→Act→World→Prop),(∀a5:Act,a5=(a4.put (some 14) (.bool t)).put (some 15) (.bool !t)→a5.eval (.tmp 15)= .bool !t→Qc .normal a5 w4)→wpListIn (fz ro) 0 Tryz.prog ops Qc [⟨some 15,.unOp .not 4 (.tmp 14),4, "lattice.go:24", #[{on:=2,ground:=Ground.data}],none⟩] (a4.put (some 14) (.bool t)) w4:=by
     intro ops t w4 Qc hq
     have e14:(a4.put (some 14) (.bool t)).eval (.tmp 14)= .bool t:=by
      rw[ha4];simp[Act.put,Act.eval,Wz,WB,hz]
     refine rP rfl (by intro c h;cases h) (v:= .bool !t) (w':=w4) (by simp only[execOp,e14];simp[go_sem,Op.unary]) ?_;refine hq _ rfl ?_;rw[ha4];simp[Act.put,Act.eval,Wz,WB,hz]
    have rep5:∀(t:Bool) (a5:Act),a5=(a4.put (some 14) (.bool t)).put (some 15) (.bool !t)→∀g5:Gh,ae g5 (eF l b) a5.tmps.toList:=by
     rintro t a5 rfl g5;rw[ha4];have q0:=fY [0,1] r3';have q1:=bo q0 (some 12) (d:= .any) (u:= .func (.yield l) #[] #[]) (.any _);have q2:=bo q1 (some 13) (d:= .any) (u:= .int .i64 (k:Int)) (.any _);have q3:=bo q2 (some 14) (d:= .any) (u:= .bool t) (.any _);have q4:=bo q3 (some 15) (d:= .any) (u:= .bool !t) (.any _);refine yo (ds:=eF l b) q4 fun d hd=>?_;unfold eF at hd;have:d∈([.v (.func (.yield l) #[] #[]),.v (.pointer (some ⟨b,0,none⟩))]++List.replicate 14 .any:List DV):=hd;rcases Wo.1 this with h|h
     ·rcases Wt.1 h with h|h
      ·exact .inl ⟨_,h⟩
      ·rw[Wl]at h;exact .inl ⟨_,h⟩
     ·exact .inr (Yg h)
    have def5:∀(t:Bool) (a5:Act),a5=(a4.put (some 14) (.bool t)).put (some 15) (.bool !t)→a5.defers=[]:=by
     rintro t a5 rfl;rw[ha4];exact hdf3
    rintro e w4 (⟨rfl,hI4,g4,R4,hG4⟩|⟨rfl,hJ⟩)
    ·refine⟨_,rfl,fin _ true w4 _ fun a5 ha5 h15=>?_⟩;change qg Tryz.prog (.cond (.tmp 15) .ret .skip) _ a5 w4;refine cH (t:=!true) h15 (fun h=>by cases h) (fun _=>lK ?_);refine⟨(aQ (y &&& (y-1))).length,by rw[hbits];simp,pre++[k],y &&& (y-1),g4,hI4,rfl,?_,hy2',R4,rep5 _ _ ha5 _,def5 _ _ ha5,hG4⟩;rw[XS,←hpre,hbits];rfl
    ·refine⟨_,rfl,fin _ false w4 _ fun a5 ha5 h15=>?_⟩;change qg Tryz.prog (.cond (.tmp 15) .ret .skip) _ a5 w4;refine cH (t:=!false) h15 (fun _=>nT ?_) (fun h=>by cases h);exact⟨.inr rfl,def5 _ _ ha5,.inr hJ⟩
end Go.Proofs.YtoepfmhnapedoaaGreatDoor
namespace Go.Proofs.YtoepfmhnapedoaaGreatDoor
open Aml Go Lat Go.RowKit
theorem pH{w0:W0}{ro:Option Nat}(hg:ga w0){x b:Nat}(hx:x<18446744073709551616)(X:List Nat→Nat→St)(Z:List Nat→Nat→Nat→St)(Inv:List Nat→Prop)(hI0:Inv [])(GG:List Nat→Nat→Nat→Prop)(B:List Nat→Nat→Nat→List DV→St→Prop){fo:Operand}{ps:Array Tmp}{assign body:Code}{fr:List DV}{S:St}{Q:Exit→List DV→St→Prop}
 (hf:ev fr fo= .v (.func (.func 195) #[] #[.pointer (some ⟨b,0,none⟩)])) (hps:ps.size=1) (hrf:fN assign=true)
 (hX0:X [] x=S) (hb:∀pre y,lk (X pre y).box b=some [dU (y:Int)]) (hup:∀pre (y y':Nat),(⟨up (X pre y).box b [dU (y':Int)],(X pre y).acc⟩:St)=X pre y')
 (hnb:∀pre y,(X pre y).box.map (·.1)=S.box.map (·.1)) (hna:∀pre y,(X pre y).acc.map (·.1)=S.acc.map (·.1)) (hzb:∀pre k y,(Z pre k y).box.map (·.1)=S.box.map (·.1)) (hza:∀pre k y,(Z pre k y).acc.map (·.1)=S.acc.map (·.1))
 (hassign:∀pre k y,pre++k::aQ y=aQ x→Inv pre→fc Tryz.prog w0.np assign (fV ps.toList [dI (k:Int)] fr) (X pre y) (fun e fr1 T1=>e= .normal∧B pre k y fr1 T1))
 (hbody:∀(l:Nat) (r1:Loop) pre k y fr1 T1,pre++k::aQ y=aQ x→Inv pre→B pre k y fr1 T1→∀g a w,Rel w0.np g T1 w→ae g fr1 a.tmps.toList→Dk w0.np g a w→g.obj l=some (.loop r1)→body.wpIn (fz (some l)) 0 Tryz.prog (Aml.Good w0.np g fun e _ T'=>(e= .normal∧Inv (pre++[k])∧Has (X (pre++[k]) y) T')∨(e= .ret∧GG pre k y∧Has (Z pre k y) T')) a w)
 (hdone:Inv (aQ x)→Q .normal fr (X (aQ x) 0)) (hstop:∀pre k y,GG pre k y→Q .ret fr (Z pre k y))
 (g:Gh) (a:Act) (w:World) (h1:Rel w0 g S w) (h2:ae g fr a.tmps.toList) (h3:Dk w0 g a w) (hro:ro=none∨∃l0 r0,ro=some l0∧g.obj l0=some (.loop r0)):
 (Code.rangeFunc fo ps assign body).wpIn (fz ro) 0 Tryz.prog (Aml.Good w0 g Q) a w:=by
 subst hX0;refine wpIn_rangeFunc ?_;intro fn hfn;have hfo:=du h2 fo;rw[hf]at hfo;have hgf:a.eval fo= .func (.func 195) #[] #[.pointer (some ⟨b,0,none⟩)]:=ak hfo;have hsz:=h1.below.size;have hszn:w0.np.heap.size≤w.heap.size:=hsz
 obtain⟨l,mark,dfs,W1,hW,hL1,hb1,hll,hmk⟩:∃(l:Nat) (mark:List Deferred) (dfs:Nat) (W1:World),(Instr.enterLoop fn a.tmps ps assign body (fz ro).round).run Tryz.prog w= .ok (l,mark) W1∧
  W1.heap[l]? =some (.loop {state:= .ready,pending:=none,fn,tmps:=a.tmps,params:=ps,assign,body,defers:=dfs})∧fM w.heap.size w W1∧w.heap.size≤l∧(mark=[]∨∃D,mark=[{target:= .collected D,args:= #[]}]∧w.heap.size≤D∧D≠l∧W1.heap[D]? =some (.deferred (some []))):=by
  rcases hro with rfl|⟨l0,r0,rfl,ho⟩
  ·refine⟨w.heap.size+1,[{target:= .collected w.heap.size,args:= #[]}],w.heap.size,_,run_enterLoop_outer _ _ _ _ _,?_,((fM.refl _ w).alloc (Wg _) _).alloc (by simp) _,by omega,.inr ⟨w.heap.size,rfl,Wg _,by omega,?_⟩⟩
   ·have:=World.alloc_heap_new (w.alloc (.deferred (some []))) (.loop {state:= .ready,pending:=none,fn,tmps:=a.tmps,params:=ps,assign,body,defers:=w.heap.size})
    rwa [World.size_alloc]at this
   ·exact(Below.heap_alloc _ _ _ (by simp)).trans (World.alloc_heap_new w _)
  ·have hl0:=(h1.below.obj l0 _ ho).1;exact⟨w.heap.size,[],r0.defers,_,run_enterLoop_inner hl0 _ _ _ _ _,World.alloc_heap_new w _,(fM.refl _ w).alloc (Wg _) _,Wg _,.inl rfl⟩
 obtain⟨rec,hrec⟩:∃rec:LoopState→Option Code→Loop,rec=fun st pe=>{state:=st,pending:=pe,fn,tmps:=a.tmps,params:=ps,assign,body,defers:=dfs}:=⟨_,rfl⟩;have hL1:W1.heap[l]? =some (.loop (rec .ready none)):=by rw[hrec];exact hL1
 have hob:∀k o,g.obj k=some o→k<w.heap.size:=fun k o hk=>(Wf.1 (h1.below.obj k o hk).1).1
 have hgl:∀k,w.heap.size≤k→g.obj k=none:=fun k hk=>by
  cases hx:g.obj k with
  |none=>rfl
  |some o=>have:=hob k o hx;omega
 have hwl:∀k,w.heap.size≤k→w0.gh.obj k=none:=fun k hk=>by
  cases hx:w0.gh.obj k with
  |none=>rfl
  |some o=>have:=hob k o (h1.below.di.obj k o hx);omega
 obtain⟨pin,hpin⟩:∃pin:Option Obj→Nat→Option Obj,pin=fun o k=>if k=l then o else qn W1 k:=⟨_,rfl⟩
 have hpl:∀o,pin o l=o:=fun o=>by rw[hpin];simp
 have hpk:∀o k,k≠l→pin o k=qn W1 k:=fun o k hk=>by rw[hpin];simp[hk]
 have h1W:=h1.grow hb1;have hne0:∀k o,w0.gh.obj k=some o→k≠l:=by rintro k o hk rfl;rw[hwl _ hll]at hk;cases hk
 have hsub:∀o,w0.np.gh.sub (g.af (pin o)):=fun o=>⟨h1.below.di.aN,h1.below.di.acc,fun k o' hk=>by
  show pin o k=some o';rw[hpk o k (hne0 k o' hk)];have:=h1W.below.obj k o' (h1W.below.di.obj k o' hk);exact jt this.1 this.2⟩
 let G:Gh→Prop:=fun g'=>(∀b i u,g.aN b i=some u→g'.aN b i=some u)∧(∀n m u,g.acc n m=some u→g'.acc n m=some u)∧g'.obj=pin (some (.loop (rec .ready none)))∧g'.j0=[]
 let J:World→Prop:=fun w'=>∃pre k y g',GG pre k y∧Rel w0.np g' (Z pre k y) w'∧((∀b i u,g.aN b i=some u→g'.aN b i=some u)∧(∀n m u,g.acc n m=some u→g'.acc n m=some u)∧g'.obj=pin (some (.loop (rec .done (some .ret))))∧g'.j0=[])
 have R1:Rel w0.np ((g.af (pin (some (.loop (rec .ready none))))).av []) (X [] x) W1:=by
  refine Rel.av (w0:=w0.np) (h1W.af (w0':=w0.np) rfl (fun k o hk=>?_) (hsub _)) [] rfl (hsub _);by_cases e:k=l
  ·subst e;rw[hpl]at hk;cases hk;exact⟨hL1,rfl⟩
  ·rw[hpk _ _ e]at hk;exact pb hk
 have hpqn:∀d S,¬(w0.np).pq d S:=fun _ _ h=>h;have nX:∀pre y,((X pre y).box.map (·.1)).Nodup∧((X pre y).acc.map (·.1)).Nodup:=fun pre y=>⟨by rw[hnb];exact h1.nb,by rw[hna];exact h1.na⟩;have nZ:∀pre k y,((Z pre k y).box.map (·.1)).Nodup∧((Z pre k y).acc.map (·.1)).Nodup:=fun pre k y=>⟨by rw[hzb];exact h1.nb,by rw[hza];exact h1.na⟩
 have hround:∀pre k y g3 w3,pre++k::aQ y=aQ x→Inv pre→Rel w0.np g3 (X pre y) w3→G g3→∃fn tmps assign body,(Instr.yield l #[.int .i64 (k:Int)]).run Tryz.prog w3= .ok (.round l fn tmps assign body) w3∧
  ∀ro,RoundIn (fz ro) 0 Tryz.prog l fn tmps assign body w3 fun e w'=>(e= .returned (.bool true)∧Inv (pre++[k])∧∃g',Rel w0.np g' (X (pre++[k]) y) w'∧G g')∨(e= .returned (.bool false)∧J w'):=by
  intro pre k y g3 w3 hpre hinv R3 hG3;obtain⟨hi3,hac3,ho3,hd3⟩:=hG3;have hl3g:g3.obj l=some (.loop (rec .ready none)):=by rw[ho3,hpl]
  have hl3:=(R3.below.obj l _ hl3g).1;have hy:=run_yield (P:=Tryz.prog) (args:= #[.int .i64 (k:Int)]) hl3 (by rw[hrec];exact hps.symm);rw[hrec]at hy;dsimp only at hy;refine⟨_,_,_,_,hy,fun ro=>roundIn_of_wpIn (F:=fz ro) (n:=0) trivial ?_⟩;have hfr0:ae g3 fr a.tmps.toList:=⟨h2.len,fun i d u a1 a2=>ay.of (g:=g) hi3 hac3 (h2.at_ i d u a1 a2)⟩
  have hfr:ae g3 (fV ps.toList [dI (k:Int)] fr) (((ps.zip #[.int .i64 (k:Int)]).foldl (fun t (p,v)=>t.setIfInBounds p v) a.tmps).toList):=by
   have:=kC (g:=g3) ps.toList [dI (k:Int)] [.int .i64 (k:Int)] (fr:=fr) (us:=a.tmps) hfr0 (ae.cons (.v _ rfl) (ae.nil _));rw[show [Value.int .i64 (k:Int)]=(#[Value.int .i64 (k:Int)]:Array Value).toList from rfl,←Array.toList_zip,Array.foldl_toList]at this;exact this
  refine wpIn_mono (hassign pre k y hpre hinv g3 {tmps:=_,defers:=[]} w3 R3 hfr (.nil hd3.symm) (some l) (.inr hrf)) ?_;rintro e a4 w4 ⟨hd4,g4,fr4,T4,k1,k2,k3,k4⟩
  cases e with
  |exit n=>cases k4.1
  |goto n=>cases k4.1
  |ret=>cases k4.1
  |outgrown=>cases k4.1
  |panic ch=>obtain⟨_,_,_,_,h⟩:=k4;exact h.elim
  |normal=>
   have hl4g:g4.obj l=some (.loop (rec .ready none)):=by rw[k1.obj];exact hl3g
   have hl4:=(k2.below.obj _ _ hl4g).1;refine⟨_,run_beginRound hl4 (by rw[hrec]),?_⟩;have hlt4:l<w4.heap.size:=(Wf.1 hl4).1;have hbz:({rec .ready none with state:= .busy}:Loop)=rec .busy none:=by rw[hrec]
   rw[hbz];have ho4:g4.obj=pin (some (.loop (rec .ready none))):=k1.obj.trans ho3;have s4:∀o,w0.np.gh.sub (g4.af (pin o)):=fun o=>⟨k2.below.di.aN,k2.below.di.acc,(hsub o).obj⟩
   have R4x:Rel w0.np (g4.af (pin none)) T4 w4:=k2.af rfl (fun k' o hk=>by
    by_cases e:k'=l
    ·subst e;rw[hpl]at hk;cases hk
    ·exact k2.below.obj k' o (by rw[ho4,hpk _ _ e];rw[hpk _ _ e]at hk;exact hk)) (s4 _)
   have hh5:∀k',k'≠l→(w4.putObj l (.loop (rec .busy none))).heap[k']? =w4.heap[k']? :=fun k' hk=>World.putObj_heap_other hk;have R4y:=R4x.putObj (o':= .loop (rec .busy none)) hl4 rfl (hpl none) (Xn hszn hll)
   have R5:Rel w0.np (g4.af (pin (some (.loop (rec .busy none))))) T4 (w4.putObj l (.loop (rec .busy none))):=R4y.af (ob:=pin (some (.loop (rec .busy none)))) rfl (fun k' o hk=>by
    by_cases e:k'=l
    ·subst e;rw[hpl]at hk;cases hk;exact⟨World.putObj_heap_same hlt4,rfl⟩
    ·rw[hh5 k' e];exact k2.below.obj k' o (by rw[ho4,hpk _ _ e];rw[hpk _ _ e]at hk;exact hk)) (s4 _)
   have hD5:Dk w0.np (g4.af (pin (some (.loop (rec .busy none))))) a4 (w4.putObj l (.loop (rec .busy none))):=by
    obtain⟨ms,em,hn4,hd4⟩:=hd4;refine⟨ms,by rw[em];show ms++_=ms++g4.j0;rw[k1.j0],hn4,fun d hd=>?_⟩;obtain⟨D,e1,e2,e3,e4⟩:=hd4 d hd;have hne:D≠l:=by rintro rfl;rw[hl4]at e2;cases e2
    refine⟨D,e1,(hh5 D hne).trans e2,?_,e4⟩;show pin _ D=none;rw[hpk _ _ hne,←hpk (some (.loop (rec .ready none))) _ hne,←ho3];exact e3
   refine wpIn_mono (hbody l (rec .busy none) pre k y fr4 T4 hpre hinv k4.2 _ a4 _ R5 k3.af hD5 (hpl _)) ?_;rintro e a6 w6 ⟨_,g6,fr6,T6,q1,q2,q3,q4⟩;have hg6:g6.obj=pin (some (.loop (rec .busy none))):=q1.obj;have hl6:=(q2.below.obj l (.loop (rec .busy none)) (by rw[hg6,hpl])).1;have hlt6:l<w6.heap.size:=(Wf.1 hl6).1;have hi6:∀b i u,g.aN b i=some u→g6.aN b i=some u:=fun b i u h=>q1.aN _ _ _ (k1.aN _ _ _ (hi3 _ _ _ h));have hac6:∀n m u,g.acc n m=some u→g6.acc n m=some u:=fun b i u h=>q1.acc _ _ _ (k1.acc _ _ _ (hac3 _ _ _ h));have s6:∀o,w0.np.gh.sub (g6.af (pin o)):=fun o=>⟨q2.below.di.aN,q2.below.di.acc,(hsub o).obj⟩
   have turn:∀(o':Loop),Rel w0.np ((g6.af (pin (some (.loop o')))).av []) T6 (w6.putObj l (.loop o')):=by
    intro o'
    have R6x:Rel w0.np (g6.af (pin none)) T6 w6:=q2.af rfl (fun k' o hk=>by
     by_cases e:k'=l
     ·subst e;rw[hpl]at hk;cases hk
     ·exact q2.below.obj k' o (by rw[hg6,hpk _ _ e];rw[hpk _ _ e]at hk;exact hk)) (s6 _)
    have R6y:=R6x.putObj (o':= .loop o') hl6 rfl (hpl none) (Xn hszn hll)
    have R7:Rel w0.np (g6.af (pin (some (.loop o')))) T6 (w6.putObj l (.loop o')):=R6y.af (ob:=pin (some (.loop o'))) rfl (fun k' o hk=>by
     by_cases e:k'=l
     ·subst e;rw[hpl]at hk;cases hk;exact⟨World.putObj_heap_same hlt6,rfl⟩
     ·rw[World.putObj_heap_other e];exact q2.below.obj k' o (by rw[hg6,hpk _ _ e];rw[hpk _ _ e]at hk;exact hk)) (s6 _)
    exact R7.av [] rfl (s6 _)
   cases e with
   |exit n=>rcases q4 with q|q <;>cases q.1
   |goto n=>rcases q4 with q|q <;>cases q.1
   |outgrown=>rcases q4 with q|q <;>cases q.1
   |panic ch=>obtain⟨_,_,_,_,h⟩:=q4;exact h.elim
   |normal=>
    rcases q4 with⟨_,hI6,hHas⟩|⟨q,_⟩
    rotate_left
    ·cases q
    have he:=run_endRound (P:=Tryz.prog) none hl6;have hbr:({rec .busy none with state:=if(none:Option Code).isNone then .ready else .done,pending:=none}:Loop)=rec .ready none:=by rw[hrec];rfl
    rw[hbr]at he;exact⟨.bool true,_,he,.inl ⟨rfl,hI6,_,(turn (rec .ready none)).has hHas (nX _ _).1 (nX _ _).2,hi6,hac6,rfl,rfl⟩⟩
   |ret=>
    rcases q4 with⟨q,_⟩|⟨_,hst,hHas⟩
    ·cases q
    have he:=run_endRound (P:=Tryz.prog) (some .ret) hl6;have hbr:({rec .busy none with state:=if(some Code.ret:Option Code).isNone then .ready else .done,pending:=some .ret}:Loop)=rec .done (some .ret):=by rw[hrec];rfl
    rw[hbr]at he;exact⟨.bool false,_,he,.inr ⟨rfl,pre,k,y,_,hst,(turn (rec .done (some .ret))).has hHas (nZ _ _ _).1 (nZ _ _ _).2,hi6,hac6,rfl,rfl⟩⟩
 have hok:okF Tryz.prog 195=true:=by kernel_rfl
 have fin:∀(S2:St) (g2:Gh) (w2:World) (r2:Loop),Rel w0.np g2 S2 w2→(∀b i u,g.aN b i=some u→g2.aN b i=some u)→(∀n m u,g.acc n m=some u→g2.acc n m=some u)→g2.obj=pin (some (.loop r2))→∀o':Obj,∀(e:Exit),Qp w0 ((g2.af g.obj).av g.j0) Q e fr S2→Aml.Good w0 g Q e {a with defers:=mark++a.defers} (w2.putObj l o'):=by
  intro S2 g2 w2 r2 R2 hi hac ho o' e hq;have hkeep:∀(k:Nat) (o:Obj),k≠l→W1.heap[k]? =some o→nc o=true→w2.heap[k]? =some o:=fun k o hk p1 p2=>(R2.below.obj k o (by rw[ho,hpk _ _ hk];exact jt p1 p2)).1;have hl2:=(R2.below.obj l (.loop r2) (by rw[ho,hpl])).1;have hoth:∀k,k≠l→(w2.putObj l o').heap[k]? =w2.heap[k]? :=fun k hk=>World.putObj_heap_other hk;have hsub2:w0.gh.sub (g2.af g.obj):=⟨R2.below.di.aN,R2.below.di.acc,h1.below.di.obj⟩
  have Rb:Rel w0 (g2.af g.obj) S2 w2:=R2.af (w0':=w0) rfl (fun k o hk=>by
   obtain⟨p1,p2⟩:=h1.below.obj k o hk;have hlt:=hob k o hk;exact⟨hkeep k o (by omega) ((hb1.block k hlt).trans p1) p2,p2⟩) hsub2
  have Rc:=(Rb.putObj (o':=o') hl2 rfl (hgl _ hll) (Xn hsz hll)).av g.j0 rfl hsub2;refine⟨?_,(g2.af g.obj).av g.j0,fr,S2,⟨hi,hac,rfl,rfl⟩,Rc,⟨h2.len,fun i d u p q=>(ay.of (g:=g) hi hac (h2.at_ i d u p q)).af.av⟩,hq⟩;obtain⟨ms,em,hn,hms⟩:=h3
  have old:∀d,d∈ms→∃D,d={target:= .collected D,args:= #[]}∧(w2.putObj l o').heap[D]? =some (.deferred (some []))∧g.obj D=none∧w0.heap.size≤D:=fun d hd=>by
   obtain⟨D,e1,e2,e3,e4⟩:=hms d hd;have hlt:=(Wf.1 e2).1;exact⟨D,e1,(hoth D (by omega)).trans (hkeep D _ (by omega) ((hb1.block D hlt).trans e2) rfl),e3,e4⟩
  rcases hmk with rfl|⟨D,rfl,hD1,hD2,hD3⟩
  ·exact⟨ms,em,hn,old⟩
  ·refine⟨{target:= .collected D,args:= #[]}::ms,by show _::a.defers=_;rw[em];rfl,?_,fun d hd=>?_⟩
   ·rw[Wv];refine⟨fun hm=>?_,hn⟩;obtain⟨D',e1,e2,_⟩:=hms _ hm;have:D=D':=by injection e1 with e1 _;injection e1
    subst this;have:=(Wf.1 e2).1;omega
   ·rcases Wt.1 hd with rfl|hd
    ·exact⟨D,rfl,(hoth D hD2).trans (hkeep D _ hD2 hD3 rfl),hgl _ hD1,Xn hsz hD1⟩
    ·exact old d hd
 refine⟨l,mark,W1,{target:= .fn (.func 195) #[.pointer (some ⟨b,0,none⟩)],args:= #[.func (.yield l) #[] #[]]},W1,195, #[.func (.yield l) #[] #[],.pointer (some ⟨b,0,none⟩)],W1,hW,?_,fun _ _=>trivial,?_,fun h=>by simp[fz,Fence.wide]at h,?_⟩
 ·simp only[resolve,hgf];simp[go_sem]
 ·unfold okF at hok;split at hok
  ·rename_i fn' hfn';simp only[We,WL]at hok;obtain⟨hb,hname⟩:=hok;have hbn:¬fn'.body=none:=by intro e;simp[e]at hb
   have hname':¬fn'.name= "runtime.NumGoroutine" :=by simpa using hname
   simp[invoke,callFunc,hfn',hname',hbn]
  ·cases hok
 ·have hGle:∀g g',G g→g.le g'→G g':=fun g1 g2 ⟨p1,p2,p3,p4⟩ k=>⟨fun b i u h=>k.aN _ _ _ (p1 _ _ _ h),fun b i u h=>k.acc _ _ _ (p2 _ _ _ h),k.obj.trans p3,k.j0.trans p4⟩;refine dZ.2 ((C0 w0.np hpqn hg hx X hb hup Inv hI0 G hGle (fun _ h=>h.2.2.2) J hround _ W1 R1 ⟨fun _ _ _ h=>h,fun _ _ _ h=>h,rfl,rfl⟩).mono ?_);rintro e w2 ⟨⟨r,rfl⟩,⟨hIe,g2,R2,hi,hac,ho,hd⟩|⟨pre,k,y,g2,hst,R2,hi,hac,ho,hd⟩⟩
  ·have hl2:=(R2.below.obj l _ (by rw[ho,hpl])).1;have he:=run_endLoop (P:=Tryz.prog) hl2 (by rw[hrec];simp);rw[show(rec .ready none).pending=none by rw[hrec]]at he;exact⟨none,_,he,fin _ g2 w2 _ R2 hi hac ho _ .normal (hdone hIe)⟩
  ·have hl2:=(R2.below.obj l _ (by rw[ho,hpl])).1;have he:=run_endLoop (P:=Tryz.prog) hl2 (by rw[hrec];simp);rw[show(rec .done (some .ret)).pending=some .ret by rw[hrec]]at he;exact⟨some .ret,_,he,wpIn_ret (fin _ g2 w2 _ R2 hi hac ho _ .ret (hstop _ _ _ hst))⟩
end Go.Proofs.YtoepfmhnapedoaaGreatDoor
namespace Go.Proofs.YtoepfmhnapedoaaGreatDoor
open Aml Go Lat
theorem J5(w0:W0)(x:Nat)(S:St):aa Tryz.prog w0 176 [dU (x:Int)] S (fun d S'=>∃b:FN S.box,d= .v (.func (.func 195) #[] #[.pointer (some ⟨b.n,0,none⟩)])∧S'=⟨(b.n,[dU (x:Int)])::S.box,S.acc⟩):=by
 refine jn [] mx Tryz.func176 rfl rfl (by kernel_rfl) ?_;simp(maxDischargeDepth:=12) (maxSteps:=1000000) -implicitDefEqProofs only[Tryz.ntmps176,go_sem,Nat.reduceAdd,Nat.reduceSub,Nat.reduceMul,Nat.reduceLeDiff,Nat.reduceEqDiff,Nat.reduceGT,Nat.reduceBEq,reduceCtorEq,↓reduceIte,Int.reduceToNat,Int.reduceLE,Int.reduceLT,Int.reduceNe,Int.reduceEq];exact fun b=>⟨b,rfl,rfl⟩
theorem JL(p:Tmp)(d:DV)(fr:List DV):fV [p] [d] fr=fr.set p d:=rfl
theorem qb{x k:Nat}{pre l:List Nat}(h:pre++k::l=aQ x):k<64:=by
 have:k∈aQ x:=by rw[←h];simp
 exact(qH.1 this).1
theorem bp{α:Type}{l:List (Nat×α)}(b:FN l){c:Nat}{x:α}(h:lk l c=some x):(b.n=c)=False:=aG b c (by rw[h];rfl)
theorem mq{α:Type}{l l':List (Nat×α)}{d:α}{b c:Nat}{x:α}(h:(b=c)=False)(h':lk l c=some x):lk ((b,d)::l) c=some x:=by
 unfold lk;rw[if_neg (by first|(rw[h];exact id)|(intro e;exact h.mp e.symm))];exact h'
def K0(l:Nat)(r1:Loop)(P:Program)(w0:W0)(c:Code)(fr:List DV)(S:St)(Q:Exit→List DV→St→Prop):Prop:=
 ∀g a w,Rel w0 g S w→ae g fr a.tmps.toList→Dk w0 g a w→g.obj l=some (.loop r1)→c.wpIn (fz (some l)) 0 P (Aml.Good w0 g Q) a w
theorem yr{l:Nat}{r1:Loop}{P:Program}{w0:W0}{c:Code}{fr:List DV}{S:St}{Q:Exit→List DV→St→Prop}(hn:fN c=true)(h:fc P w0 c fr S Q):K0 l r1 P w0 c fr S Q:=fun g a w h1 h2 h3 _=>h g a w h1 h2 h3 (some l) (.inr hn)
theorem sV{l:Nat}{r1:Loop}{P:Program}{w0:W0}{x y:Code}{fr:List DV}{S:St}{Q:Exit→List DV→St→Prop}(h:K0 l r1 P w0 x fr S (fH (fun fr S=>K0 l r1 P w0 y fr S Q) Q)):K0 l r1 P w0 (.seq x y) fr S Q:=by
 intro g a w h1 h2 h3 h4;refine wpIn_seq (wpIn_mono (h g a w h1 h2 h3 h4) ?_);intro e a' w' hg;obtain⟨hd,g',fr',S',k1,k2,k3,k4⟩:=hg
 cases e with
 |normal=>exact wpIn_mono (k4 g' a' w' k2 k3 (k1.dk hd) (k1.obj▸h4)) fun _ _ _ k=>k.of_le k1
 |exit n=>exact⟨hd,g',fr',S',k1,k2,k3,k4⟩
 |goto n=>exact⟨hd,g',fr',S',k1,k2,k3,k4⟩
 |ret=>exact⟨hd,g',fr',S',k1,k2,k3,k4⟩
 |panic ch=>exact⟨hd,g',fr',S',k1,k2,k3,k4⟩
 |outgrown=>exact⟨hd,g',fr',S',k1,k2,k3,k4⟩
theorem qI{l n:Nat}{r1:Loop}{P:Program}{w0:W0}{c:Code}{fr:List DV}{S:St}{Q:Exit→List DV→St→Prop}(h:K0 l r1 P w0 c fr S (eg n Q)):K0 l r1 P w0 (.block n c) fr S Q:=by
 intro g a w h1 h2 h3 h4;refine wpIn_block (wpIn_mono (h g a w h1 h2 h3 h4) ?_);intro e a' w' hg;obtain⟨hd,g',fr',S',k1,k2,k3,k4⟩:=hg
 cases e with
 |normal=>exact⟨hd,g',fr',S',k1,k2,k3,k4⟩
 |exit m=>
  simp only[Exit.inBlock];simp only[Qp,eg]at k4;split
  ·rename_i e;rw[if_pos e]at k4;exact⟨hd,g',fr',S',k1,k2,k3,k4⟩
  ·rename_i e;rw[if_neg e]at k4;exact⟨hd,g',fr',S',k1,k2,k3,k4⟩
 |goto n=>exact⟨hd,g',fr',S',k1,k2,k3,k4⟩
 |ret=>exact⟨hd,g',fr',S',k1,k2,k3,k4⟩
 |panic ch=>exact⟨hd,g',fr',S',k1,k2,k3,k4⟩
 |outgrown=>exact⟨hd,g',fr',S',k1,k2,k3,k4⟩
def tW(le:Nat→Nat→Bool)(x a:Nat):Bool:=(aQ x).all fun d=>le a d
theorem ME(w0:W0)(hg:ga w0)(x:Nat)(hx:x<18446744073709551616)(fl bx:Nat)(hok:okF Tryz.prog fl=true)(ds:List DV)(le:Nat→Nat→Bool)
 (hle:∀(w1:W0) (c d:Nat) (T:St),c<64→d<64→lk T.box bx=some ds→aa Tryz.prog w1 fl [dI (c:Int),dI (d:Int),.v (.pointer (some ⟨bx,0,none⟩))] T (fun d' T'=>d'=dB (le c d)∧T'=T)) (S:St) (hbx:lk S.box bx=some ds):
 aa Tryz.prog w0 145 [dU (x:Int),.v (.func (.func fl) #[] #[.pointer (some ⟨bx,0,none⟩)])] S (fun d S'=>(∃r:Int,d=dI r∧((r= -1∧∀a,a∈aQ x→tW le x a=false)∨∃pre k rest,r=(k:Nat)∧pre++k::rest=aQ x∧(∀a,a∈pre→tW le x a=false)∧tW le x k=true))∧S'=S):=by
 refine lU [] mx Tryz.func145 rfl rfl (by kernel_rfl) ?_;simp(maxDischargeDepth:=12) (maxSteps:=1000000) -implicitDefEqProofs only[go_sem,Nat.reduceAdd,Nat.reduceSub,Nat.reduceMul,Nat.reduceLeDiff,Nat.reduceEqDiff,Nat.reduceGT,Nat.reduceBEq,reduceCtorEq,↓reduceIte,Int.reduceToNat,Int.reduceLE,Int.reduceLT,Int.reduceNe,Int.reduceEq,Tryz.ntmps145];intro b2 b3 b4;have e2:=bp b2 hbx;have g2:=fun d=>mq (l':=S.box) (d:=d) e2 hbx;have e3:=bp b3 (g2 _);have g3:=fun d d'=>mq (l':=S.box) (d:=d) e3 (g2 d');have e4:=bp b4 (g3 _ _);have g4:=fun d d' d''=>mq (l':=S.box) (d:=d) e4 (g3 d' d'');refine an (J5 _ x _) ?_;rintro _ _ ⟨be,rfl,rfl⟩;have e5:=bp be (g4 _ _ _);have g5:=fun d d' d'' d3=>mq (l':=S.box) (d:=d) e5 (g4 d' d'' d3);simp(maxDischargeDepth:=12) (maxSteps:=1000000) -implicitDefEqProofs only[go_sem,Nat.reduceAdd,Nat.reduceSub,Nat.reduceMul,Nat.reduceLeDiff,Nat.reduceEqDiff,Nat.reduceGT,Nat.reduceBEq,reduceCtorEq,↓reduceIte,Int.reduceToNat,Int.reduceLE,Int.reduceLT,Int.reduceNe,Int.reduceEq];intro g a w h1 h2 h3 ro hro;have hro:ro=none:=hro.resolve_right (by simp[fN])
 refine pH hg hx (b:=be.n) (fun pre y=>⟨(be.n,[dU (y:Int)])::(b4.n,[dI 0])::(b3.n,[.v (.func (.func fl) #[] #[.pointer (some ⟨bx,0,none⟩)])])::(b2.n,[dU (x:Int)])::S.box,S.acc⟩) (fun pre k y=>⟨(be.n,[dU (y:Int)])::(b4.n,[dI (k:Int)])::(b3.n,[.v (.func (.func fl) #[] #[.pointer (some ⟨bx,0,none⟩)])])::(b2.n,[dU (x:Int)])::S.box,S.acc⟩)
  (fun pre=>∀a,a∈pre→tW le x a=false) (fun _ h=>by cases h) (fun pre k y=>pre++k::aQ y=aQ x∧(∀a,a∈pre→tW le x a=false)∧tW le x k=true)
  (fun pre k y fr1 T1=>∀l r1,(∀a,a∈pre→tW le x a=false)→K0 l r1 Tryz.prog w0.np _ fr1 T1 fun e _ T'=>(e= .normal∧(∀a,a∈pre++[k]→tW le x a=false)∧Has ⟨(be.n,[dU (y:Int)])::(b4.n,[dI 0])::(b3.n,[.v (.func (.func fl) #[] #[.pointer (some ⟨bx,0,none⟩)])])::(b2.n,[dU (x:Int)])::S.box,S.acc⟩ T')∨(e= .ret∧(pre++k::aQ y=aQ x∧(∀a,a∈pre→tW le x a=false)∧tW le x k=true)∧Has ⟨(be.n,[dU (y:Int)])::(b4.n,[dI (k:Int)])::(b3.n,[.v (.func (.func fl) #[] #[.pointer (some ⟨bx,0,none⟩)])])::(b2.n,[dU (x:Int)])::S.box,S.acc⟩ T'))
  rfl rfl (by kernel_rfl) rfl ?_ ?_ (fun _ _=>rfl) (fun _ _=>rfl) (fun _ _ _=>rfl) (fun _ _ _=>rfl) ?_ (fun l r1 pre k y fr1 T1 hpre hinv hB g a w q1 q2 q3 q4=>hB l r1 hinv g a w q1 q2 q3 q4) ?_ ?_ g a w h1 h2 h3 (.inl hro)
 ·intro pre y;simp(maxDischargeDepth:=12) (maxSteps:=1000000) -implicitDefEqProofs only[go_sem,Nat.reduceAdd,Nat.reduceSub,Nat.reduceMul,Nat.reduceLeDiff,Nat.reduceEqDiff,Nat.reduceGT,Nat.reduceBEq,reduceCtorEq,↓reduceIte,Int.reduceToNat,Int.reduceLE,Int.reduceLT,Int.reduceNe,Int.reduceEq]
 ·intro pre y y';simp(maxDischargeDepth:=12) (maxSteps:=1000000) -implicitDefEqProofs only[go_sem,Nat.reduceAdd,Nat.reduceSub,Nat.reduceMul,Nat.reduceLeDiff,Nat.reduceEqDiff,Nat.reduceGT,Nat.reduceBEq,reduceCtorEq,↓reduceIte,Int.reduceToNat,Int.reduceLE,Int.reduceLT,Int.reduceNe,Int.reduceEq]
 ·intro pre k y hpre hinv;have hk64:=qb hpre;refine aU (ss:=[]) mx _ (by kernel_rfl) ?_;simp(maxDischargeDepth:=12) (maxSteps:=1000000) -implicitDefEqProofs only[go_sem,Nat.reduceAdd,Nat.reduceSub,Nat.reduceMul,Nat.reduceLeDiff,Nat.reduceEqDiff,Nat.reduceGT,Nat.reduceBEq,reduceCtorEq,↓reduceIte,Int.reduceToNat,Int.reduceLE,Int.reduceLT,Int.reduceNe,Int.reduceEq,JL];intro b5 l r1 hpre0;have e6:=bp b5 (g5 _ _ _ _);have g6:=fun d d' d'' d3 d4=>mq (l':=S.box) (d:=d) e6 (g5 d' d'' d3 d4);refine qI (sV (yr (by kernel_rfl) (aU (ss:=[]) mx _ (by kernel_rfl) ?_)));simp(maxDischargeDepth:=12) (maxSteps:=1000000) -implicitDefEqProofs only[go_sem,Nat.reduceAdd,Nat.reduceSub,Nat.reduceMul,Nat.reduceLeDiff,Nat.reduceEqDiff,Nat.reduceGT,Nat.reduceBEq,reduceCtorEq,↓reduceIte,Int.reduceToNat,Int.reduceLE,Int.reduceLT,Int.reduceNe,Int.reduceEq];intro b6;have e7:=bp b6 (g6 _ _ _ _ _);have g7:=fun d d' d'' d3 d4 d5=>mq (l':=S.box) (d:=d) e7 (g6 d' d'' d3 d4 d5);refine sV (sV (yr (by kernel_rfl) (aU (ss:=[]) mx _ (by kernel_rfl) ?_)));simp(maxDischargeDepth:=12) (maxSteps:=1000000) -implicitDefEqProofs only[go_sem,Nat.reduceAdd,Nat.reduceSub,Nat.reduceMul,Nat.reduceLeDiff,Nat.reduceEqDiff,Nat.reduceGT,Nat.reduceBEq,reduceCtorEq,↓reduceIte,Int.reduceToNat,Int.reduceLE,Int.reduceLT,Int.reduceNe,Int.reduceEq];refine an (J5 _ x _) ?_;rintro _ _ ⟨be2,rfl,rfl⟩;have e8:=bp be2 (g7 _ _ _ _ _ _);simp(maxDischargeDepth:=12) (maxSteps:=1000000) -implicitDefEqProofs only[go_sem,Nat.reduceAdd,Nat.reduceSub,Nat.reduceMul,Nat.reduceLeDiff,Nat.reduceEqDiff,Nat.reduceGT,Nat.reduceBEq,reduceCtorEq,↓reduceIte,Int.reduceToNat,Int.reduceLE,Int.reduceLT,Int.reduceNe,Int.reduceEq];refine qI ?_;intro g a w q1 q2 q3 q4;have hgn:ga w0.np:=hg
  refine pH (w0:=w0.np) hgn hx (b:=be2.n) (fun pre2 y2=>⟨(be2.n,[dU (y2:Int)])::(b6.n,[dB (pre2.all fun d=>le k d)])::(b5.n,[dI (k:Int)])::(be.n,[dU (y:Int)])::(b4.n,[dI 0])::(b3.n,[.v (.func (.func fl) #[] #[.pointer (some ⟨bx,0,none⟩)])])::(b2.n,[dU (x:Int)])::S.box,S.acc⟩) (fun pre2 _ y2=>⟨(be2.n,[dU (y2:Int)])::(b6.n,[dB (pre2.all fun d=>le k d)])::(b5.n,[dI (k:Int)])::(be.n,[dU (y:Int)])::(b4.n,[dI 0])::(b3.n,[.v (.func (.func fl) #[] #[.pointer (some ⟨bx,0,none⟩)])])::(b2.n,[dU (x:Int)])::S.box,S.acc⟩)
   (fun _=>True) trivial (fun _ _ _=>False)
   (fun pre2 k2 y2 fr1 T1=>vw Tryz.prog w0.np.np [] _ fr1 T1 fun e _ T'=>e= .normal∧Has (⟨(be2.n,[dU (y2:Int)])::(b6.n,[dB ((pre2++[k2]).all fun d=>le k d)])::(b5.n,[dI (k:Int)])::(be.n,[dU (y:Int)])::(b4.n,[dI 0])::(b3.n,[.v (.func (.func fl) #[] #[.pointer (some ⟨bx,0,none⟩)])])::(b2.n,[dU (x:Int)])::S.box,S.acc⟩:St) T')
   rfl rfl (by kernel_rfl) rfl ?_ ?_ (fun _ _=>rfl) (fun _ _=>rfl) (fun _ _ _=>rfl) (fun _ _ _=>rfl) ?_ (fun l2 r2 pre2 k2 y2 fr1 T1 hpre2 _ hB g a w p1 p2 p3 p4=>wpIn_mono (aU (ss:=[]) mx _ (by kernel_rfl) hB g a w p1 p2 p3 (some l2) (.inr (by kernel_rfl))) fun e a w k=>k.mono fun e fr S h=> .inl ⟨h.1,trivial,h.2⟩) ?_ (fun _ _ _ h=>h.elim) g a w q1 q2 q3 (.inr ⟨l,r1,rfl,q4⟩)
  ·intro pre2 y2;simp(maxDischargeDepth:=12) (maxSteps:=1000000) -implicitDefEqProofs only[go_sem,Nat.reduceAdd,Nat.reduceSub,Nat.reduceMul,Nat.reduceLeDiff,Nat.reduceEqDiff,Nat.reduceGT,Nat.reduceBEq,reduceCtorEq,↓reduceIte,Int.reduceToNat,Int.reduceLE,Int.reduceLT,Int.reduceNe,Int.reduceEq]
  ·intro pre2 y2 y2';simp(maxDischargeDepth:=12) (maxSteps:=1000000) -implicitDefEqProofs only[go_sem,Nat.reduceAdd,Nat.reduceSub,Nat.reduceMul,Nat.reduceLeDiff,Nat.reduceEqDiff,Nat.reduceGT,Nat.reduceBEq,reduceCtorEq,↓reduceIte,Int.reduceToNat,Int.reduceLE,Int.reduceLT,Int.reduceNe,Int.reduceEq]
  ·intro pre2 k2 y2 hpre2 _;have hk2:=qb hpre2;refine aU (ss:=[]) mx _ (by kernel_rfl) ?_;simp(maxDischargeDepth:=12) (maxSteps:=1000000) -implicitDefEqProofs only[go_sem,Nat.reduceAdd,Nat.reduceSub,Nat.reduceMul,Nat.reduceLeDiff,Nat.reduceEqDiff,Nat.reduceGT,Nat.reduceBEq,reduceCtorEq,↓reduceIte,Int.reduceToNat,Int.reduceLE,Int.reduceLT,Int.reduceNe,Int.reduceEq,JL];refine⟨fun hp=>?_,fun hp=>?_⟩
   ·rw[hok];simp(maxDischargeDepth:=12) (maxSteps:=1000000) -implicitDefEqProofs only[go_sem,Nat.reduceAdd,Nat.reduceSub,Nat.reduceMul,Nat.reduceLeDiff,Nat.reduceEqDiff,Nat.reduceGT,Nat.reduceBEq,reduceCtorEq,↓reduceIte,Int.reduceToNat,Int.reduceLE,Int.reduceLT,Int.reduceNe,Int.reduceEq];refine aw (hle _ k k2 _ hk64 hk2 (by simp(maxDischargeDepth:=12) (maxSteps:=1000000) -implicitDefEqProofs only[go_sem,Nat.reduceAdd,Nat.reduceSub,Nat.reduceMul,Nat.reduceLeDiff,Nat.reduceEqDiff,Nat.reduceGT,Nat.reduceBEq,reduceCtorEq,↓reduceIte,Int.reduceToNat,Int.reduceLE,Int.reduceLT,Int.reduceNe,Int.reduceEq,e2,e3,e4,e5,e6,e7,e8,hbx])) ?_;simp(maxDischargeDepth:=12) (maxSteps:=1000000) -implicitDefEqProofs only[go_sem,Nat.reduceAdd,Nat.reduceSub,Nat.reduceMul,Nat.reduceLeDiff,Nat.reduceEqDiff,Nat.reduceGT,Nat.reduceBEq,reduceCtorEq,↓reduceIte,Int.reduceToNat,Int.reduceLE,Int.reduceLT,Int.reduceNe,Int.reduceEq];rw[List.all_append,hp];simp only[Yl,List.all_nil,Bool.and_true,XE];exact .refl _
   ·rw[List.all_append,hp,Bool.false_and];exact .refl _
  ·intro _;simp(maxDischargeDepth:=12) (maxSteps:=1000000) -implicitDefEqProofs only[go_sem,Nat.reduceAdd,Nat.reduceSub,Nat.reduceMul,Nat.reduceLeDiff,Nat.reduceEqDiff,Nat.reduceGT,Nat.reduceBEq,reduceCtorEq,↓reduceIte,Int.reduceToNat,Int.reduceLE,Int.reduceLT,Int.reduceNe,Int.reduceEq];refine yr (by kernel_rfl) (aU (ss:=[]) mx _ (by kernel_rfl) ?_);simp(maxDischargeDepth:=12) (maxSteps:=1000000) -implicitDefEqProofs only[go_sem,Nat.reduceAdd,Nat.reduceSub,Nat.reduceMul,Nat.reduceLeDiff,Nat.reduceEqDiff,Nat.reduceGT,Nat.reduceBEq,reduceCtorEq,↓reduceIte,Int.reduceToNat,Int.reduceLE,Int.reduceLT,Int.reduceNe,Int.reduceEq];refine⟨fun h=>⟨hpre,hpre0,h⟩,fun h a ha=>?_⟩;rcases Wo.1 ha with ha|ha
   ·exact hpre0 a ha
   ·rw[Wl.1 ha];exact h
 ·intro hI;simp(maxDischargeDepth:=12) (maxSteps:=1000000) -implicitDefEqProofs only[go_sem,Nat.reduceAdd,Nat.reduceSub,Nat.reduceMul,Nat.reduceLeDiff,Nat.reduceEqDiff,Nat.reduceGT,Nat.reduceBEq,reduceCtorEq,↓reduceIte,Int.reduceToNat,Int.reduceLE,Int.reduceLT,Int.reduceNe,Int.reduceEq];exact⟨_,S,.refl _,⟨.cons _ (.cons _ (.cons _ (.cons _ (.refl _)))),.refl _⟩,⟨-1,rfl,.inl ⟨rfl,hI⟩⟩,rfl⟩
 ·intro pre k y hst;simp(maxDischargeDepth:=12) (maxSteps:=1000000) -implicitDefEqProofs only[go_sem,Nat.reduceAdd,Nat.reduceSub,Nat.reduceMul,Nat.reduceLeDiff,Nat.reduceEqDiff,Nat.reduceGT,Nat.reduceBEq,reduceCtorEq,↓reduceIte,Int.reduceToNat,Int.reduceLE,Int.reduceLT,Int.reduceNe,Int.reduceEq];exact⟨_,S,.refl _,⟨.cons _ (.cons _ (.cons _ (.cons _ (.refl _)))),.refl _⟩,⟨k,rfl,.inr ⟨pre,k,_,rfl,hst⟩⟩,rfl⟩
theorem OX(w0:W0)(up:List Nat)(hu:df up)(bx c d:Nat)(S:St)(hb:lk S.box bx=some [dP up]):aa Tryz.prog w0 146 [dI (c:Int),dI (d:Int),.v (.pointer (some ⟨bx,0,none⟩))] S (fun e S'=>e=dB (cM up c d)∧S'=S):=by
 refine cc [] mx Tryz.func146 rfl rfl (by kernel_rfl) ?_;simp only[Tryz.ntmps146,Wq,WR,Nat.reduceAdd,Nat.reduceSub,List.reduceReplicate,Xk,Xz];simp(maxDischargeDepth:=12) (maxSteps:=1000000) -implicitDefEqProofs only[Tryz.ntmps146,go_sem,Nat.reduceAdd,Nat.reduceSub,Nat.reduceMul,Nat.reduceLeDiff,Nat.reduceEqDiff,Nat.reduceGT,Nat.reduceBEq,reduceCtorEq,↓reduceIte,Int.reduceToNat,Int.reduceLE,Int.reduceLT,Int.reduceNe,Int.reduceEq,hb];refine aw (s9 _ up hu c d _) ?_;simp(maxDischargeDepth:=12) (maxSteps:=1000000) -implicitDefEqProofs only[go_sem,Nat.reduceAdd,Nat.reduceSub,Nat.reduceMul,Nat.reduceLeDiff,Nat.reduceEqDiff,Nat.reduceGT,Nat.reduceBEq,reduceCtorEq,↓reduceIte,Int.reduceToNat,Int.reduceLE,Int.reduceLT,Int.reduceNe,Int.reduceEq,dp]
theorem O6(w0:W0)(up:List Nat)(hu:df up)(bx c d:Nat)(S:St)(hb:lk S.box bx=some [dP up]):aa Tryz.prog w0 148 [dI (c:Int),dI (d:Int),.v (.pointer (some ⟨bx,0,none⟩))] S (fun e S'=>e=dB (cM up d c)∧S'=S):=by
 refine cc [] mx Tryz.func148 rfl rfl (by kernel_rfl) ?_;simp only[Tryz.ntmps148,Wq,WR,Nat.reduceAdd,Nat.reduceSub,List.reduceReplicate,Xk,Xz];simp(maxDischargeDepth:=12) (maxSteps:=1000000) -implicitDefEqProofs only[Tryz.ntmps148,go_sem,Nat.reduceAdd,Nat.reduceSub,Nat.reduceMul,Nat.reduceLeDiff,Nat.reduceEqDiff,Nat.reduceGT,Nat.reduceBEq,reduceCtorEq,↓reduceIte,Int.reduceToNat,Int.reduceLE,Int.reduceLT,Int.reduceNe,Int.reduceEq,hb];refine aw (s9 _ up hu d c _) ?_;simp(maxDischargeDepth:=12) (maxSteps:=1000000) -implicitDefEqProofs only[go_sem,Nat.reduceAdd,Nat.reduceSub,Nat.reduceMul,Nat.reduceLeDiff,Nat.reduceEqDiff,Nat.reduceGT,Nat.reduceBEq,reduceCtorEq,↓reduceIte,Int.reduceToNat,Int.reduceLE,Int.reduceLT,Int.reduceNe,Int.reduceEq,dp]
def yp(le:Nat→Nat→Bool)(x:Nat)(r:Int):Prop:=(r= -1∧∀a,a∈aQ x→tW le x a=false)∨∃pre k rest,r=((k:Nat):Int)∧pre++k::rest=aQ x∧(∀a,a∈pre→tW le x a=false)∧tW le x k=true
theorem rD{le:Nat→Nat→Bool}{n x a b:Nat}{r:Int}(hx:∀c,(c<64∧x.testBit c=true)↔(c<n∧le a c=true∧le b c=true))(h:yp le x r):r<0↔¬jV le n a b:=by
 have hm:∀c,c∈aQ x↔(c<n∧le a c=true∧le b c=true):=fun c=>qH.trans (hx c)
 have key:∀c,c∈aQ x→(tW le x c=true↔CM le n a b c):=fun c hc=>by
  have h1:=(hm c).1 hc;unfold tW;rw[Ww]
  exact⟨fun h=>⟨h1.1,h1.2.1,h1.2.2,fun d hd h3 h4=>h d ((hm d).2 ⟨hd,h3,h4⟩)⟩,fun h d hd=>by
   have h2:=(hm d).1 hd;exact h.2.2.2 d h2.1 h2.2.1 h2.2.2⟩
 rcases h with⟨rfl,h⟩|⟨pre,k,rest,rfl,hp,h1,h2⟩
 ·refine⟨fun _ hj=>?_,fun _=>by omega⟩;obtain⟨c,hc⟩:=hj;have hcm:=(hm c).2 ⟨hc.1,hc.2.1,hc.2.2.1⟩;have:=(key c hcm).2 hc;rw[h c hcm]at this;cases this
 ·refine⟨fun h=>by omega,fun hj=>absurd ⟨k,(key k (by rw[←hp];simp)).1 h2⟩ hj⟩
theorem pf{up:List Nat}(hl:up.length≤64){a:Nat}(ha:a<up.length)(c:Nat):(bA up a).testBit c=true↔cM up a c=true:=by
 rw[cn];unfold bA bt;rw[Nat.testBit_mod_two_pow];simp only[We,decide_eq_true_eq];exact⟨fun h=>⟨hl,ha,h.1,h.2⟩,fun h=>⟨h.2.2.1,h.2.2.2⟩⟩
theorem sq{up:List Nat}{a b:Nat}(h:cM up a b=true):a<64∧b<64∧a<up.length∧b<up.length:=by
 have:=cn.1 h;omega
theorem AW{up:List Nat}(hl:up.length≤64){a b:Nat}(ha:a<up.length)(hb:b<up.length)(c:Nat):(c<64∧(bA up a &&& bA up b).testBit c=true)↔(c<up.length∧cM up a c=true∧cM up b c=true):=by
 rw[Nat.testBit_and,We,pf hl ha,pf hl hb];exact⟨fun h=>⟨(sq h.2.1).2.2.2,h.2⟩,fun h=>⟨(sq h.2.1).2.1,h.2⟩⟩
theorem Bm{up:List Nat}(hl:up.length≤64){a b:Nat}(c:Nat):(c<64∧(bW up a &&& bW up b).testBit c=true)↔(c<up.length∧cM up c a=true∧cM up c b=true):=by
 rw[Nat.testBit_and,We,mH,mH];exact⟨fun h=>⟨(sq h.2.1).2.2.1,h.2⟩,fun h=>⟨(sq h.2.1).1,h.2⟩⟩
theorem JH{x y:Nat}(h:x<18446744073709551616):x &&& y<18446744073709551616:=X1 Nat.and_le_left h
theorem tq{up:List Nat}(hu:df up)(a:Nat):bA up a<18446744073709551616:=by
 unfold bA;refine X1 (Nat.mod_le _ _) ?_;rcases tN (o:=up) (a:=a)with h|h
 ·exact hu _ h
 ·rw[h];omega
def ia(le:Nat→Nat→Bool)(x:Nat):Int:=match(aQ x).find? (fun a=>tW le x a)with
 |some k=>((k:Nat):Int)
 |none=> -1
theorem py{p:Nat→Bool}:∀{pre:List Nat} {k:Nat} {rest:List Nat},(∀a,a∈pre→p a=false)→p k=true→(pre++k::rest).find? p=some k
 |[],k,rest,_,h=>by simp[h]
 |a::pre,k,rest,h,hk=>by
  rw[Xk,List.find?_cons,h a (by simp)];exact py (fun b hb=>h b (by simp[hb])) hk
theorem zI{le:Nat→Nat→Bool}{x:Nat}{r:Int}(h:yp le x r):r=ia le x:=by
 unfold ia;rcases h with⟨rfl,h⟩|⟨pre,k,rest,rfl,hp,h1,h2⟩
 ·rw[Yn.2 (fun a ha=>by rw[h a ha];simp)]
 ·rw[←hp,py h1 h2]
theorem vC(le:Nat→Nat→Bool)(x:Nat):yp le x (ia le x):=by
 unfold ia
 cases h:(aQ x).find? (fun a=>tW le x a)with
 |none=>exact .inl ⟨rfl,fun a ha=>by have:=Yn.1 h a ha;simpa using this⟩
 |some k=>
  have h':=List.find?_eq_some_iff_append.1 h;obtain⟨h1,pre,rest,h2,h3⟩:=h';exact .inr ⟨pre,k,rest,rfl,h2.symm,fun a ha=>by simpa using h3 a ha,h1⟩
theorem EW(w0:W0)(hg:ga w0)(x:Nat)(hx:x<18446744073709551616)(fl bx:Nat)(hok:okF Tryz.prog fl=true)(ds:List DV)(le:Nat→Nat→Bool)
 (hle:∀(w1:W0) (c d:Nat) (T:St),c<64→d<64→lk T.box bx=some ds→aa Tryz.prog w1 fl [dI (c:Int),dI (d:Int),.v (.pointer (some ⟨bx,0,none⟩))] T (fun d' T'=>d'=dB (le c d)∧T'=T)) (S:St) (hbx:lk S.box bx=some ds):
 aa Tryz.prog w0 145 [dU (x:Int),.v (.func (.func fl) #[] #[.pointer (some ⟨bx,0,none⟩)])] S (fun d S'=>d=dI (ia le x)∧S'=S):=by
 refine(ME w0 hg x hx fl bx hok ds le hle S hbx).mono ?_;rintro _ _ ⟨⟨r,rfl,hr⟩,rfl⟩;exact⟨by rw[zI hr],rfl⟩
theorem Kb(w0:W0)(hg:ga w0)(up:List Nat)(hu:df up)(hl:up.length≤64)(a b:Nat)(ha:a<up.length)(hb:b<up.length)(S:St):aa Tryz.prog w0 111 [dP up,dI (a:Int),dI (b:Int)] S (fun d S'=>d=dI (ia (cM up) (bA up a &&& bA up b))∧S'=S):=by
 have hwa:=tq hu a;have hwb:=tq hu b;have l1:uP up (a:Int)=true:=nC.2 ⟨hl,by omega,by omega⟩;have l2:uP up (b:Int)=true:=nC.2 ⟨hl,by omega,by omega⟩;refine cc [] mx Tryz.func111 rfl rfl (by kernel_rfl) ?_;simp(maxDischargeDepth:=12) (maxSteps:=1000000) -implicitDefEqProofs only[Tryz.ntmps111,go_sem,Nat.reduceAdd,Nat.reduceSub,Nat.reduceMul,Nat.reduceLeDiff,Nat.reduceEqDiff,Nat.reduceGT,Nat.reduceBEq,reduceCtorEq,↓reduceIte,Int.reduceToNat,Int.reduceLE,Int.reduceLT,Int.reduceNe,Int.reduceEq];intro b3;refine aw (s8 _ up a _) ?_;simp(maxDischargeDepth:=12) (maxSteps:=1000000) -implicitDefEqProofs only[go_sem,Nat.reduceAdd,Nat.reduceSub,Nat.reduceMul,Nat.reduceLeDiff,Nat.reduceEqDiff,Nat.reduceGT,Nat.reduceBEq,reduceCtorEq,↓reduceIte,Int.reduceToNat,Int.reduceLE,Int.reduceLT,Int.reduceNe,Int.reduceEq,l1];refine aw (s8 _ up b _) ?_;simp(maxDischargeDepth:=12) (maxSteps:=1000000) -implicitDefEqProofs only[go_sem,Nat.reduceAdd,Nat.reduceSub,Nat.reduceMul,Nat.reduceLeDiff,Nat.reduceEqDiff,Nat.reduceGT,Nat.reduceBEq,reduceCtorEq,↓reduceIte,Int.reduceToNat,Int.reduceLE,Int.reduceLT,Int.reduceNe,Int.reduceEq,l2];refine dn (sM _ up hu a ha hl _) ?_;simp(maxDischargeDepth:=12) (maxSteps:=1000000) -implicitDefEqProofs only[go_sem,Nat.reduceAdd,Nat.reduceSub,Nat.reduceMul,Nat.reduceLeDiff,Nat.reduceEqDiff,Nat.reduceGT,Nat.reduceBEq,reduceCtorEq,↓reduceIte,Int.reduceToNat,Int.reduceLE,Int.reduceLT,Int.reduceNe,Int.reduceEq];refine dn (sM _ up hu b hb hl _) ?_;simp(maxDischargeDepth:=12) (maxSteps:=1000000) -implicitDefEqProofs only[go_sem,Nat.reduceAdd,Nat.reduceSub,Nat.reduceMul,Nat.reduceLeDiff,Nat.reduceEqDiff,Nat.reduceGT,Nat.reduceBEq,reduceCtorEq,↓reduceIte,Int.reduceToNat,Int.reduceLE,Int.reduceLT,Int.reduceNe,Int.reduceEq,dW hwa hwb];refine dn (EW _ hg _ (JH hwa) 146 b3.n (by kernel_rfl) [dP up] (cM up) (fun w1 c d T _ _ hT=>OX w1 up hu b3.n c d T hT) _ (by simp(maxDischargeDepth:=12) (maxSteps:=1000000) -implicitDefEqProofs only[go_sem,Nat.reduceAdd,Nat.reduceSub,Nat.reduceMul,Nat.reduceLeDiff,Nat.reduceEqDiff,Nat.reduceGT,Nat.reduceBEq,reduceCtorEq,↓reduceIte,Int.reduceToNat,Int.reduceLE,Int.reduceLT,Int.reduceNe,Int.reduceEq])) ?_;simp(maxDischargeDepth:=12) (maxSteps:=1000000) -implicitDefEqProofs only[go_sem,Nat.reduceAdd,Nat.reduceSub,Nat.reduceMul,Nat.reduceLeDiff,Nat.reduceEqDiff,Nat.reduceGT,Nat.reduceBEq,reduceCtorEq,↓reduceIte,Int.reduceToNat,Int.reduceLE,Int.reduceLT,Int.reduceNe,Int.reduceEq]
theorem Kf(w0:W0)(hg:ga w0)(up:List Nat)(hu:df up)(hl:up.length≤64)(a b:Nat)(S:St):aa Tryz.prog w0 112 [dP up,dI (a:Int),dI (b:Int)] S (fun d S'=>d=dI (ia (fun x y=>cM up y x) (bW up a &&& bW up b))∧S'=S):=by
 have hwa:bW up a<18446744073709551616:=iQ (by omega);have hwb:bW up b<18446744073709551616:=iQ (by omega);refine cc [] mx Tryz.func112 rfl rfl (by kernel_rfl) ?_;simp(maxDischargeDepth:=12) (maxSteps:=1000000) -implicitDefEqProofs only[Tryz.ntmps112,go_sem,Nat.reduceAdd,Nat.reduceSub,Nat.reduceMul,Nat.reduceLeDiff,Nat.reduceEqDiff,Nat.reduceGT,Nat.reduceBEq,reduceCtorEq,↓reduceIte,Int.reduceToNat,Int.reduceLE,Int.reduceLT,Int.reduceNe,Int.reduceEq];intro b3;refine dn (JC _ up hu a hl _) ?_;simp(maxDischargeDepth:=12) (maxSteps:=1000000) -implicitDefEqProofs only[go_sem,Nat.reduceAdd,Nat.reduceSub,Nat.reduceMul,Nat.reduceLeDiff,Nat.reduceEqDiff,Nat.reduceGT,Nat.reduceBEq,reduceCtorEq,↓reduceIte,Int.reduceToNat,Int.reduceLE,Int.reduceLT,Int.reduceNe,Int.reduceEq];refine dn (JC _ up hu b hl _) ?_;simp(maxDischargeDepth:=12) (maxSteps:=1000000) -implicitDefEqProofs only[go_sem,Nat.reduceAdd,Nat.reduceSub,Nat.reduceMul,Nat.reduceLeDiff,Nat.reduceEqDiff,Nat.reduceGT,Nat.reduceBEq,reduceCtorEq,↓reduceIte,Int.reduceToNat,Int.reduceLE,Int.reduceLT,Int.reduceNe,Int.reduceEq,dW hwa hwb];refine dn (EW _ hg _ (JH hwa) 148 b3.n (by kernel_rfl) [dP up] (fun x y=>cM up y x) (fun w1 c d T _ _ hT=>O6 w1 up hu b3.n c d T hT) _ (by simp(maxDischargeDepth:=12) (maxSteps:=1000000) -implicitDefEqProofs only[go_sem,Nat.reduceAdd,Nat.reduceSub,Nat.reduceMul,Nat.reduceLeDiff,Nat.reduceEqDiff,Nat.reduceGT,Nat.reduceBEq,reduceCtorEq,↓reduceIte,Int.reduceToNat,Int.reduceLE,Int.reduceLT,Int.reduceNe,Int.reduceEq])) ?_;simp(maxDischargeDepth:=12) (maxSteps:=1000000) -implicitDefEqProofs only[go_sem,Nat.reduceAdd,Nat.reduceSub,Nat.reduceMul,Nat.reduceLeDiff,Nat.reduceEqDiff,Nat.reduceGT,Nat.reduceBEq,reduceCtorEq,↓reduceIte,Int.reduceToNat,Int.reduceLE,Int.reduceLT,Int.reduceNe,Int.reduceEq]
theorem lD{up:List Nat}(hl:up.length≤64){a b:Nat}(ha:a<up.length)(hb:b<up.length):ia (cM up) (bA up a &&& bA up b)<0↔¬jV (cM up) up.length a b:=rD (AW hl ha hb) (vC _ _)
theorem lM{up:List Nat}(hl:up.length≤64){a b:Nat}:ia (fun x y=>cM up y x) (bW up a &&& bW up b)<0↔¬jV (fun x y=>cM up y x) up.length a b:=rD (Bm hl) (vC _ _)
theorem iu{up:List Nat}:qp up↔1≤up.length∧up.length≤64∧Cl up∧∀a,a<up.length→∀b,b<a→(¬(cM up a b=true∧cM up b a=true))∧jV (cM up) up.length a b∧jV (fun x y=>cM up y x) up.length a b:=by
 constructor
 ·intro h;refine⟨h.pos,h.le,h.cl,fun a ha b hb=>⟨fun q=>?_,h.join a b hb ha,h.meet a b hb ha⟩⟩;have:=h.CU a b (cn.1 q.1).2.2.2 (cn.1 q.2).2.2.2;omega
 ·rintro⟨h1,h2,h3,h4⟩;refine⟨h1,h2,h3,fun a b q r=>?_,fun a b hb ha=>(h4 a ha b hb).2.1,fun a b hb ha=>(h4 a ha b hb).2.2⟩;have ha:=eN q;have hb:=eN r;rcases Xt a b with e|e|e
  ·exact absurd ⟨cn.2 ⟨h2,hb,ha,r⟩,cn.2 ⟨h2,ha,hb,q⟩⟩ (h4 b hb a e).1
  ·exact e
  ·exact absurd ⟨cn.2 ⟨h2,ha,hb,q⟩,cn.2 ⟨h2,hb,ha,r⟩⟩ (h4 a ha b e).1
theorem RR(w0:W0)(hg:ga w0)(up:List Nat)(hu:df up)(h0:up.length≤4611686018427387904)(S:St):aa Tryz.prog w0 61 [dP up] S (fun d S'=>d=dB (pB (qp up))∧S'=S):=by
 refine cc [] mx Tryz.func61 rfl rfl (by kernel_rfl) ?_;simp(maxDischargeDepth:=12) (maxSteps:=1000000) -implicitDefEqProofs only[Tryz.ntmps61,go_sem,Nat.reduceAdd,Nat.reduceSub,Nat.reduceMul,Nat.reduceLeDiff,Nat.reduceEqDiff,Nat.reduceGT,Nat.reduceBEq,reduceCtorEq,↓reduceIte,Int.reduceToNat,Int.reduceLE,Int.reduceLT,Int.reduceNe,Int.reduceEq];refine⟨fun h hp=>by have:=hp.pos;omega,fun h1=>⟨fun h hp=>by have:=hp.le;omega,fun h2=>aw (K9 _ up hu (by omega) _) ?_⟩⟩;have hl:up.length≤64:=by omega
 simp(maxDischargeDepth:=12) (maxSteps:=1000000) -implicitDefEqProofs only[go_sem,Nat.reduceAdd,Nat.reduceSub,Nat.reduceMul,Nat.reduceLeDiff,Nat.reduceEqDiff,Nat.reduceGT,Nat.reduceBEq,reduceCtorEq,↓reduceIte,Int.reduceToNat,Int.reduceLE,Int.reduceLT,Int.reduceNe,Int.reduceEq];refine aw (LH _ (cK up) up (by rw[nM];omega) _) ?_;simp(maxDischargeDepth:=12) (maxSteps:=1000000) -implicitDefEqProofs only[go_sem,Nat.reduceAdd,Nat.reduceSub,Nat.reduceMul,Nat.reduceLeDiff,Nat.reduceEqDiff,Nat.reduceGT,Nat.reduceBEq,reduceCtorEq,↓reduceIte,Int.reduceToNat,Int.reduceLE,Int.reduceLT,Int.reduceNe,Int.reduceEq];refine⟨fun hne hp=>hne (rm hp.cl),fun heq=>?_⟩;have hcl:=pQ.1 (Wy.1 heq);refine aY [] up.length [0,21,22] (fun a=>[(22,dI a)]) (fun _=>S) (fun a=>∀a',a'<a→∀b,b<a'→(¬(cM up a' b=true∧cM up b a'=true))∧p0 up a' b) mx (by kernel_rfl) ?_ ?_
 ·simp(maxDischargeDepth:=12) (maxSteps:=1000000) -implicitDefEqProofs only[go_sem,Nat.reduceAdd,Nat.reduceSub,Nat.reduceMul,Nat.reduceLeDiff,Nat.reduceEqDiff,Nat.reduceGT,Nat.reduceBEq,reduceCtorEq,↓reduceIte,Int.reduceToNat,Int.reduceLE,Int.reduceLT,Int.reduceNe,Int.reduceEq];intro a' ha';omega
 ·intro a ha hA;simp(maxDischargeDepth:=12) (maxSteps:=1000000) -implicitDefEqProofs only[go_sem,Nat.reduceAdd,Nat.reduceSub,Nat.reduceMul,Nat.reduceLeDiff,Nat.reduceEqDiff,Nat.reduceGT,Nat.reduceBEq,reduceCtorEq,↓reduceIte,Int.reduceToNat,Int.reduceLE,Int.reduceLT,Int.reduceNe,Int.reduceEq];refine⟨fun hla=>?_,fun hge=>?_⟩
  ·refine aY [] a [0,3,21,22,25,26] (fun b=>[(26,dI b)]) (fun _=>S) (fun b=>∀b',b'<b→(¬(cM up a b'=true∧cM up b' a=true))∧p0 up a b') mx (by kernel_rfl) ?_ ?_
   ·simp(maxDischargeDepth:=12) (maxSteps:=1000000) -implicitDefEqProofs only[go_sem,Nat.reduceAdd,Nat.reduceSub,Nat.reduceMul,Nat.reduceLeDiff,Nat.reduceEqDiff,Nat.reduceGT,Nat.reduceBEq,reduceCtorEq,↓reduceIte,Int.reduceToNat,Int.reduceLE,Int.reduceLT,Int.reduceNe,Int.reduceEq];intro b' hb';omega
   ·intro b hb hB;simp(maxDischargeDepth:=12) (maxSteps:=1000000) -implicitDefEqProofs only[go_sem,Nat.reduceAdd,Nat.reduceSub,Nat.reduceMul,Nat.reduceLeDiff,Nat.reduceEqDiff,Nat.reduceGT,Nat.reduceBEq,reduceCtorEq,↓reduceIte,Int.reduceToNat,Int.reduceLE,Int.reduceLT,Int.reduceNe,Int.reduceEq];refine⟨fun hlb=>aw (s9 _ up hu a b _) ?_,fun hge=>?_⟩
    ·simp(maxDischargeDepth:=12) (maxSteps:=1000000) -implicitDefEqProofs only[go_sem,Nat.reduceAdd,Nat.reduceSub,Nat.reduceMul,Nat.reduceLeDiff,Nat.reduceEqDiff,Nat.reduceGT,Nat.reduceBEq,reduceCtorEq,↓reduceIte,Int.reduceToNat,Int.reduceLE,Int.reduceLT,Int.reduceNe,Int.reduceEq,dp];refine⟨fun p1=>aw (s9 _ up hu b a _) ?_,fun p1=>aw (Kb _ hg up hu hl a b hla (by omega) _) ?_⟩
     ·simp(maxDischargeDepth:=12) (maxSteps:=1000000) -implicitDefEqProofs only[go_sem,Nat.reduceAdd,Nat.reduceSub,Nat.reduceMul,Nat.reduceLeDiff,Nat.reduceEqDiff,Nat.reduceGT,Nat.reduceBEq,reduceCtorEq,↓reduceIte,Int.reduceToNat,Int.reduceLE,Int.reduceLT,Int.reduceNe,Int.reduceEq,dp];refine⟨fun p2 hp=>(iu.1 hp |>.2.2.2 a hla b hlb).1 ⟨p1,p2⟩,fun p2=>aw (Kb _ hg up hu hl a b hla (by omega) _) ?_⟩;simp(maxDischargeDepth:=12) (maxSteps:=1000000) -implicitDefEqProofs only[go_sem,Nat.reduceAdd,Nat.reduceSub,Nat.reduceMul,Nat.reduceLeDiff,Nat.reduceEqDiff,Nat.reduceGT,Nat.reduceBEq,reduceCtorEq,↓reduceIte,Int.reduceToNat,Int.reduceLE,Int.reduceLT,Int.reduceNe,Int.reduceEq];refine⟨fun q hp=>(lD hl hla (by omega)).1 q (iu.1 hp |>.2.2.2 a hla b hlb).2.1,fun q=>aw (Kf _ hg up hu hl a b _) ?_⟩;simp(maxDischargeDepth:=12) (maxSteps:=1000000) -implicitDefEqProofs only[go_sem,Nat.reduceAdd,Nat.reduceSub,Nat.reduceMul,Nat.reduceLeDiff,Nat.reduceEqDiff,Nat.reduceGT,Nat.reduceBEq,reduceCtorEq,↓reduceIte,Int.reduceToNat,Int.reduceLE,Int.reduceLT,Int.reduceNe,Int.reduceEq];refine⟨fun q2 hp=>(lM hl).1 q2 (iu.1 hp |>.2.2.2 a hla b hlb).2.2,fun q2=>⟨hlb,fun b' hb'=>?_,aI (by omega)⟩⟩;by_cases e:b'=b
      ·subst e;exact⟨fun h=>(by rw[p2]at h;cases h.2),Wy.1 fun g=>q ((lD hl hla (by omega)).2 g),Wy.1 fun g=>q2 ((lM hl).2 g)⟩
      ·exact hB b' (by omega)
     ·skip
      simp(maxDischargeDepth:=12) (maxSteps:=1000000) -implicitDefEqProofs only[go_sem,Nat.reduceAdd,Nat.reduceSub,Nat.reduceMul,Nat.reduceLeDiff,Nat.reduceEqDiff,Nat.reduceGT,Nat.reduceBEq,reduceCtorEq,↓reduceIte,Int.reduceToNat,Int.reduceLE,Int.reduceLT,Int.reduceNe,Int.reduceEq];refine⟨fun q hp=>(lD hl hla (by omega)).1 q (iu.1 hp |>.2.2.2 a hla b hlb).2.1,fun q=>aw (Kf _ hg up hu hl a b _) ?_⟩;simp(maxDischargeDepth:=12) (maxSteps:=1000000) -implicitDefEqProofs only[go_sem,Nat.reduceAdd,Nat.reduceSub,Nat.reduceMul,Nat.reduceLeDiff,Nat.reduceEqDiff,Nat.reduceGT,Nat.reduceBEq,reduceCtorEq,↓reduceIte,Int.reduceToNat,Int.reduceLE,Int.reduceLT,Int.reduceNe,Int.reduceEq];refine⟨fun q2 hp=>(lM hl).1 q2 (iu.1 hp |>.2.2.2 a hla b hlb).2.2,fun q2=>⟨hlb,fun b' hb'=>?_,aI (by omega)⟩⟩;by_cases e:b'=b
      ·subst e;exact⟨fun h=>(by rw[p1]at h;cases h.1),Wy.1 fun g=>q ((lD hl hla (by omega)).2 g),Wy.1 fun g=>q2 ((lM hl).2 g)⟩
      ·exact hB b' (by omega)
    ·have e:b=a:=by omega
     subst e;refine⟨hla,fun a' ha'=>?_,aI (by omega)⟩;by_cases e:a'=b
     ·subst e;exact hB
     ·exact hA a' (by omega)
  ·have e:a=up.length:=by omega
   subst e;exact iu.2 ⟨by omega,hl,hcl,hA⟩
end Go.Proofs.YtoepfmhnapedoaaGreatDoor
namespace Grs
structure G where
 a:Int
 f:Int
 t:Int
 deriving DecidableEq
def vD(x y:G):Bool:=decide (x.a<y.a∨(x.a=y.a∧(x.f<y.f∨(x.f=y.f∧x.t<y.t))))
theorem IY{x y:G}:vD x y=true↔(x.a<y.a∨(x.a=y.a∧(x.f<y.f∨(x.f=y.f∧x.t<y.t)))):=decide_eq_true_iff
theorem B0{x y z:G}(h1:vD x y=true)(h2:vD y z=true):vD x z=true:=by
 rw[IY]at *;omega
def Up(l:List G):Prop:=l.Pairwise fun x y=>vD x y=true
end Grs
namespace Go.Proofs.YtoepfmhnapedoaaGreatDoor
open Aml Go Lat Grs
@[go_sem] def gD (g:G):DV:= .agg [dI g.a,dI g.f,dI g.t]
@[go_sem] def iM (l:List G):DV:= .sl 3 false (l.map gD)
def ot(x y:Int):Int:=if x<y then -1 else if y<x then 1 else 0
def Fy(x y:G):Int:=if vD x y then -1 else if vD y x then 1 else 0
theorem Fg{x y:G}:Fy x y<0↔vD x y=true:=by
 unfold Fy;cases h:vD x y <;>cases h2:vD y x <;>simp
theorem Jl(x y:G):Fy x y=if ot x.a y.a≠0 then ot x.a y.a else if ot x.f y.f≠0 then ot x.f y.f else ot x.t y.t:=by
 unfold Fy ot vD;simp only[decide_eq_true_eq];split <;>(repeat' split) <;>first|rfl|omega
theorem isNaN(w0:W0)(x:Int)(S:St):aa Tryz.prog w0 197 [dI x] S (fun d S'=>d=dB false∧S'=S):=by
 refine cc [] mx Tryz.func197 rfl rfl (by kernel_rfl) ?_;simp(maxDischargeDepth:=12) (maxSteps:=1000000) -implicitDefEqProofs only[Tryz.ntmps197,go_sem,Nat.reduceAdd,Nat.reduceSub,Nat.reduceMul,Nat.reduceLeDiff,Nat.reduceEqDiff,Nat.reduceGT,Nat.reduceBEq,reduceCtorEq,↓reduceIte,Int.reduceToNat,Int.reduceLE,Int.reduceLT,Int.reduceNe,Int.reduceEq]
theorem lO(w0:W0)(x y:Int)(S:St):aa Tryz.prog w0 178 [dI x,dI y] S (fun d S'=>d=dI (ot x y)∧S'=S):=by
 refine cc [] mx Tryz.func178 rfl rfl (by kernel_rfl) ?_;simp(maxDischargeDepth:=12) (maxSteps:=1000000) -implicitDefEqProofs only[Tryz.ntmps178,go_sem,Nat.reduceAdd,Nat.reduceSub,Nat.reduceMul,Nat.reduceLeDiff,Nat.reduceEqDiff,Nat.reduceGT,Nat.reduceBEq,reduceCtorEq,↓reduceIte,Int.reduceToNat,Int.reduceLE,Int.reduceLT,Int.reduceNe,Int.reduceEq];refine aw (isNaN _ x _) ?_;simp(maxDischargeDepth:=12) (maxSteps:=1000000) -implicitDefEqProofs only[go_sem,Nat.reduceAdd,Nat.reduceSub,Nat.reduceMul,Nat.reduceLeDiff,Nat.reduceEqDiff,Nat.reduceGT,Nat.reduceBEq,reduceCtorEq,↓reduceIte,Int.reduceToNat,Int.reduceLE,Int.reduceLT,Int.reduceNe,Int.reduceEq];refine aw (isNaN _ y _) ?_;simp(maxDischargeDepth:=12) (maxSteps:=1000000) -implicitDefEqProofs only[go_sem,Nat.reduceAdd,Nat.reduceSub,Nat.reduceMul,Nat.reduceLeDiff,Nat.reduceEqDiff,Nat.reduceGT,Nat.reduceBEq,reduceCtorEq,↓reduceIte,Int.reduceToNat,Int.reduceLE,Int.reduceLT,Int.reduceNe,Int.reduceEq];unfold ot;refine⟨fun h=>?_,fun h=>⟨fun h2=>?_,fun h2=>?_⟩⟩
 ·rw[if_pos h]
 ·rw[if_neg (by omega),if_pos (by omega)]
 ·rw[if_neg (by omega),if_neg (by omega)]
theorem UU(w0:W0)(x y z:Int)(S:St):aa Tryz.prog w0 177 [.sl 1 false [dI x,dI y,dI z]] S (fun d S'=>d=dI (if x≠0 then x else if y≠0 then y else z)∧S'=S):=by
 refine cc [] mx Tryz.func177 rfl rfl (by kernel_rfl) ?_;simp(maxDischargeDepth:=12) (maxSteps:=1000000) -implicitDefEqProofs only[Tryz.ntmps177,go_sem,Nat.reduceAdd,Nat.reduceSub,Nat.reduceMul,Nat.reduceLeDiff,Nat.reduceEqDiff,Nat.reduceGT,Nat.reduceBEq,reduceCtorEq,↓reduceIte,Int.reduceToNat,Int.reduceLE,Int.reduceLT,Int.reduceNe,Int.reduceEq];refine aY [] 3 [3,6,7,8] (fun a=>[(8,dI a)]) (fun _=>S) (fun a=>(1≤a→x=0)∧(2≤a→y=0)∧(3≤a→z=0)) mx (by kernel_rfl) ?_ ?_
 ·simp(maxDischargeDepth:=12) (maxSteps:=1000000) -implicitDefEqProofs only[go_sem,Nat.reduceAdd,Nat.reduceSub,Nat.reduceMul,Nat.reduceLeDiff,Nat.reduceEqDiff,Nat.reduceGT,Nat.reduceBEq,reduceCtorEq,↓reduceIte,Int.reduceToNat,Int.reduceLE,Int.reduceLT,Int.reduceNe,Int.reduceEq]
 ·intro a ha hA;obtain rfl|rfl|rfl|rfl:a=0∨a=1∨a=2∨a=3:=by omega
  ·simp(maxDischargeDepth:=12) (maxSteps:=1000000) -implicitDefEqProofs only[go_sem,Nat.reduceAdd,Nat.reduceSub,Nat.reduceMul,Nat.reduceLeDiff,Nat.reduceEqDiff,Nat.reduceGT,Nat.reduceBEq,reduceCtorEq,↓reduceIte,Int.reduceToNat,Int.reduceLE,Int.reduceLT,Int.reduceNe,Int.reduceEq];refine⟨fun h=>by rw[if_pos h],fun h=>⟨Wy.1 h,by rfl⟩⟩
  ·simp(maxDischargeDepth:=12) (maxSteps:=1000000) -implicitDefEqProofs only[go_sem,Nat.reduceAdd,Nat.reduceSub,Nat.reduceMul,Nat.reduceLeDiff,Nat.reduceEqDiff,Nat.reduceGT,Nat.reduceBEq,reduceCtorEq,↓reduceIte,Int.reduceToNat,Int.reduceLE,Int.reduceLT,Int.reduceNe,Int.reduceEq];have h0:=hA.1 (by omega);refine⟨fun h=>by rw[if_neg (by omega),if_pos h],fun h=>⟨⟨h0,Wy.1 h⟩,by rfl⟩⟩
  ·simp(maxDischargeDepth:=12) (maxSteps:=1000000) -implicitDefEqProofs only[go_sem,Nat.reduceAdd,Nat.reduceSub,Nat.reduceMul,Nat.reduceLeDiff,Nat.reduceEqDiff,Nat.reduceGT,Nat.reduceBEq,reduceCtorEq,↓reduceIte,Int.reduceToNat,Int.reduceLE,Int.reduceLT,Int.reduceNe,Int.reduceEq];have h0:=hA.1 (by omega);have h1:=hA.2.1 (by omega);refine⟨fun h=>by rw[if_neg (by omega),if_neg (by omega)],fun h=>⟨⟨h0,h1,Wy.1 h⟩,by rfl⟩⟩
  ·simp(maxDischargeDepth:=12) (maxSteps:=1000000) -implicitDefEqProofs only[go_sem,Nat.reduceAdd,Nat.reduceSub,Nat.reduceMul,Nat.reduceLeDiff,Nat.reduceEqDiff,Nat.reduceGT,Nat.reduceBEq,reduceCtorEq,↓reduceIte,Int.reduceToNat,Int.reduceLE,Int.reduceLT,Int.reduceNe,Int.reduceEq];have h0:=hA.1 (by omega);have h1:=hA.2.1 (by omega);have h2:=hA.2.2 (by omega);rw[if_neg (by omega),if_neg (by omega),h2]
theorem FY(w0:W0)(x y:G)(S:St):aa Tryz.prog w0 149 [gD x,gD y] S (fun d S'=>d=dI (Fy x y)∧S'=S):=by
 refine cc [] mx Tryz.func149 rfl rfl (by kernel_rfl) ?_;simp(maxDischargeDepth:=12) (maxSteps:=1000000) -implicitDefEqProofs only[Tryz.ntmps149,go_sem,Nat.reduceAdd,Nat.reduceSub,Nat.reduceMul,Nat.reduceLeDiff,Nat.reduceEqDiff,Nat.reduceGT,Nat.reduceBEq,reduceCtorEq,↓reduceIte,Int.reduceToNat,Int.reduceLE,Int.reduceLT,Int.reduceNe,Int.reduceEq];intro b2 b3;refine dn (lO _ x.a y.a _) ?_;simp(maxDischargeDepth:=12) (maxSteps:=1000000) -implicitDefEqProofs only[go_sem,Nat.reduceAdd,Nat.reduceSub,Nat.reduceMul,Nat.reduceLeDiff,Nat.reduceEqDiff,Nat.reduceGT,Nat.reduceBEq,reduceCtorEq,↓reduceIte,Int.reduceToNat,Int.reduceLE,Int.reduceLT,Int.reduceNe,Int.reduceEq];refine dn (lO _ x.f y.f _) ?_;simp(maxDischargeDepth:=12) (maxSteps:=1000000) -implicitDefEqProofs only[go_sem,Nat.reduceAdd,Nat.reduceSub,Nat.reduceMul,Nat.reduceLeDiff,Nat.reduceEqDiff,Nat.reduceGT,Nat.reduceBEq,reduceCtorEq,↓reduceIte,Int.reduceToNat,Int.reduceLE,Int.reduceLT,Int.reduceNe,Int.reduceEq];refine dn (lO _ x.t y.t _) ?_;simp(maxDischargeDepth:=12) (maxSteps:=1000000) -implicitDefEqProofs only[go_sem,Nat.reduceAdd,Nat.reduceSub,Nat.reduceMul,Nat.reduceLeDiff,Nat.reduceEqDiff,Nat.reduceGT,Nat.reduceBEq,reduceCtorEq,↓reduceIte,Int.reduceToNat,Int.reduceLE,Int.reduceLT,Int.reduceNe,Int.reduceEq];refine dn (UU _ _ _ _ _) ?_ ⟨.full _ _ _,trivial⟩;simp(maxDischargeDepth:=12) (maxSteps:=1000000) -implicitDefEqProofs only[go_sem,Nat.reduceAdd,Nat.reduceSub,Nat.reduceMul,Nat.reduceLeDiff,Nat.reduceEqDiff,Nat.reduceGT,Nat.reduceBEq,reduceCtorEq,↓reduceIte,Int.reduceToNat,Int.reduceLE,Int.reduceLT,Int.reduceNe,Int.reduceEq];rw[Jl]
theorem Pr(w0:W0)(x y:G)(S:St):aa Tryz.prog w0 114 [gD x,gD y] S (fun d S'=>d=dB (vD x y)∧S'=S):=by
 refine cc [] mx Tryz.func114 rfl rfl (by kernel_rfl) ?_;simp(maxDischargeDepth:=12) (maxSteps:=1000000) -implicitDefEqProofs only[Tryz.ntmps114,go_sem,Nat.reduceAdd,Nat.reduceSub,Nat.reduceMul,Nat.reduceLeDiff,Nat.reduceEqDiff,Nat.reduceGT,Nat.reduceBEq,reduceCtorEq,↓reduceIte,Int.reduceToNat,Int.reduceLE,Int.reduceLT,Int.reduceNe,Int.reduceEq];intro b2 b3;refine aw (FY _ x y _) ?_;simp(maxDischargeDepth:=12) (maxSteps:=1000000) -implicitDefEqProofs only[go_sem,Nat.reduceAdd,Nat.reduceSub,Nat.reduceMul,Nat.reduceLeDiff,Nat.reduceEqDiff,Nat.reduceGT,Nat.reduceBEq,reduceCtorEq,↓reduceIte,Int.reduceToNat,Int.reduceLE,Int.reduceLT,Int.reduceNe,Int.reduceEq];exact Bool.eq_iff_iff.2 (decide_eq_true_iff.trans Fg)
theorem Pz(w0:W0)(x y:G)(S:St):aa Tryz.prog w0 104 [gD x,gD y] S (fun d S'=>d=dB (vD x y)∧S'=S):=by
 refine cc [] mx Tryz.func104 rfl rfl (by kernel_rfl) ?_;simp(maxDischargeDepth:=12) (maxSteps:=1000000) -implicitDefEqProofs only[Tryz.ntmps104,go_sem,Nat.reduceAdd,Nat.reduceSub,Nat.reduceMul,Nat.reduceLeDiff,Nat.reduceEqDiff,Nat.reduceGT,Nat.reduceBEq,reduceCtorEq,↓reduceIte,Int.reduceToNat,Int.reduceLE,Int.reduceLT,Int.reduceNe,Int.reduceEq];intro b2 b3;unfold vD;refine⟨fun h=>decide_eq_decide.2 (by omega),fun h=>⟨fun h2=>decide_eq_decide.2 (by omega),fun h2=>decide_eq_decide.2 (by omega)⟩⟩
def wI(up:List Nat)(g:G):Bool:=jf up g.f g.a&&jf up g.t g.a&&!jf up g.f g.t
theorem Ro(w0:W0)(up:List Nat)(hu:df up)(g:G)(S:St):aa Tryz.prog w0 113 [dP up,gD g] S (fun d S'=>d=dB (wI up g)∧S'=S):=by
 refine cc [] mx Tryz.func113 rfl rfl (by kernel_rfl) ?_;simp(maxDischargeDepth:=12) (maxSteps:=1000000) -implicitDefEqProofs only[Tryz.ntmps113,go_sem,Nat.reduceAdd,Nat.reduceSub,Nat.reduceMul,Nat.reduceLeDiff,Nat.reduceEqDiff,Nat.reduceGT,Nat.reduceBEq,reduceCtorEq,↓reduceIte,Int.reduceToNat,Int.reduceLE,Int.reduceLT,Int.reduceNe,Int.reduceEq];intro b;unfold wI;refine aw (s9 _ up hu g.f g.a _) ?_;simp(maxDischargeDepth:=12) (maxSteps:=1000000) -implicitDefEqProofs only[go_sem,Nat.reduceAdd,Nat.reduceSub,Nat.reduceMul,Nat.reduceLeDiff,Nat.reduceEqDiff,Nat.reduceGT,Nat.reduceBEq,reduceCtorEq,↓reduceIte,Int.reduceToNat,Int.reduceLE,Int.reduceLT,Int.reduceNe,Int.reduceEq];refine⟨fun h=>aw (s9 _ up hu g.t g.a _) ?_,fun h=>by rw[h];rfl⟩;simp(maxDischargeDepth:=12) (maxSteps:=1000000) -implicitDefEqProofs only[go_sem,Nat.reduceAdd,Nat.reduceSub,Nat.reduceMul,Nat.reduceLeDiff,Nat.reduceEqDiff,Nat.reduceGT,Nat.reduceBEq,reduceCtorEq,↓reduceIte,Int.reduceToNat,Int.reduceLE,Int.reduceLT,Int.reduceNe,Int.reduceEq];refine⟨fun h2=>aw (s9 _ up hu g.f g.t _) ?_,fun h2=>by rw[h,h2];rfl⟩;simp(maxDischargeDepth:=12) (maxSteps:=1000000) -implicitDefEqProofs only[go_sem,Nat.reduceAdd,Nat.reduceSub,Nat.reduceMul,Nat.reduceLeDiff,Nat.reduceEqDiff,Nat.reduceGT,Nat.reduceBEq,reduceCtorEq,↓reduceIte,Int.reduceToNat,Int.reduceLE,Int.reduceLT,Int.reduceNe,Int.reduceEq];rw[h,h2];rfl
theorem RB(w0:W0)(up:List Nat)(hu:df up)(g:G)(S:St):aa Tryz.prog w0 103 [dP up,gD g] S (fun d S'=>d=dB (wI up g)∧S'=S):=by
 refine cc [] mx Tryz.func103 rfl rfl (by kernel_rfl) ?_;simp(maxDischargeDepth:=12) (maxSteps:=1000000) -implicitDefEqProofs only[Tryz.ntmps103,go_sem,Nat.reduceAdd,Nat.reduceSub,Nat.reduceMul,Nat.reduceLeDiff,Nat.reduceEqDiff,Nat.reduceGT,Nat.reduceBEq,reduceCtorEq,↓reduceIte,Int.reduceToNat,Int.reduceLE,Int.reduceLT,Int.reduceNe,Int.reduceEq];intro b;unfold wI;refine aw (se _ up hu g.f g.a _) ?_;simp(maxDischargeDepth:=12) (maxSteps:=1000000) -implicitDefEqProofs only[go_sem,Nat.reduceAdd,Nat.reduceSub,Nat.reduceMul,Nat.reduceLeDiff,Nat.reduceEqDiff,Nat.reduceGT,Nat.reduceBEq,reduceCtorEq,↓reduceIte,Int.reduceToNat,Int.reduceLE,Int.reduceLT,Int.reduceNe,Int.reduceEq];refine⟨fun h=>aw (se _ up hu g.t g.a _) ?_,fun h=>by rw[h];rfl⟩;simp(maxDischargeDepth:=12) (maxSteps:=1000000) -implicitDefEqProofs only[go_sem,Nat.reduceAdd,Nat.reduceSub,Nat.reduceMul,Nat.reduceLeDiff,Nat.reduceEqDiff,Nat.reduceGT,Nat.reduceBEq,reduceCtorEq,↓reduceIte,Int.reduceToNat,Int.reduceLE,Int.reduceLT,Int.reduceNe,Int.reduceEq];refine⟨fun h2=>aw (se _ up hu g.f g.t _) ?_,fun h2=>by rw[h,h2];rfl⟩;simp(maxDischargeDepth:=12) (maxSteps:=1000000) -implicitDefEqProofs only[go_sem,Nat.reduceAdd,Nat.reduceSub,Nat.reduceMul,Nat.reduceLeDiff,Nat.reduceEqDiff,Nat.reduceGT,Nat.reduceBEq,reduceCtorEq,↓reduceIte,Int.reduceToNat,Int.reduceLE,Int.reduceLT,Int.reduceNe,Int.reduceEq];rw[h,h2];rfl
def IU(up:List Nat)(l:List G):Prop:=l.length≤64∧(∀g,g∈l→wI up g=true)∧Up l
def NJ(up:List Nat)(l:List G)(k:Nat):Prop:=∀i,i<k→(∀g,l[i]? =some g→wI up g=true)∧(∀x y,0<i→l[i-1]? =some x→l[i]? =some y→vD x y=true)
theorem Nz{l:List G}:Up l↔∀i,(h:i+1<l.length)→vD (l[i]'(by omega)) l[i+1]=true:=by
 unfold Up;rw[Xx];constructor
 ·intro h i hi;exact h i (i+1) (by omega) hi (by omega)
 ·intro h i j hi hj hij
  induction j with
  |zero=>omega
  |succ j ih=>
   by_cases e:i=j
   ·subst e;exact h i hj
   ·exact B0 (ih (by omega) (by omega)) (h j hj)
theorem nV{up:List Nat}{l:List G}:IU up l↔l.length≤64∧NJ up l l.length:=by
 unfold IU NJ;rw[Nz];constructor
 ·rintro⟨h1,h2,h3⟩;refine⟨h1,fun i hi=>⟨fun g hg=>h2 g (Wc hg),fun x y h0 hx hy=>?_⟩⟩;have:=h3 (i-1) (by omega);obtain⟨q1,e1⟩:=Wd.1 hx;obtain⟨q2,e2⟩:=Wd.1 hy;simp only[show i-1+1=i from by omega]at this;rw[e1,e2]at this;exact this
 ·rintro⟨h1,h2⟩;refine⟨h1,fun g hg=>?_,fun i hi=>?_⟩
  ·obtain⟨i,hi,e⟩:=Yd.1 hg;exact(h2 i hi).1 g (by rw[Wb hi,e])
  ·exact(h2 (i+1) hi).2 _ _ (by omega) (by rw[Nat.add_sub_cancel];exact Wb (by omega)) (Wb hi)
theorem lg{up:List Nat}{l:List G}{a:Nat}(h:NJ up l a)(h1:∀g,l[a]? =some g→wI up g=true)(h2:∀x y,0<a→l[a-1]? =some x→l[a]? =some y→vD x y=true):NJ up l (a+1):=fun i hi=>by
 by_cases e:i=a
 ·subst e;exact⟨h1,h2⟩
 ·exact h i (by omega)
theorem TZ(w0:W0)(up:List Nat)(hu:df up)(l:List G)(h0:l.length≤4611686018427387904)(S:St):aa Tryz.prog w0 62 [dP up,iM l] S (fun d S'=>d=dB (pB (IU up l))∧S'=S):=by
 refine cc [] mx Tryz.func62 rfl rfl (by kernel_rfl) ?_;simp(maxDischargeDepth:=12) (maxSteps:=1000000) -implicitDefEqProofs only[Tryz.ntmps62,go_sem,Nat.reduceAdd,Nat.reduceSub,Nat.reduceMul,Nat.reduceLeDiff,Nat.reduceEqDiff,Nat.reduceGT,Nat.reduceBEq,reduceCtorEq,↓reduceIte,Int.reduceToNat,Int.reduceLE,Int.reduceLT,Int.reduceNe,Int.reduceEq];refine aY [] l.length [0,1,7,8,9] (fun a=>[(9,dI a)]) (fun _=>S) (fun a=>NJ up l a) mx (by kernel_rfl) ?_ ?_
 ·simp(maxDischargeDepth:=12) (maxSteps:=1000000) -implicitDefEqProofs only[go_sem,Nat.reduceAdd,Nat.reduceSub,Nat.reduceMul,Nat.reduceLeDiff,Nat.reduceEqDiff,Nat.reduceGT,Nat.reduceBEq,reduceCtorEq,↓reduceIte,Int.reduceToNat,Int.reduceLE,Int.reduceLT,Int.reduceNe,Int.reduceEq];intro a ha;omega
 ·intro a ha hA;simp(maxDischargeDepth:=12) (maxSteps:=1000000) -implicitDefEqProofs only[go_sem,Nat.reduceAdd,Nat.reduceSub,Nat.reduceMul,Nat.reduceLeDiff,Nat.reduceEqDiff,Nat.reduceGT,Nat.reduceBEq,reduceCtorEq,↓reduceIte,Int.reduceToNat,Int.reduceLE,Int.reduceLT,Int.reduceNe,Int.reduceEq];refine⟨fun hla=>⟨hla,fun g hg b=>dn (Ro _ up hu g _) ?_⟩,fun hge=>?_⟩
  ·simp(maxDischargeDepth:=12) (maxSteps:=1000000) -implicitDefEqProofs only[go_sem,Nat.reduceAdd,Nat.reduceSub,Nat.reduceMul,Nat.reduceLeDiff,Nat.reduceEqDiff,Nat.reduceGT,Nat.reduceBEq,reduceCtorEq,↓reduceIte,Int.reduceToNat,Int.reduceLE,Int.reduceLT,Int.reduceNe,Int.reduceEq];refine⟨fun q hp=>?_,fun q=>?_⟩
   ·have:=hp.2.1 g (Wc hg);rw[q]at this;cases this
   ·refine⟨fun h0a=>?_,fun h0a=>⟨hla,lg hA (fun g' hg'=>by rw[hg]at hg';cases hg';exact q) (fun x y h=>by omega),aI (by omega)⟩⟩;rw[pN (show -9223372036854775808≤(a:Int)-1 by omega) (by omega)];refine⟨by omega,by omega,fun x hx=>?_⟩;rw[show((a:Int)-1).toNat=a-1 from by omega]at hx;refine dn (Pr _ x g _) ?_;simp(maxDischargeDepth:=12) (maxSteps:=1000000) -implicitDefEqProofs only[go_sem,Nat.reduceAdd,Nat.reduceSub,Nat.reduceMul,Nat.reduceLeDiff,Nat.reduceEqDiff,Nat.reduceGT,Nat.reduceBEq,reduceCtorEq,↓reduceIte,Int.reduceToNat,Int.reduceLE,Int.reduceLT,Int.reduceNe,Int.reduceEq];refine⟨fun q2=>⟨hla,lg hA (fun g' hg'=>by rw[hg]at hg';cases hg';exact q) (fun x' y' _ hx' hy'=>by rw[hx]at hx';rw[hg]at hy';cases hx';cases hy';exact q2),aI (by omega)⟩,fun q2 hp=>?_⟩;have:=((nV.1 hp).2 a hla).2 x g (by omega) hx hg;rw[q2]at this;cases this
  ·have e:a=l.length:=by omega
   subst e;rw[nV];exact⟨fun h=>⟨by omega,hA⟩,fun h=>by omega⟩
theorem Uo(w0:W0)(up:List Nat)(hu:df up)(l:List G)(h0:l.length≤4611686018427387904)(S:St):aa Tryz.prog w0 56 [dP up,iM l] S (fun d S'=>d=dB (pB (IU up l))∧S'=S):=by
 refine cc [] mx Tryz.func56 rfl rfl (by kernel_rfl) ?_;simp(maxDischargeDepth:=12) (maxSteps:=1000000) -implicitDefEqProofs only[Tryz.ntmps56,go_sem,Nat.reduceAdd,Nat.reduceSub,Nat.reduceMul,Nat.reduceLeDiff,Nat.reduceEqDiff,Nat.reduceGT,Nat.reduceBEq,reduceCtorEq,↓reduceIte,Int.reduceToNat,Int.reduceLE,Int.reduceLT,Int.reduceNe,Int.reduceEq];refine⟨fun h hp=>by have:=hp.1;omega,fun hl=>?_⟩;refine aY [] l.length [0,1,5] (fun a=>[(5,dI a)]) (fun _=>S) (fun a=>NJ up l a) mx (by kernel_rfl) ?_ ?_
 ·simp(maxDischargeDepth:=12) (maxSteps:=1000000) -implicitDefEqProofs only[go_sem,Nat.reduceAdd,Nat.reduceSub,Nat.reduceMul,Nat.reduceLeDiff,Nat.reduceEqDiff,Nat.reduceGT,Nat.reduceBEq,reduceCtorEq,↓reduceIte,Int.reduceToNat,Int.reduceLE,Int.reduceLT,Int.reduceNe,Int.reduceEq];intro a ha;omega
 ·intro a ha hA;simp(maxDischargeDepth:=12) (maxSteps:=1000000) -implicitDefEqProofs only[go_sem,Nat.reduceAdd,Nat.reduceSub,Nat.reduceMul,Nat.reduceLeDiff,Nat.reduceEqDiff,Nat.reduceGT,Nat.reduceBEq,reduceCtorEq,↓reduceIte,Int.reduceToNat,Int.reduceLE,Int.reduceLT,Int.reduceNe,Int.reduceEq];refine⟨fun hla=>⟨hla,fun g hg=>aw (RB _ up hu g _) ?_⟩,fun hge=>?_⟩
  ·simp(maxDischargeDepth:=12) (maxSteps:=1000000) -implicitDefEqProofs only[go_sem,Nat.reduceAdd,Nat.reduceSub,Nat.reduceMul,Nat.reduceLeDiff,Nat.reduceEqDiff,Nat.reduceGT,Nat.reduceBEq,reduceCtorEq,↓reduceIte,Int.reduceToNat,Int.reduceLE,Int.reduceLT,Int.reduceNe,Int.reduceEq];refine⟨fun q hp=>?_,fun q=>?_⟩
   ·have:=hp.2.1 g (Wc hg);rw[q]at this;cases this
   ·refine⟨fun h0a=>?_,fun h0a=>⟨hla,lg hA (fun g' hg'=>by rw[hg]at hg';cases hg';exact q) (fun x y h=>by omega),aI (by omega)⟩⟩;rw[pN (show -9223372036854775808≤(a:Int)-1 by omega) (by omega)];refine⟨by omega,by omega,fun x hx=>?_⟩;rw[show((a:Int)-1).toNat=a-1 from by omega]at hx;refine⟨hla,fun y hy=>?_⟩;rw[hg]at hy;cases hy;refine dn (Pz _ x g _) ?_;simp(maxDischargeDepth:=12) (maxSteps:=1000000) -implicitDefEqProofs only[go_sem,Nat.reduceAdd,Nat.reduceSub,Nat.reduceMul,Nat.reduceLeDiff,Nat.reduceEqDiff,Nat.reduceGT,Nat.reduceBEq,reduceCtorEq,↓reduceIte,Int.reduceToNat,Int.reduceLE,Int.reduceLT,Int.reduceNe,Int.reduceEq];refine⟨fun q2=>⟨hla,lg hA (fun g' hg'=>by rw[hg]at hg';cases hg';exact q) (fun x' y' _ hx' hy'=>by rw[hx]at hx';rw[hg]at hy';cases hx';cases hy';exact q2),aI (by omega)⟩,fun q2 hp=>?_⟩;have:=((nV.1 hp).2 a hla).2 x g (by omega) hx hg;rw[q2]at this;cases this
  ·have e:a=l.length:=by omega
   subst e;exact nV.2 ⟨by omega,hA⟩
end Go.Proofs.YtoepfmhnapedoaaGreatDoor
namespace Go.Proofs.YtoepfmhnapedoaaGreatDoor
open Aml Go Lat Grs Rn
def o0(c:Nat):Bool:=decide ((97≤c∧c≤122)∨(65≤c∧c≤90)∨128≤c)
theorem Ic(w0:W0)(c:Nat)(S:St):aa Tryz.prog w0 115 [.v (.int .i32 (c:Int))] S (fun d S'=>d=dB (o0 c)∧S'=S):=by
 refine cc [] mx Tryz.func115 rfl rfl (by kernel_rfl) ?_;simp(maxDischargeDepth:=12) (maxSteps:=1000000) -implicitDefEqProofs only[Tryz.ntmps115,go_sem,Nat.reduceAdd,Nat.reduceSub,Nat.reduceMul,Nat.reduceLeDiff,Nat.reduceEqDiff,Nat.reduceGT,Nat.reduceBEq,reduceCtorEq,↓reduceIte,Int.reduceToNat,Int.reduceLE,Int.reduceLT,Int.reduceNe,Int.reduceEq];unfold o0
 (repeat' first|refine⟨?_,?_⟩|intro _) <;>first|exact(decide_eq_true (by omega)).symm|exact decide_eq_decide.2 (by omega)
theorem I3(w0:W0)(c:Nat)(S:St):aa Tryz.prog w0 105 [.v (.int .i32 (c:Int))] S (fun d S'=>d=dB (o0 c)∧S'=S):=by
 refine cc [] mx Tryz.func105 rfl rfl (by kernel_rfl) ?_;simp(maxDischargeDepth:=12) (maxSteps:=1000000) -implicitDefEqProofs only[Tryz.ntmps105,go_sem,Nat.reduceAdd,Nat.reduceSub,Nat.reduceMul,Nat.reduceLeDiff,Nat.reduceEqDiff,Nat.reduceGT,Nat.reduceBEq,reduceCtorEq,↓reduceIte,Int.reduceToNat,Int.reduceLE,Int.reduceLT,Int.reduceNe,Int.reduceEq];unfold o0
 (repeat' first|refine⟨?_,?_⟩|intro _) <;>first|exact(decide_eq_true (by omega)).symm|exact decide_eq_decide.2 (by omega)
structure fS(l:List UInt8):Prop where
 Lt:∀r,r∈bg l→o0 r.1=true
 whole:whole l
 pos:1≤(bg l).length
 le:(bg l).length≤12
theorem uK(l:List UInt8):Lib.validD l=true↔whole l:=by
 induction l using oY with
 |h0=>exact⟨fun _ r hr=>(by cases hr),fun _=>rfl⟩
 |h1 l hne ih=>
  rw[Lib.validD_step l hne,oy hne,←ih];by_cases h:(Lib.decodeL l).1=65533∧(Lib.decodeL l).2=1
  ·rw[if_pos h];exact⟨fun q=>(by cases q),fun q=>absurd h q.1⟩
  ·rw[if_neg h];exact⟨fun q=>⟨h,q⟩,fun q=>q.2⟩
def rl(c:Nat):Nat:=if c<128 then 1 else if c<2048 then 2 else if c<65536 then 3 else 4
def GI(l:List (Nat×List UInt8)):Nat:=(l.map fun r=>rl r.1).sum
theorem OJ(l:List UInt8)(hne:l≠[]):(dl l).2≤rl (dl l).1∧((dl l).2=rl (dl l).1↔tE (dl l)):=by
 have k0:=(l.getD 0 0).toNat_lt;unfold dl;rw[Lib.decodeL_N];unfold tE rl;rcases Lib.decodeN_shape l.length (l.getD 0 0).toNat (l.getD 1 0).toNat (l.getD 2 0).toNat (l.getD 3 0).toNat with⟨c,e⟩|⟨c1,c2,c3,cv,e⟩|⟨c1,c2,c3,c4,cv,cs,e⟩|⟨c1,c2,c3,c4,c5,cv,cw,e⟩|e
 all_goals rw[e];dsimp only
 ·rw[if_pos c];omega
 ·rw[if_neg (by omega),if_pos (by omega)];omega
 ·rw[if_neg (by omega),if_neg (by omega),if_pos (by omega)];omega
 ·rw[if_neg (by omega),if_neg (by omega),if_neg (by omega)];omega
 ·decide
theorem zQ(l:List UInt8):l.length≤GI (bg l)∧(GI (bg l)=l.length↔whole l):=by
 induction l using oY with
 |h0=>exact⟨Wg _,⟨fun _ r hr=>(by cases hr),fun _=>rfl⟩⟩
 |h1 l hne ih=>
  have hle:=Lib.decodeL_le l hne;have h1:=OJ l hne;change (dl l).2≤l.length at hle;rw[fy hne,oy hne];unfold GI at ih ⊢;rw[WG,XF];rw[W6]at ih;rw[←ih.2,←h1.2];dsimp only;omega
theorem oL{L:List UInt8}{k:Nat}(h:k<L.length):bg (L.drop k)=((dl (L.drop k)).1,(L.drop k).take (dl (L.drop k)).2)::bg (L.drop (k+(dl (L.drop k)).2)):=by
 have hne:L.drop k≠[]:=by intro e;have:=congrArg List.length e;rw[W6]at this;simp at this;omega
 rw[fy hne,Xr]
theorem DX{L:List UInt8}{k:Nat}(h:k<L.length):1≤(dl (L.drop k)).2∧k+(dl (L.drop k)).2≤L.length:=by
 have hne:L.drop k≠[]:=by intro e;have:=congrArg List.length e;rw[W6]at this;simp at this;omega
 have h1:=pV (L.drop k);have h2:=Lib.decodeL_le _ hne;rw[W6]at h2;exact⟨h1,by unfold dl;omega⟩
theorem my{L:List UInt8}{k:Nat}(h:L.length≤k):bg (L.drop k)=[]:=by rw[List.drop_of_length_le h];rfl
theorem J6(c:Nat):rl c≤4:=by unfold rl;(repeat' split) <;>omega
theorem KW(l:List (Nat×List UInt8)):GI l≤4*l.length:=by
 induction l with
 |nil=>exact Wg _
 |cons r l ih=>
  have:=J6 r.1;unfold GI at ih ⊢;rw[WG,XF,Wq];omega
theorem Ly(w0:W0)(s:ByteArray)(hs:s.size≤1048576)(S:St):aa Tryz.prog w0 106 [dS s] S (fun d S'=>d=dB (pB (whole s.data.toList))∧S'=S):=by
 refine cc [] mx Tryz.func106 rfl rfl (by kernel_rfl) ?_;simp(maxDischargeDepth:=12) (maxSteps:=1000000) -implicitDefEqProofs only[Tryz.ntmps106,go_sem,Nat.reduceAdd,Nat.reduceSub,Nat.reduceMul,Nat.reduceLeDiff,Nat.reduceEqDiff,Nat.reduceGT,Nat.reduceBEq,reduceCtorEq,↓reduceIte,Int.reduceToNat,Int.reduceLE,Int.reduceLT,Int.reduceNe,Int.reduceEq];intro li;refine dK [] [0,3,7] (σ:=Nat×List (Nat×List UInt8)) (fun p=>[(3,dI (GI p.2))]) (fun p=>⟨S.box,(li.n,.xo (.si s p.1))::S.acc⟩) (fun p=>p.1≤s.size∧p.2++bg (s.data.toList.drop p.1)=bg s.data.toList) (fun p=>s.size-p.1) (0,[]) mx (by kernel_rfl) ⟨⟨W4 _,rfl⟩,?_⟩ fun p hp=>?_
 ·simp(maxDischargeDepth:=12) (maxSteps:=1000000) -implicitDefEqProofs only[go_sem,Nat.reduceAdd,Nat.reduceSub,Nat.reduceMul,Nat.reduceLeDiff,Nat.reduceEqDiff,Nat.reduceGT,Nat.reduceBEq,reduceCtorEq,↓reduceIte,Int.reduceToNat,Int.reduceLE,Int.reduceLT,Int.reduceNe,Int.reduceEq];exact .refl _
 ·obtain⟨k,pre⟩:=p;obtain⟨hk1,hpre⟩:=hp;dsimp only at hk1 hpre;simp(maxDischargeDepth:=12) (maxSteps:=1000000) -implicitDefEqProofs only[go_sem,Nat.reduceAdd,Nat.reduceSub,Nat.reduceMul,Nat.reduceLeDiff,Nat.reduceEqDiff,Nat.reduceGT,Nat.reduceBEq,reduceCtorEq,↓reduceIte,Int.reduceToNat,Int.reduceLE,Int.reduceLT,Int.reduceNe,Int.reduceEq];have hsz:=fp s;have hrl:=mD s.data.toList
  have hrp:pre.length≤s.size:=by
   have:=congrArg List.length hpre;rw[Wp]at this;omega
  have hr4:GI pre≤4*pre.length:=KW pre;rw[ov s k];refine⟨fun hk=>?_,fun hk=>?_⟩
  ·rw[my (by omega),Xw]at hpre;rw[hpre,←(zQ _).2];rfl
  ·have h1:=oL (L:=s.data.toList) (k:=k) (by omega);have h2:=DX (L:=s.data.toList) (k:=k) (by omega);generalize hD:dl (s.data.toList.drop k)=D at h1 h2;change Lib.decodeL _=D at hD;rw[hD];obtain⟨c,n⟩:=D;dsimp only at h1 h2 ⊢
   have go:∀m:Nat,m=rl c→∃s':Nat×List (Nat×List UInt8),
    (s'.fst≤s.size∧s'.snd++bg (List.drop s'.fst s.data.toList)=bg s.data.toList)∧
     s.size-s'.fst<s.size-k∧
      IntKind.i64.wrap ((GI pre:Int)+(m:Int))=(GI s'.snd:Int)∧
       Aml.Sub {box:=S.box,acc:=(li.n,Ob.xo (XO.si s s'.fst))::S.acc}
        {box:=S.box,acc:=(li.n,Ob.xo (XO.si s (k+n)))::S.acc}:=by
    rintro _ rfl;refine⟨(k+n,pre++[(c,(s.data.toList.drop k).take n)]),⟨by dsimp only;omega,?_⟩,by dsimp only;omega,?_,.refl _⟩
    ·dsimp only;rw[XS,List.singleton_append,←h1];exact hpre
    ·have hle:=J6 c;rw[pN (by omega) (by omega)];unfold GI;rw[WD,List.sum_append];simp
   unfold rl at go;refine⟨fun q=>?_,fun q=>⟨fun q2=>?_,fun q2=>⟨fun q3=>?_,fun q3=>?_⟩⟩⟩
   ·exact go 1 (by rw[if_pos (by omega)])
   ·exact go 2 (by rw[if_neg (by omega),if_pos (by omega)])
   ·exact go 3 (by rw[if_neg (by omega),if_neg (by omega),if_pos (by omega)])
   ·exact go 4 (by rw[if_neg (by omega),if_neg (by omega),if_neg (by omega)])
theorem vH{l:List UInt8}(h:∀r,r∈bg l→o0 r.1=true):fS l↔whole l∧1≤(bg l).length∧(bg l).length≤12:=⟨fun q=>⟨q.whole,q.pos,q.le⟩,fun q=>⟨h,q.1,q.2.1,q.2.2⟩⟩
theorem CB{l:List UInt8}(h:∀r,r∈bg l→o0 r.1=true):(Lib.validD l=true→
 (((bg l).length:Int)≥1→(((bg l).length:Int)≤12↔fS l))∧(¬((bg l).length:Int)≥1→¬fS l))∧
 (Lib.validD l=false→¬fS l):=by
 rw[vH h,←uK];refine⟨fun q=>⟨fun q2=>⟨fun q3=>⟨q,by omega,by omega⟩,fun q3=>by omega⟩,fun q2 q3=>by omega⟩,fun q q3=>by rw[q]at q3;cases q3.1⟩
theorem Py(w0:W0)(hk:KU w0)(s:ByteArray)(hs:s.size≤1048576)(S:St):aa Tryz.prog w0 63 [dS s] S (fun d S'=>d=dB (pB (fS s.data.toList))∧S'=S):=by
 refine cc [] mx Tryz.func63 rfl rfl (by kernel_rfl) ?_;simp(maxDischargeDepth:=12) (maxSteps:=1000000) -implicitDefEqProofs only[Tryz.ntmps63,go_sem,Nat.reduceAdd,Nat.reduceSub,Nat.reduceMul,Nat.reduceLeDiff,Nat.reduceEqDiff,Nat.reduceGT,Nat.reduceBEq,reduceCtorEq,↓reduceIte,Int.reduceToNat,Int.reduceLE,Int.reduceLT,Int.reduceNe,Int.reduceEq];intro li;refine dK [] [0,3,7] (σ:=Nat×List (Nat×List UInt8)) (fun p=>[(3,dI p.2.length)]) (fun p=>⟨S.box,(li.n,.xo (.si s p.1))::S.acc⟩) (fun p=>p.1≤s.size∧p.2++bg (s.data.toList.drop p.1)=bg s.data.toList∧∀r,r∈p.2→o0 r.1=true) (fun p=>s.size-p.1) (0,[]) mx (by kernel_rfl) ⟨⟨W4 _,rfl,fun r hr=>by cases hr⟩,?_⟩ fun p hp=>?_
 ·simp(maxDischargeDepth:=12) (maxSteps:=1000000) -implicitDefEqProofs only[go_sem,Nat.reduceAdd,Nat.reduceSub,Nat.reduceMul,Nat.reduceLeDiff,Nat.reduceEqDiff,Nat.reduceGT,Nat.reduceBEq,reduceCtorEq,↓reduceIte,Int.reduceToNat,Int.reduceLE,Int.reduceLT,Int.reduceNe,Int.reduceEq]
 ·obtain⟨k,pre⟩:=p;obtain⟨hk1,hpre,hlet⟩:=hp;dsimp only at hk1 hpre hlet;have hsz:=fp s;simp(maxDischargeDepth:=12) (maxSteps:=1000000) -implicitDefEqProofs only[go_sem,Nat.reduceAdd,Nat.reduceSub,Nat.reduceMul,Nat.reduceLeDiff,Nat.reduceEqDiff,Nat.reduceGT,Nat.reduceBEq,reduceCtorEq,↓reduceIte,Int.reduceToNat,Int.reduceLE,Int.reduceLT,Int.reduceNe,Int.reduceEq];rw[ov s k];have hrl:=mD s.data.toList
  have hrp:pre.length≤s.size:=by
   have:=congrArg List.length hpre;rw[Wp]at this;omega
  refine⟨fun hk'=>?_,fun hk'=>?_⟩
  ·rw[my (by omega),Xw]at hpre;rw[hpre]at hlet ⊢;refine aw (MS _ hk s hs _) ?_;simp(maxDischargeDepth:=12) (maxSteps:=1000000) -implicitDefEqProofs only[go_sem,Nat.reduceAdd,Nat.reduceSub,Nat.reduceMul,Nat.reduceLeDiff,Nat.reduceEqDiff,Nat.reduceGT,Nat.reduceBEq,reduceCtorEq,↓reduceIte,Int.reduceToNat,Int.reduceLE,Int.reduceLT,Int.reduceNe,Int.reduceEq];exact CB hlet
  ·have h1:=oL (L:=s.data.toList) (k:=k) (by omega);have h2:=DX (L:=s.data.toList) (k:=k) (by omega);generalize hD:dl (s.data.toList.drop k)=D at h1 h2;change Lib.decodeL _=D at hD;rw[hD];obtain⟨c,n⟩:=D;dsimp only at h1 h2 ⊢;refine aw (Ic _ c _) ?_;simp(maxDischargeDepth:=12) (maxSteps:=1000000) -implicitDefEqProofs only[go_sem,Nat.reduceAdd,Nat.reduceSub,Nat.reduceMul,Nat.reduceLeDiff,Nat.reduceEqDiff,Nat.reduceGT,Nat.reduceBEq,reduceCtorEq,↓reduceIte,Int.reduceToNat,Int.reduceLE,Int.reduceLT,Int.reduceNe,Int.reduceEq];refine⟨fun q=>⟨(k+n,pre++[(c,(s.data.toList.drop k).take n)]),⟨by dsimp only;omega,?_,?_⟩,by dsimp only;omega,?_,.refl _⟩,fun q hN=>?_⟩
   ·dsimp only;rw[XS,List.singleton_append,←h1];exact hpre
   ·intro r hr;rcases Wo.1 hr with hr|hr
    ·exact hlet r hr
    ·rw[Wl.1 hr];exact q
   ·rw[pN (by omega) (by omega)];simp
   ·have:=hN.Lt (c,(s.data.toList.drop k).take n) (by rw[←hpre,h1];simp);rw[q]at this;cases this
theorem A0{l:List UInt8}(h:∀r,r∈bg l→o0 r.1=true):(whole l→
 (((bg l).length:Int)≥1→(((bg l).length:Int)≤12↔fS l))∧(¬((bg l).length:Int)≥1→¬fS l))∧
 (¬whole l→¬fS l):=by
 rw[vH h];refine⟨fun q=>⟨fun q2=>⟨fun q3=>⟨q,by omega,by omega⟩,fun q3=>by omega⟩,fun q2 q3=>by omega⟩,fun q q3=>q q3.1⟩
theorem PF(w0:W0)(s:ByteArray)(hs:s.size≤1048576)(S:St):aa Tryz.prog w0 57 [dS s] S (fun d S'=>d=dB (pB (fS s.data.toList))∧S'=S):=by
 refine cc [] mx Tryz.func57 rfl rfl (by kernel_rfl) ?_;simp(maxDischargeDepth:=12) (maxSteps:=1000000) -implicitDefEqProofs only[Tryz.ntmps57,go_sem,Nat.reduceAdd,Nat.reduceSub,Nat.reduceMul,Nat.reduceLeDiff,Nat.reduceEqDiff,Nat.reduceGT,Nat.reduceBEq,reduceCtorEq,↓reduceIte,Int.reduceToNat,Int.reduceLE,Int.reduceLT,Int.reduceNe,Int.reduceEq];intro li;refine dK [] [0,3,8] (σ:=Nat×List (Nat×List UInt8)) (fun p=>[(3,dI p.2.length)]) (fun p=>⟨S.box,(li.n,.xo (.si s p.1))::S.acc⟩) (fun p=>p.1≤s.size∧p.2++bg (s.data.toList.drop p.1)=bg s.data.toList∧∀r,r∈p.2→o0 r.1=true) (fun p=>s.size-p.1) (0,[]) mx (by kernel_rfl) ⟨⟨W4 _,rfl,fun r hr=>by cases hr⟩,?_⟩ fun p hp=>?_
 ·simp(maxDischargeDepth:=12) (maxSteps:=1000000) -implicitDefEqProofs only[go_sem,Nat.reduceAdd,Nat.reduceSub,Nat.reduceMul,Nat.reduceLeDiff,Nat.reduceEqDiff,Nat.reduceGT,Nat.reduceBEq,reduceCtorEq,↓reduceIte,Int.reduceToNat,Int.reduceLE,Int.reduceLT,Int.reduceNe,Int.reduceEq]
 ·obtain⟨k,pre⟩:=p;obtain⟨hk1,hpre,hlet⟩:=hp;dsimp only at hk1 hpre hlet;have hsz:=fp s;simp(maxDischargeDepth:=12) (maxSteps:=1000000) -implicitDefEqProofs only[go_sem,Nat.reduceAdd,Nat.reduceSub,Nat.reduceMul,Nat.reduceLeDiff,Nat.reduceEqDiff,Nat.reduceGT,Nat.reduceBEq,reduceCtorEq,↓reduceIte,Int.reduceToNat,Int.reduceLE,Int.reduceLT,Int.reduceNe,Int.reduceEq];rw[ov s k];have hrl:=mD s.data.toList
  have hrp:pre.length≤s.size:=by
   have:=congrArg List.length hpre;rw[Wp]at this;omega
  refine⟨fun hk'=>?_,fun hk'=>?_⟩
  ·rw[my (by omega),Xw]at hpre;rw[hpre]at hlet ⊢;refine aw (Ly _ s hs _) ?_;simp(maxDischargeDepth:=12) (maxSteps:=1000000) -implicitDefEqProofs only[go_sem,Nat.reduceAdd,Nat.reduceSub,Nat.reduceMul,Nat.reduceLeDiff,Nat.reduceEqDiff,Nat.reduceGT,Nat.reduceBEq,reduceCtorEq,↓reduceIte,Int.reduceToNat,Int.reduceLE,Int.reduceLT,Int.reduceNe,Int.reduceEq];exact A0 hlet
  ·have h1:=oL (L:=s.data.toList) (k:=k) (by omega);have h2:=DX (L:=s.data.toList) (k:=k) (by omega);generalize hD:dl (s.data.toList.drop k)=D at h1 h2;change Lib.decodeL _=D at hD;rw[hD];obtain⟨c,n⟩:=D;dsimp only at h1 h2 ⊢;refine aw (I3 _ c _) ?_;simp(maxDischargeDepth:=12) (maxSteps:=1000000) -implicitDefEqProofs only[go_sem,Nat.reduceAdd,Nat.reduceSub,Nat.reduceMul,Nat.reduceLeDiff,Nat.reduceEqDiff,Nat.reduceGT,Nat.reduceBEq,reduceCtorEq,↓reduceIte,Int.reduceToNat,Int.reduceLE,Int.reduceLT,Int.reduceNe,Int.reduceEq];refine⟨fun q=>⟨(k+n,pre++[(c,(s.data.toList.drop k).take n)]),⟨by dsimp only;omega,?_,?_⟩,by dsimp only;omega,?_,.refl _⟩,fun q hN=>?_⟩
   ·dsimp only;rw[XS,List.singleton_append,←h1];exact hpre
   ·intro r hr;rcases Wo.1 hr with hr|hr
    ·exact hlet r hr
    ·rw[Wl.1 hr];exact q
   ·rw[pN (by omega) (by omega)];simp
   ·have:=hN.Lt (c,(s.data.toList.drop k).take n) (by rw[←hpre,h1];simp);rw[q]at this;cases this
attribute [go_sem] dF
def kj(l:List (List UInt8))(s:List UInt8):Int:=if s∈l then((l.idxOf s:Nat):Int)else -1
theorem qJ{l:List (List UInt8)}{s:List UInt8}:kj l s<0↔s∉l:=by
 unfold kj;split <;>simp_all <;>omega
theorem yP{l:List (List UInt8)}{s:List UInt8}{k:Nat}(h0:s∉l.take k)(h:l[k]? =some s):kj l s=(k:Int):=by
 unfold kj;obtain⟨hk,e⟩:=Wd.1 h;rw[if_pos (Wc h)];have h1:l=l.take k++s::l.drop (k+1):=by rw[←e,←List.drop_eq_getElem_cons hk,X5]
 have:l.idxOf s=k:=by
  rw[h1,List.idxOf_append,if_neg h0,List.idxOf_cons_self,W5];omega
 rw[this]
theorem uj{l:List (List UInt8)}{s:List UInt8}(h:s∉l):kj l s= -1:=by unfold kj;rw[if_neg h]
theorem va{l:List (List UInt8)}{s x:List UInt8}{k:Nat}(h0:s∉l.take k)(hx:l[k]? =some x)(hne:¬s=x):s∉l.take (k+1):=by
 rw[Xa,hx];intro hm;rcases Wo.1 hm with hm|hm
 ·exact h0 hm
 ·simp only[XW,Wl]at hm;exact hne hm
theorem Kx(w0:W0)(l:List (List UInt8))(s:List UInt8)(hl:l.length≤4611686018427387904)(S:St):aa Tryz.prog w0 117 [.sl 1 false (az l),dS (tx s)] S (fun d S'=>d=dI (kj l s)∧S'=S):=by
 refine cc [] mx Tryz.func117 rfl rfl (by kernel_rfl) ?_;simp(maxDischargeDepth:=12) (maxSteps:=1000000) -implicitDefEqProofs only[Tryz.ntmps117,go_sem,Nat.reduceAdd,Nat.reduceSub,Nat.reduceMul,Nat.reduceLeDiff,Nat.reduceEqDiff,Nat.reduceGT,Nat.reduceBEq,reduceCtorEq,↓reduceIte,Int.reduceToNat,Int.reduceLE,Int.reduceLT,Int.reduceNe,Int.reduceEq];refine aY [] l.length [0,1,7,8] (fun a=>[(8,dI a)]) (fun _=>S) (fun a=>s∉l.take a) mx (by kernel_rfl) ?_ ?_
 ·simp(maxDischargeDepth:=12) (maxSteps:=1000000) -implicitDefEqProofs only[go_sem,Nat.reduceAdd,Nat.reduceSub,Nat.reduceMul,Nat.reduceLeDiff,Nat.reduceEqDiff,Nat.reduceGT,Nat.reduceBEq,reduceCtorEq,↓reduceIte,Int.reduceToNat,Int.reduceLE,Int.reduceLT,Int.reduceNe,Int.reduceEq];exact XD
 ·intro a ha hA;simp(maxDischargeDepth:=12) (maxSteps:=1000000) -implicitDefEqProofs only[go_sem,Nat.reduceAdd,Nat.reduceSub,Nat.reduceMul,Nat.reduceLeDiff,Nat.reduceEqDiff,Nat.reduceGT,Nat.reduceBEq,reduceCtorEq,↓reduceIte,Int.reduceToNat,Int.reduceLE,Int.reduceLT,Int.reduceNe,Int.reduceEq];refine⟨fun hla=>⟨hla,fun x hx=>⟨fun e=>(yP hA (e▸hx)).symm,fun e=>⟨hla,va hA hx e,aI (by omega)⟩⟩⟩,fun hge=>?_⟩;rw[WM (by omega)]at hA;exact(uj hA).symm
theorem O3(w0:W0)(l:List (List UInt8))(s:List UInt8)(hl:l.length≤4611686018427387904)(S:St):aa Tryz.prog w0 58 [.sl 1 false (az l),dS (tx s)] S (fun d S'=>d=dI (kj l s)∧S'=S):=by
 refine cc [] mx Tryz.func58 rfl rfl (by kernel_rfl) ?_;simp(maxDischargeDepth:=12) (maxSteps:=1000000) -implicitDefEqProofs only[Tryz.ntmps58,go_sem,Nat.reduceAdd,Nat.reduceSub,Nat.reduceMul,Nat.reduceLeDiff,Nat.reduceEqDiff,Nat.reduceGT,Nat.reduceBEq,reduceCtorEq,↓reduceIte,Int.reduceToNat,Int.reduceLE,Int.reduceLT,Int.reduceNe,Int.reduceEq];refine aY [] l.length [0,1,5] (fun a=>[(5,dI a)]) (fun _=>S) (fun a=>s∉l.take a) mx (by kernel_rfl) ?_ ?_
 ·simp(maxDischargeDepth:=12) (maxSteps:=1000000) -implicitDefEqProofs only[go_sem,Nat.reduceAdd,Nat.reduceSub,Nat.reduceMul,Nat.reduceLeDiff,Nat.reduceEqDiff,Nat.reduceGT,Nat.reduceBEq,reduceCtorEq,↓reduceIte,Int.reduceToNat,Int.reduceLE,Int.reduceLT,Int.reduceNe,Int.reduceEq];exact XD
 ·intro a ha hA;simp(maxDischargeDepth:=12) (maxSteps:=1000000) -implicitDefEqProofs only[go_sem,Nat.reduceAdd,Nat.reduceSub,Nat.reduceMul,Nat.reduceLeDiff,Nat.reduceEqDiff,Nat.reduceGT,Nat.reduceBEq,reduceCtorEq,↓reduceIte,Int.reduceToNat,Int.reduceLE,Int.reduceLT,Int.reduceNe,Int.reduceEq];refine⟨fun hla=>⟨hla,fun x hx=>⟨fun e=>(yP hA (e▸hx)).symm,fun e=>⟨hla,va hA hx (fun q=>e q.symm),aI (by omega)⟩⟩⟩,fun hge=>?_⟩;rw[WM (by omega)]at hA;exact(uj hA).symm
theorem zP(w0:W0)(l:List (List UInt8))(s:List UInt8)(hl:l.length≤4611686018427387904)(S:St):aa Tryz.prog w0 65 [.sl 1 false (az l),dS (tx s)] S (fun d S'=>d=dB (decide (s∈l))∧S'=S):=by
 refine cc [] mx Tryz.func65 rfl rfl (by kernel_rfl) ?_;simp(maxDischargeDepth:=12) (maxSteps:=1000000) -implicitDefEqProofs only[Tryz.ntmps65,go_sem,Nat.reduceAdd,Nat.reduceSub,Nat.reduceMul,Nat.reduceLeDiff,Nat.reduceEqDiff,Nat.reduceGT,Nat.reduceBEq,reduceCtorEq,↓reduceIte,Int.reduceToNat,Int.reduceLE,Int.reduceLT,Int.reduceNe,Int.reduceEq];refine aw (Kx _ l s hl _) ?_;simp(maxDischargeDepth:=12) (maxSteps:=1000000) -implicitDefEqProofs only[go_sem,Nat.reduceAdd,Nat.reduceSub,Nat.reduceMul,Nat.reduceLeDiff,Nat.reduceEqDiff,Nat.reduceGT,Nat.reduceBEq,reduceCtorEq,↓reduceIte,Int.reduceToNat,Int.reduceLE,Int.reduceLT,Int.reduceNe,Int.reduceEq];have:=qJ (l:=l) (s:=s);by_cases h:s∈l
 ·exact⟨fun _=>h,fun _=>Int.not_lt.1 fun q=>this.1 q h⟩
 ·exact⟨fun q=>by have:=this.2 h;omega,fun q=>absurd q h⟩
theorem Nd(w0:W0)(n:Int)(S:St):aa Tryz.prog w0 64 [dI n] S (fun d S'=>d=dB (decide (4≤n∧n≤1000))∧S'=S):=by
 refine cc [] mx Tryz.func64 rfl rfl (by kernel_rfl) ?_;simp(maxDischargeDepth:=12) (maxSteps:=1000000) -implicitDefEqProofs only[Tryz.ntmps64,go_sem,Nat.reduceAdd,Nat.reduceSub,Nat.reduceMul,Nat.reduceLeDiff,Nat.reduceEqDiff,Nat.reduceGT,Nat.reduceBEq,reduceCtorEq,↓reduceIte,Int.reduceToNat,Int.reduceLE,Int.reduceLT,Int.reduceNe,Int.reduceEq];refine⟨fun h=>⟨fun q=>⟨h,q⟩,fun q=>q.2⟩,fun h q=>h q.1⟩
structure Cf where
 nm:List (List UInt8)
 up:List Nat
 qu:List Int
 gr:List G
@[go_sem] def kA (l:List Int):DV:= .sl 1 false (l.map dI)
@[go_sem] def PA (c:Cf):DV:= .agg [.sl 1 false (az c.nm),dP c.up,kA c.qu,iM c.gr]
structure J8(c:Cf):Prop where
 HL:c.nm.length=c.up.length
 Nb:c.qu.length=c.up.length
 QB:qp c.up
 QE:IU c.up c.gr
 name:∀s,s∈c.nm→fS s
 quo:∀n,n∈c.qu→4≤n∧n≤1000
 uniq:c.nm.Nodup
structure zo(c:Cf):Prop where
 Sn:c.nm.length≤1048576
 Tz:∀s,s∈c.nm→s.length≤1048576
 Rl:c.up.length≤1048576
 Fp:df c.up
 Sd:c.qu.length≤1048576
 QG:c.gr.length≤1048576
def Gx(c:Cf)(k:Nat):Prop:=∀i,i<k→∀s n,c.nm[i]? =some s→c.qu[i]? =some n→fS s∧(4≤n∧n≤1000)∧s∉c.nm.take i
theorem zk{c:Cf}(h1:c.nm.length=c.up.length)(h2:c.qu.length=c.up.length):J8 c↔qp c.up∧IU c.up c.gr∧Gx c c.nm.length:=by
 constructor
 ·intro h;refine⟨h.QB,h.QE,fun i hi s n hs hn=>⟨h.name s (Wc hs),h.quo n (Wc hn),fun hm=>?_⟩⟩;obtain⟨j,hj,e⟩:=Yd.1 hm;rw[W5]at hj;rw[List.getElem_take]at e;obtain⟨hi',e'⟩:=Wd.1 hs;have:=Xx.1 h.uniq j i (by omega) hi' (by omega);exact this (by rw[e,e'])
 ·rintro⟨a1,a2,a3⟩;have key:∀i,(hi:i<c.nm.length)→fS (c.nm[i])∧(4≤c.qu[i]'(by omega)∧c.qu[i]'(by omega)≤1000)∧c.nm[i]∉c.nm.take i:=fun i hi=>a3 i hi _ _ (Wb hi) (Wb (by omega));refine⟨h1,h2,a1,a2,fun s hs=>?_,fun n hn=>?_,?_⟩
  ·obtain⟨i,hi,rfl⟩:=Yd.1 hs;exact(key i hi).1
  ·obtain⟨i,hi,rfl⟩:=Yd.1 hn;exact(key i (by omega)).2.1
  ·refine Xx.2 fun i j hi hj hij e=>(key j hj).2.2 ?_;rw[←e];exact Yd.2 ⟨i,by rw[W5];omega,by rw[List.getElem_take]⟩
theorem uD{c:Cf}{k:Nat}{s:List UInt8}{n:Int}(h:Gx c k)(hs:c.nm[k]? =some s)(hn:c.qu[k]? =some n)(h1:fS s)(h2:4≤n∧n≤1000)(h3:s∉c.nm.take k):Gx c (k+1):=fun i hi s' n' hs' hn'=>by
 by_cases e:i=k
 ·subst e;rw[hs]at hs';rw[hn]at hn';cases hs';cases hn';exact⟨h1,h2,h3⟩
 ·exact h i (by omega) s' n' hs' hn'
theorem JM{c:Cf}(h2:c.qu.length=c.up.length)(h1:c.nm.length=c.up.length){k:Nat}(hk:k<c.nm.length):∃n,c.qu[k]? =some n:=⟨_,Wb (by omega)⟩
theorem Lj(w0:W0)(hg:ga w0)(hk:KU w0)(c:Cf)(hc:zo c)(S:St):aa Tryz.prog w0 26 [PA c] S (fun d S'=>d=dB (pB (J8 c))∧S'=S):=by
 have h1:=hc.Sn;have h2:=hc.Rl;have h3:=hc.Sd;have h4:=hc.QG;refine cc [] mx Tryz.func26 rfl rfl (by kernel_rfl) ?_;simp(maxDischargeDepth:=12) (maxSteps:=1000000) -implicitDefEqProofs only[Tryz.ntmps26,go_sem,Nat.reduceAdd,Nat.reduceSub,Nat.reduceMul,Nat.reduceLeDiff,Nat.reduceEqDiff,Nat.reduceGT,Nat.reduceBEq,reduceCtorEq,↓reduceIte,Int.reduceToNat,Int.reduceLE,Int.reduceLT,Int.reduceNe,Int.reduceEq];intro b;refine⟨fun h hp=>h hp.HL,fun e1=>⟨fun h hp=>h hp.Nb,fun e2=>?_⟩⟩;have e1:=Wy.1 e1;have e2:=Wy.1 e2;refine aw (RR _ hg c.up hc.Fp (by omega) _) ?_;simp(maxDischargeDepth:=12) (maxSteps:=1000000) -implicitDefEqProofs only[go_sem,Nat.reduceAdd,Nat.reduceSub,Nat.reduceMul,Nat.reduceLeDiff,Nat.reduceEqDiff,Nat.reduceGT,Nat.reduceBEq,reduceCtorEq,↓reduceIte,Int.reduceToNat,Int.reduceLE,Int.reduceLT,Int.reduceNe,Int.reduceEq];refine⟨fun hL hp=>hL hp.QB,fun hL=>aw (TZ _ c.up hc.Fp c.gr (by omega) _) ?_⟩;simp(maxDischargeDepth:=12) (maxSteps:=1000000) -implicitDefEqProofs only[go_sem,Nat.reduceAdd,Nat.reduceSub,Nat.reduceMul,Nat.reduceLeDiff,Nat.reduceEqDiff,Nat.reduceGT,Nat.reduceBEq,reduceCtorEq,↓reduceIte,Int.reduceToNat,Int.reduceLE,Int.reduceLT,Int.reduceNe,Int.reduceEq];refine⟨fun hG hp=>hG hp.QE,fun hG=>?_⟩;rw[zk e1 e2];refine aY [] c.nm.length [1,36,37,38] (fun a=>[(38,dI a)]) (fun _=>⟨(b.n,[.sl 1 false (az c.nm),dP c.up,kA c.qu,iM c.gr])::S.box,S.acc⟩) (fun a=>Gx c a) mx (by kernel_rfl) ?_ ?_
 ·simp(maxDischargeDepth:=12) (maxSteps:=1000000) -implicitDefEqProofs only[go_sem,Nat.reduceAdd,Nat.reduceSub,Nat.reduceMul,Nat.reduceLeDiff,Nat.reduceEqDiff,Nat.reduceGT,Nat.reduceBEq,reduceCtorEq,↓reduceIte,Int.reduceToNat,Int.reduceLE,Int.reduceLT,Int.reduceNe,Int.reduceEq];intro i hi;omega
 ·intro a ha hA;simp(maxDischargeDepth:=12) (maxSteps:=1000000) -implicitDefEqProofs only[go_sem,Nat.reduceAdd,Nat.reduceSub,Nat.reduceMul,Nat.reduceLeDiff,Nat.reduceEqDiff,Nat.reduceGT,Nat.reduceBEq,reduceCtorEq,↓reduceIte,Int.reduceToNat,Int.reduceLE,Int.reduceLT,Int.reduceNe,Int.reduceEq];refine⟨fun hla=>⟨hla,fun s hs=>?_⟩,fun hge=>?_⟩
  ·refine Exists.elim (JM e2 e1 hla) fun n hn=>?_;have hsl:=hc.Tz s (Wc hs);refine aw (Py _ hk (tx s) (by rw[dy];exact hsl) _) ?_;simp(maxDischargeDepth:=12) (maxSteps:=1000000) -implicitDefEqProofs only[go_sem,Nat.reduceAdd,Nat.reduceSub,Nat.reduceMul,Nat.reduceLeDiff,Nat.reduceEqDiff,Nat.reduceGT,Nat.reduceBEq,reduceCtorEq,↓reduceIte,Int.reduceToNat,Int.reduceLE,Int.reduceLT,Int.reduceNe,Int.reduceEq];refine⟨fun q hp=>q (hp.2.2 a hla s n hs hn).1,fun q=>⟨by omega,fun n' hn'=>?_⟩⟩;rw[hn]at hn';cases hn';refine aw (Nd _ n _) ?_;simp(maxDischargeDepth:=12) (maxSteps:=1000000) -implicitDefEqProofs only[go_sem,Nat.reduceAdd,Nat.reduceSub,Nat.reduceMul,Nat.reduceLeDiff,Nat.reduceEqDiff,Nat.reduceGT,Nat.reduceBEq,reduceCtorEq,↓reduceIte,Int.reduceToNat,Int.reduceLE,Int.reduceLT,Int.reduceNe,Int.reduceEq];refine⟨fun q2 hp=>q2 (hp.2.2 a hla s n hs hn).2.1,fun q2=>⟨by omega,?_⟩⟩;refine aw (zP _ (c.nm.take a) s (by rw[W5];omega) _) ?_;simp(maxDischargeDepth:=12) (maxSteps:=1000000) -implicitDefEqProofs only[go_sem,Nat.reduceAdd,Nat.reduceSub,Nat.reduceMul,Nat.reduceLeDiff,Nat.reduceEqDiff,Nat.reduceGT,Nat.reduceBEq,reduceCtorEq,↓reduceIte,Int.reduceToNat,Int.reduceLE,Int.reduceLT,Int.reduceNe,Int.reduceEq];have z1:s∈List.take a c.nm→¬(qp c.up∧IU c.up c.gr∧Gx c c.nm.length):=fun q3 hp=>(hp.2.2 a hla s n hs hn).2.2 q3;have z2:¬s∈List.take a c.nm→Gx c (a+1):=fun q3=>uD hA hs hn (Wy.1 q) (Wy.1 q2) q3;exact⟨z1,fun q3=>⟨hla,z2 q3,aI (show a<4611686018427387905 by omega)⟩⟩
  ·have e:a=c.nm.length:=by omega
   subst e;exact⟨Wy.1 hL,Wy.1 hG,hA⟩
theorem KC(w0:W0)(c:Cf)(hc:zo c)(S:St):aa Tryz.prog w0 19 [PA c] S (fun d S'=>d=dB (pB (J8 c))∧S'=S):=by
 have h1:=hc.Sn;have h2:=hc.Rl;have h3:=hc.Sd;have h4:=hc.QG;refine cc [] mx Tryz.func19 rfl rfl (by kernel_rfl) ?_;simp(maxDischargeDepth:=12) (maxSteps:=1000000) -implicitDefEqProofs only[Tryz.ntmps19,go_sem,Nat.reduceAdd,Nat.reduceSub,Nat.reduceMul,Nat.reduceLeDiff,Nat.reduceEqDiff,Nat.reduceGT,Nat.reduceBEq,reduceCtorEq,↓reduceIte,Int.reduceToNat,Int.reduceLE,Int.reduceLT,Int.reduceNe,Int.reduceEq];intro b;refine⟨fun h hp=>h hp.HL,fun e1=>⟨fun h hp=>h (by rw[hp.HL,hp.Nb]),fun e2=>?_⟩⟩;have e1:=Wy.1 e1;have e2:c.qu.length=c.up.length:=by rw[←Wy.1 e2,e1]
 refine aw (Sg _ c.up hc.Fp (by omega) _) ?_;simp(maxDischargeDepth:=12) (maxSteps:=1000000) -implicitDefEqProofs only[go_sem,Nat.reduceAdd,Nat.reduceSub,Nat.reduceMul,Nat.reduceLeDiff,Nat.reduceEqDiff,Nat.reduceGT,Nat.reduceBEq,reduceCtorEq,↓reduceIte,Int.reduceToNat,Int.reduceLE,Int.reduceLT,Int.reduceNe,Int.reduceEq];refine⟨fun hL hp=>hL hp.QB,fun hL=>aw (Uo _ c.up hc.Fp c.gr (by omega) _) ?_⟩;simp(maxDischargeDepth:=12) (maxSteps:=1000000) -implicitDefEqProofs only[go_sem,Nat.reduceAdd,Nat.reduceSub,Nat.reduceMul,Nat.reduceLeDiff,Nat.reduceEqDiff,Nat.reduceGT,Nat.reduceBEq,reduceCtorEq,↓reduceIte,Int.reduceToNat,Int.reduceLE,Int.reduceLT,Int.reduceNe,Int.reduceEq];refine⟨fun hG hp=>hG hp.QE,fun hG=>?_⟩;rw[zk e1 e2];refine aY [] c.nm.length [1,3] (fun a=>[(3,dI a)]) (fun _=>⟨(b.n,[.sl 1 false (az c.nm),dP c.up,kA c.qu,iM c.gr])::S.box,S.acc⟩) (fun a=>Gx c a) mx (by kernel_rfl) ?_ ?_
 ·simp(maxDischargeDepth:=12) (maxSteps:=1000000) -implicitDefEqProofs only[go_sem,Nat.reduceAdd,Nat.reduceSub,Nat.reduceMul,Nat.reduceLeDiff,Nat.reduceEqDiff,Nat.reduceGT,Nat.reduceBEq,reduceCtorEq,↓reduceIte,Int.reduceToNat,Int.reduceLE,Int.reduceLT,Int.reduceNe,Int.reduceEq];intro i hi;omega
 ·intro a ha hA;simp(maxDischargeDepth:=12) (maxSteps:=1000000) -implicitDefEqProofs only[go_sem,Nat.reduceAdd,Nat.reduceSub,Nat.reduceMul,Nat.reduceLeDiff,Nat.reduceEqDiff,Nat.reduceGT,Nat.reduceBEq,reduceCtorEq,↓reduceIte,Int.reduceToNat,Int.reduceLE,Int.reduceLT,Int.reduceNe,Int.reduceEq];refine⟨fun hla=>⟨hla,fun s hs=>?_⟩,fun hge=>?_⟩
  ·refine Exists.elim (JM e2 e1 hla) fun n hn=>?_;have hsl:=hc.Tz s (Wc hs);refine aw (PF _ (tx s) (by rw[dy];exact hsl) _) ?_;simp(maxDischargeDepth:=12) (maxSteps:=1000000) -implicitDefEqProofs only[go_sem,Nat.reduceAdd,Nat.reduceSub,Nat.reduceMul,Nat.reduceLeDiff,Nat.reduceEqDiff,Nat.reduceGT,Nat.reduceBEq,reduceCtorEq,↓reduceIte,Int.reduceToNat,Int.reduceLE,Int.reduceLT,Int.reduceNe,Int.reduceEq];have K:=fun hp:qp c.up∧IU c.up c.gr∧Gx c c.nm.length=>hp.2.2 a hla s n hs hn;refine⟨fun q hp=>q (K hp).1,fun q=>⟨by omega,fun n' hn'=>?_⟩⟩;obtain rfl:n=n':=WQ (hn.symm.trans hn');refine⟨fun q2 hp=>by have:=(K hp).2.1;omega,fun q2=>⟨by omega,fun n' hn'=>?_⟩⟩;obtain rfl:n=n':=WQ (hn.symm.trans hn');refine⟨fun q3 hp=>by have:=(K hp).2.1;omega,fun q3=>⟨by omega,by omega,fun s' hs'=>?_⟩⟩;obtain rfl:s=s':=WQ (hs.symm.trans hs');refine dn (O3 _ (c.nm.take a) s (by rw[W5];omega) _) ?_;simp(maxDischargeDepth:=12) (maxSteps:=1000000) -implicitDefEqProofs only[go_sem,Nat.reduceAdd,Nat.reduceSub,Nat.reduceMul,Nat.reduceLeDiff,Nat.reduceEqDiff,Nat.reduceGT,Nat.reduceBEq,reduceCtorEq,↓reduceIte,Int.reduceToNat,Int.reduceLE,Int.reduceLT,Int.reduceNe,Int.reduceEq];have fn:=qJ (l:=c.nm.take a) (s:=s);have z1:kj (List.take a c.nm) s≥0→¬(qp c.up∧IU c.up c.gr∧Gx c c.nm.length):=fun q4 hp=>(K hp).2.2 (Wy.1 fun g=>by have:=fn.2 g;omega);have z2:¬kj (List.take a c.nm) s≥0→Gx c (a+1):=fun q4=>uD hA hs hn (Wy.1 q) (by omega) (fn.1 (by omega));exact⟨z1,fun q4=>⟨hla,z2 q4,aI (show a<4611686018427387905 by omega)⟩⟩
  ·have e:a=c.nm.length:=by omega
   subst e;exact⟨Wy.1 hL,Wy.1 hG,hA⟩
end Go.Proofs.YtoepfmhnapedoaaGreatDoor
namespace Go.Proofs.YtoepfmhnapedoaaGreatDoor
open Aml Go Rn Lat Grs
structure bI where
 kind:Int
 level:Int
 aH:Int
 snap:Int
 bucket:List UInt8
 key:List UInt8
 value:List UInt8
 label:Int
 fk:Int
 n:Int
 cb:List (List UInt8)
@[go_sem] def bI.ds (o:bI):List DV:=[dI o.kind,dI o.level,dI o.aH,dI o.snap,dS (tx o.bucket),dS (tx o.key),dS (tx o.value),dI o.label,dI o.fk,dI o.n,.sl 1 false (az o.cb)]
@[go_sem] def IV (o:bI):DV:= .agg [dI o.kind,dI o.level,dI o.aH,dI o.snap,dS (tx o.bucket),dS (tx o.key),dS (tx o.value),dI o.label,dI o.fk,dI o.n,.sl 1 false (az o.cb)]
def lV(w0:W0)(S:St)(e:Int):Prop:=∀T,Has S T→w0.pq (.gz 33 (dI e)) T
theorem aA(w0:W0)(b:Bool)(e:Int)(S:St)(hq:b=false→lV w0 S e):aa Tryz.prog w0 33 [dB b,dI e] S (fun d S'=>b=true∧d= .cE []∧S'=S):=by
 refine jn [] mx Tryz.func33 rfl rfl (by kernel_rfl) ?_;simp(maxDischargeDepth:=12) (maxSteps:=1000000) -implicitDefEqProofs only[Tryz.ntmps33,go_sem,Nat.reduceAdd,Nat.reduceSub,Nat.reduceMul,Nat.reduceLeDiff,Nat.reduceEqDiff,Nat.reduceGT,Nat.reduceBEq,reduceCtorEq,↓reduceIte,Int.reduceToNat,Int.reduceLE,Int.reduceLT,Int.reduceNe,Int.reduceEq];exact fun h=>hq h S (.refl S)
theorem J2(w0:W0)(s:List UInt8)(m:Int)(S:St):aa Tryz.prog w0 121 [dS (tx s),dI m] S (fun d S'=>d=dB (decide (s≠[]∧(s.length:Int)≤m))∧S'=S):=by
 refine cc [] mx Tryz.func121 rfl rfl (by kernel_rfl) ?_;simp(maxDischargeDepth:=12) (maxSteps:=1000000) -implicitDefEqProofs only[Tryz.ntmps121,go_sem,Nat.reduceAdd,Nat.reduceSub,Nat.reduceMul,Nat.reduceLeDiff,Nat.reduceEqDiff,Nat.reduceGT,Nat.reduceBEq,reduceCtorEq,↓reduceIte,Int.reduceToNat,Int.reduceLE,Int.reduceLT,Int.reduceNe,Int.reduceEq];rw[dy];exact⟨fun h=>⟨fun q=>⟨h,q⟩,fun q=>q.2⟩,fun h q=>h q.1⟩
@[go_sem] def Cd (c:Cf) (ls:List Nat) (t sn:Nat):List DV:=[.sl 1 false (az c.nm),dP c.up,kA c.qu,iM c.gr,.sl 1 false (ls.map bd),bd t,.mp sn]
@[go_sem] def qf (m own:Nat) (o:bI) (full:Bool):List DV:=[bd m,dI o.kind,dI o.level,dI o.aH,dI o.snap,dS (tx o.bucket),dS (tx o.key),dS (tx o.value),dI o.label,dI o.fk,dI o.n,.sl 1 false (az o.cb),dB full,bd own]
@[go_sem] def kZ (b:Nat) (au:DV) (has:Int) (dr:DV):List DV:=[.mp b,au,dI has,dr]
def xR(ls:List Nat)(x:Int):Option Nat:=if 0≤x then ls[x.toNat]? else none
theorem rH(w0:W0){S:St}{w m own:Nat}{o:bI}{full:Bool}{b:Nat}{au dr:DV}{has:Int}(hw:lk S.box w=some (qf m own o full))(hl:lk S.box own=some (kZ b au has dr)):
 aa Tryz.prog w0 118 [bd w] S (fun d S'=>d=dB (decide (has=o.aH))∧S'=S):=by
 refine cc [] mx Tryz.func118 rfl rfl (by kernel_rfl) ?_;simp(maxDischargeDepth:=12) (maxSteps:=1000000) -implicitDefEqProofs only[Tryz.ntmps118,go_sem,Nat.reduceAdd,Nat.reduceSub,Nat.reduceMul,Nat.reduceLeDiff,Nat.reduceEqDiff,Nat.reduceGT,Nat.reduceBEq,reduceCtorEq,↓reduceIte,Int.reduceToNat,Int.reduceLE,Int.reduceLT,Int.reduceNe,Int.reduceEq,hw,hl]
theorem dw(w0:W0){S:St}{w m own:Nat}{o:bI}{full:Bool}(hw:lk S.box w=some (qf m own o full)):
 aa Tryz.prog w0 38 [bd w] S (fun d S'=>d=w7 o.level o.aH∧S'=S):=by
 refine cc [] mx Tryz.func38 rfl rfl (by kernel_rfl) ?_;simp(maxDischargeDepth:=12) (maxSteps:=1000000) -implicitDefEqProofs only[Tryz.ntmps38,go_sem,Nat.reduceAdd,Nat.reduceSub,Nat.reduceMul,Nat.reduceLeDiff,Nat.reduceEqDiff,Nat.reduceGT,Nat.reduceBEq,reduceCtorEq,↓reduceIte,Int.reduceToNat,Int.reduceLE,Int.reduceLT,Int.reduceNe,Int.reduceEq,hw]
theorem l6(w0:W0){S:St}{w m own:Nat}{o:bI}{full:Bool}{c:Cf}{ls:List Nat}{t sn:Nat}(hw:lk S.box w=some (qf m own o full))(hm:lk S.box m=some (Cd c ls t sn))(hu:df c.up)(x:Int):
 aa Tryz.prog w0 131 [bd w,dI x] S (fun d S'=>d=dB (jf c.up x o.level)∧S'=S):=by
 refine cc [] mx Tryz.func131 rfl rfl (by kernel_rfl) ?_;simp(maxDischargeDepth:=12) (maxSteps:=1000000) -implicitDefEqProofs only[Tryz.ntmps131,go_sem,Nat.reduceAdd,Nat.reduceSub,Nat.reduceMul,Nat.reduceLeDiff,Nat.reduceEqDiff,Nat.reduceGT,Nat.reduceBEq,reduceCtorEq,↓reduceIte,Int.reduceToNat,Int.reduceLE,Int.reduceLT,Int.reduceNe,Int.reduceEq,hw,hm];refine dn (s9 _ c.up hu x o.level _) ?_;simp(maxDischargeDepth:=12) (maxSteps:=1000000) -implicitDefEqProofs only[go_sem,Nat.reduceAdd,Nat.reduceSub,Nat.reduceMul,Nat.reduceLeDiff,Nat.reduceEqDiff,Nat.reduceGT,Nat.reduceBEq,reduceCtorEq,↓reduceIte,Int.reduceToNat,Int.reduceLE,Int.reduceLT,Int.reduceNe,Int.reduceEq]
theorem ofM(w0:W0){S:St}{m:Nat}{c:Cf}{ls:List Nat}{t sn:Nat}(hm:lk S.box m=some (Cd c ls t sn))(x:Int):
 aa Tryz.prog w0 51 [bd m,dI x] S (fun d S'=>d=tY (xR ls x)∧S'=S):=by
 refine cc [] mx Tryz.func51 rfl rfl (by kernel_rfl) ?_;simp(maxDischargeDepth:=12) (maxSteps:=1000000) -implicitDefEqProofs only[Tryz.ntmps51,go_sem,Nat.reduceAdd,Nat.reduceSub,Nat.reduceMul,Nat.reduceLeDiff,Nat.reduceEqDiff,Nat.reduceGT,Nat.reduceBEq,reduceCtorEq,↓reduceIte,Int.reduceToNat,Int.reduceLE,Int.reduceLT,Int.reduceNe,Int.reduceEq,hm];unfold xR;refine⟨fun h=>?_,fun h=>⟨fun h2=>?_,fun h2=>⟨by omega,by omega,fun a ha=>?_⟩⟩⟩
 ·rw[if_neg (by omega)];exact .refl _
 ·rw[if_pos (by omega),Wn (by omega)];exact .refl _
 ·rw[if_pos (by omega),ha];exact .refl _
theorem lp(w0:W0){S:St}{l N:Nat}{ids:List UInt8→Option Nat}{F:List UInt8→Option (List UInt8→Option (List UInt8))}(h:BM S l N ids F)(n:List UInt8)(hq:ids n=none→lV w0 S 32):
 aa Tryz.prog w0 122 [.mp l,dS (tx n)] S (fun d S'=>∃i,ids n=some i∧d= .mp i∧S'=S):=by
 obtain⟨es,c,h1,h2,h3⟩:=h.top;have h3:=h3 n;unfold kT at h3
 cases hi:ids n with
 |none=>
  rw[hi]at h3;refine jn [] mx Tryz.func122 rfl rfl (by kernel_rfl) ?_;simp(maxDischargeDepth:=12) (maxSteps:=1000000) -implicitDefEqProofs only[Tryz.ntmps122,go_sem,Nat.reduceAdd,Nat.reduceSub,Nat.reduceMul,Nat.reduceLeDiff,Nat.reduceEqDiff,Nat.reduceGT,Nat.reduceBEq,reduceCtorEq,↓reduceIte,Int.reduceToNat,Int.reduceLE,Int.reduceLT,Int.reduceNe,Int.reduceEq,h1,h3];refine an (aA w0 false 32 _ fun _=>hq hi) ?_;rintro _ _ ⟨h,_⟩;cases h
 |some i=>
  rw[hi]at h3;refine jn [] mx Tryz.func122 rfl rfl (by kernel_rfl) ?_;simp(maxDischargeDepth:=12) (maxSteps:=1000000) -implicitDefEqProofs only[Tryz.ntmps122,go_sem,Nat.reduceAdd,Nat.reduceSub,Nat.reduceMul,Nat.reduceLeDiff,Nat.reduceEqDiff,Nat.reduceGT,Nat.reduceBEq,reduceCtorEq,↓reduceIte,Int.reduceToNat,Int.reduceLE,Int.reduceLT,Int.reduceNe,Int.reduceEq,h1,h3];refine an (aA w0 true 32 _ fun h=>by cases h) ?_;rintro _ _ ⟨_,rfl,rfl⟩;simp(maxDischargeDepth:=12) (maxSteps:=1000000) -implicitDefEqProofs only[go_sem,Nat.reduceAdd,Nat.reduceSub,Nat.reduceMul,Nat.reduceLeDiff,Nat.reduceEqDiff,Nat.reduceGT,Nat.reduceBEq,reduceCtorEq,↓reduceIte,Int.reduceToNat,Int.reduceLE,Int.reduceLT,Int.reduceNe,Int.reduceEq];exact⟨i,rfl,rfl⟩
def FD:List (List UInt8):=[[111,112,101,110],[99,108,111,115,101],[98,101,103,105,110],[99,111,109,109,105,116],[114,111,108,108,98,97,99,107],[109,97,107,101],[100,114,111,112],[112,117,116],[100,101,108,101,116,101],[103,101,116],[115,99,97,110],[115,110,97,112],[117,110,115,110,97,112],[99,111,117,110,116],[97,117,100,105,116],[100,101,99,108,97,115,115,105,102,121],[99,114,97,115,104]]
def Gw(k:Int):List UInt8:=if 0≤k∧k<17 then FD.getD k.toNat []else []
def tF:List Value:=FD.map fun l=> .string (tx l)
def mN(w0:W0):Prop:=mf w0 0 tF
theorem H4(k:Int)(h0:0≤k)(h1:k<17):tF[k.toNat]? =some (.string (tx (Gw k))):=by
 unfold Gw tF;have hk2:k.toNat<FD.length:=by show k.toNat<17;omega
 rw[if_pos ⟨h0,h1⟩,Wi,Wb hk2,WA,Wb hk2];rfl
theorem Nr(k:Int)(h0:0≤k)(h1:k<17):tF.drop (k.toNat*1)= .string (tx (Gw k))::tF.drop (k.toNat+1):=by
 obtain⟨h,e⟩:=Wd.1 (H4 k h0 h1);rw[XV,List.drop_eq_getElem_cons h,e]
theorem Nw(k:Int):Gw k≠[]↔0≤k∧k<17:=by
 unfold Gw;by_cases h:0≤k∧k<17
 ·rw[if_pos h];refine⟨fun _=>h,fun _=>?_⟩;have key:∀i:Fin 17,FD.getD i.val []≠[]:=by decide
  exact key ⟨k.toNat,by omega⟩
 ·rw[if_neg h];exact⟨fun q=>absurd rfl q,fun q=>absurd q h⟩
theorem Mz(w0:W0)(hg:mN w0)(k:Int)(S:St):aa Tryz.prog w0 66 [dI k] S (fun d S'=>d=dS (tx (Gw k))∧S'=S):=by
 have hG:=og hg;refine cc [] mx Tryz.func66 rfl rfl (by kernel_rfl) ?_;simp(maxDischargeDepth:=12) (maxSteps:=1000000) -implicitDefEqProofs only[Tryz.ntmps66,go_sem,Nat.reduceAdd,Nat.reduceSub,Nat.reduceMul,Nat.reduceLeDiff,Nat.reduceEqDiff,Nat.reduceGT,Nat.reduceBEq,reduceCtorEq,↓reduceIte,Int.reduceToNat,Int.reduceLE,Int.reduceLT,Int.reduceNe,Int.reduceEq,hG];have e0:∀h:¬(0≤k∧k<17),tx (Gw k)=⟨#[]⟩:=by intro h;unfold Gw;rw[if_neg h];rfl
 refine⟨fun h=>?_,fun h=>⟨fun h2=>?_,fun h2=>?_⟩⟩
 ·rw[e0 (by omega)]
 ·rw[e0 (by omega)]
 ·have hl:tF.length=17:=rfl;refine⟨by omega,by omega,by omega,?_⟩;rw[Nr k (by omega) (by omega)];simp(maxDischargeDepth:=12) (maxSteps:=1000000) -implicitDefEqProofs only[go_sem,Nat.reduceAdd,Nat.reduceSub,Nat.reduceMul,Nat.reduceLeDiff,Nat.reduceEqDiff,Nat.reduceGT,Nat.reduceBEq,reduceCtorEq,↓reduceIte,Int.reduceToNat,Int.reduceLE,Int.reduceLT,Int.reduceNe,Int.reduceEq]
def tm(n:Int)(o:bI):Bool:=decide ((0≤o.kind∧o.kind<17)∧(o.kind=16∨(0≤o.level∧o.level<n)))
theorem Bu(n:Int)(o:bI):(¬Gw o.kind=[]→(o.kind=16→true=tm n o)∧(¬o.kind=16→(o.level≥0→decide (o.level<n)=tm n o)∧(¬o.level≥0→false=tm n o)))∧(¬¬Gw o.kind=[]→false=tm n o):=by
 unfold tm;have h:=Nw o.kind;refine⟨fun h1=>⟨fun h2=>?_,fun h2=>⟨fun h3=>?_,fun h3=>?_⟩⟩,fun h1=>?_⟩
 ·have:=h.1 h1;exact(decide_eq_true ⟨this,.inl h2⟩).symm
 ·have:=h.1 h1;exact decide_eq_decide.2 ⟨fun q=>⟨this,.inr ⟨h3,q⟩⟩,fun q=>q.2.elim (fun e=>absurd e h2) fun e=>e.2⟩
 ·exact(decide_eq_false fun q=>q.2.elim (fun e=>h2 e) fun e=>h3 e.1).symm
 ·exact(decide_eq_false fun q=>h1 fun e=>(h.2 q.1) e).symm
theorem MB(w0:W0)(hg:mN w0)(n:Int)(o:bI)(S:St):aa Tryz.prog w0 34 [dI n,IV o] S (fun d S'=>d=dB (tm n o)∧S'=S):=by
 refine cc [] mx Tryz.func34 rfl rfl (by kernel_rfl) ?_;simp(maxDischargeDepth:=12) (maxSteps:=1000000) -implicitDefEqProofs only[Tryz.ntmps34,go_sem,Nat.reduceAdd,Nat.reduceSub,Nat.reduceMul,Nat.reduceLeDiff,Nat.reduceEqDiff,Nat.reduceGT,Nat.reduceBEq,reduceCtorEq,↓reduceIte,Int.reduceToNat,Int.reduceLE,Int.reduceLT,Int.reduceNe,Int.reduceEq];intro b;refine aw (Mz _ hg o.kind _) ?_;simp(maxDischargeDepth:=12) (maxSteps:=1000000) -implicitDefEqProofs only[go_sem,Nat.reduceAdd,Nat.reduceSub,Nat.reduceMul,Nat.reduceLeDiff,Nat.reduceEqDiff,Nat.reduceGT,Nat.reduceBEq,reduceCtorEq,↓reduceIte,Int.reduceToNat,Int.reduceLE,Int.reduceLT,Int.reduceNe,Int.reduceEq];exact Bu n o
end Go.Proofs.YtoepfmhnapedoaaGreatDoor
namespace Go.Proofs.YtoepfmhnapedoaaGreatDoor
open Aml Go Rn Lat Grs
end Go.Proofs.YtoepfmhnapedoaaGreatDoor
namespace Go.Proofs.YtoepfmhnapedoaaGreatDoor
open Aml Go Rn Lat Grs
structure gv where
 key:List UInt8
 uP:Int
 val:List UInt8
@[go_sem] def qo (r:gv):DV:= .agg [dS (tx r.key),dI r.uP,dS (tx r.val)]
noncomputable def gC(x:Int)(n:List UInt8)(f:List UInt8→Option (List UInt8)):List gv:=(cF f).map fun k=>⟨n++[47]++k,x,(f k).getD []⟩
noncomputable def kp(x:Int)(F:List UInt8→Option (List UInt8→Option (List UInt8))):List gv:=(cF F).flatMap fun n=>gC x n ((F n).getD fun _=>none)
noncomputable def lj(x:Int)(F:List UInt8→Option (List UInt8→Option (List UInt8)))(i:Nat):List gv:=((cF F).take i).flatMap fun n=>gC x n ((F n).getD fun _=>none)
theorem z7(x:Int){F:List UInt8→Option (List UInt8→Option (List UInt8))}{i:Nat}{n:List UInt8}(h:(cF F)[i]? =some n):lj x F (i+1)=lj x F i++gC x n ((F n).getD fun _=>none):=by
 unfold lj;rw[Xa,h,List.flatMap_append];simp
theorem xW{α:Type}{l:List α}{i:Nat}{x:α}(h:l[i]? =some x):l.take (i+1)=l.take i++[x]:=by rw[Xa,h];rfl
theorem nI{α:Type}{f:List UInt8→Option α}{k:List UInt8}(h:k∈cF f):f k≠none:=by
 unfold cF at h;split at h
 ·rename_i hx;have:=(List.mergeSort_perm _ _).mem_iff.1 h;exact(hx.choose_spec.2 k).1 this
 ·cases h
theorem Ph{S:St}{l N:Nat}{ids:List UInt8→Option Nat}{F:List UInt8→Option (List UInt8→Option (List UInt8))}(h:BM S l N ids F){i:Nat}{n:List UInt8}(hx:(cF F)[i]? =some n):∃id f,ids n=some id∧F n=some f:=by
 have h1:=nI (Wc hx);obtain⟨f,hf⟩:=WJ.1 h1;obtain⟨id,hi⟩:=WJ.1 (fun q=>h1 ((h.some_ n).1 q));exact⟨id,f,hi,hf⟩
theorem EK(w0:W0){S:St}{m:Nat}{c:Cf}{ls:List Nat}{t sn:Nat}(hm:lk S.box m=some (Cd c ls t sn))(x:Int){b lb:Nat}{au dr:DV}{has:Int}(hx:xR ls x=some b)(hl:lk S.box b=some (kZ lb au has dr))
 {N:Nat} {ids:List UInt8→Option Nat} {F:List UInt8→Option (List UInt8→Option (List UInt8))} (h:BM S lb N ids F) (hN:N≤10000) (hz:∀n f k v,F n=some f→f k=some v→n.length≤1000∧k.length≤1000):
 aa Tryz.prog w0 17 [bd m,dI x] S (fun d S'=>d= .sl 3 false ((kp x F).map qo)∧S'=S):=by
 refine cc [] mx Tryz.func17 rfl rfl (by kernel_rfl) ?_;simp(maxDischargeDepth:=12) (maxSteps:=1000000) -implicitDefEqProofs only[Tryz.ntmps17,go_sem,Nat.reduceAdd,Nat.reduceSub,Nat.reduceMul,Nat.reduceLeDiff,Nat.reduceEqDiff,Nat.reduceGT,Nat.reduceBEq,reduceCtorEq,↓reduceIte,Int.reduceToNat,Int.reduceLE,Int.reduceLT,Int.reduceNe,Int.reduceEq];refine aw (ofM w0 hm x) ?_;rw[hx];unfold tY;simp(maxDischargeDepth:=12) (maxSteps:=1000000) -implicitDefEqProofs only[go_sem,Nat.reduceAdd,Nat.reduceSub,Nat.reduceMul,Nat.reduceLeDiff,Nat.reduceEqDiff,Nat.reduceGT,Nat.reduceBEq,reduceCtorEq,↓reduceIte,Int.reduceToNat,Int.reduceLE,Int.reduceLT,Int.reduceNe,Int.reduceEq,hl];refine an (HM w0 S) ?_;rintro _ _ ⟨bk,rfl,rfl⟩;simp(maxDischargeDepth:=12) (maxSteps:=1000000) -implicitDefEqProofs only[go_sem,Nat.reduceAdd,Nat.reduceSub,Nat.reduceMul,Nat.reduceLeDiff,Nat.reduceEqDiff,Nat.reduceGT,Nat.reduceBEq,reduceCtorEq,↓reduceIte,Int.reduceToNat,Int.reduceLE,Int.reduceLT,Int.reduceNe,Int.reduceEq];have h':BM ⟨(bk.n,[.mp lb])::S.box,S.acc⟩ lb N ids F:=h.mono fun c x _ hc=>hc;refine an (Mc w0 (b:=bk.n) (by simp[lk]) h' (by omega)) ?_;rintro _ _ ⟨r,rfl,hkl,rfl⟩;simp(maxDischargeDepth:=12) (maxSteps:=1000000) -implicitDefEqProofs only[go_sem,Nat.reduceAdd,Nat.reduceSub,Nat.reduceMul,Nat.reduceLeDiff,Nat.reduceEqDiff,Nat.reduceGT,Nat.reduceBEq,reduceCtorEq,↓reduceIte,Int.reduceToNat,Int.reduceLE,Int.reduceLT,Int.reduceNe,Int.reduceEq];refine mU 6 3 rfl (by omega) fun ln=>?_;have hlr:=aG ln r.n (by simp(maxDischargeDepth:=12) (maxSteps:=1000000) -implicitDefEqProofs only[go_sem,Nat.reduceAdd,Nat.reduceSub,Nat.reduceMul,Nat.reduceLeDiff,Nat.reduceEqDiff,Nat.reduceGT,Nat.reduceBEq,reduceCtorEq,↓reduceIte,Int.reduceToNat,Int.reduceLE,Int.reduceLT,Int.reduceNe,Int.reduceEq]);obtain⟨es,c1,h1,h2,h3⟩:=h.top;have hr1:(r.n=ln.n)=False:=by rw[←hlr];exact propext eq_comm
 refine aY [] (cF F).length [1,5,6,21,22,23] (fun i=>[(6,.acc ln.n (lj x F i).length),(21,.acc r.n (cF F).length),(22,dI (cF F).length),(23,dI i)]) (fun i=>⟨(bk.n,[.mp lb])::S.box,(ln.n,.arr 3 ((lj x F i).map qo))::(r.n,.arr 1 ((cF F).map eA))::S.acc⟩) (fun i=>(lj x F i).length≤i*N) mx (by kernel_rfl) ?_ ?_
 ·have e0:lj x F 0=[]:=rfl;simp(maxDischargeDepth:=12) (maxSteps:=1000000) -implicitDefEqProofs only[go_sem,Nat.reduceAdd,Nat.reduceSub,Nat.reduceMul,Nat.reduceLeDiff,Nat.reduceEqDiff,Nat.reduceGT,Nat.reduceBEq,reduceCtorEq,↓reduceIte,Int.reduceToNat,Int.reduceLE,Int.reduceLT,Int.reduceNe,Int.reduceEq];rw[e0];exact⟨by simp,.refl _,.refl _⟩
 ·intro i hi hen;by_cases hil:i<(cF F).length
  ·have e1:IntKind.i64.wrap ((i:Int)+1)=((i+1:Nat):Int):=aI (by omega);have hx:(cF F)[i]? =some (cF F)[i]:=Wb hil;have hks:=z7 x hx;generalize (cF F)[i]=n at hx hks;obtain⟨id,f,g1,g2⟩:=Ph h hx;have h3n:=h3 n;rw[g1]at h3n;unfold kT at h3n;have hlrr:((cF F).map eA)[i]? =some (eA n):=by rw[Wi,hx];rfl
   have hiN:i*N≤10000*10000:=Nat.mul_le_mul (by omega) hN;have hrS:lk S.acc r.n=none:=aj r
   have hlS:lk S.acc ln.n=none:=by
    have q:=aj ln;simp only[lk]at q;rw[if_neg (fun e=>by rw[hr1]at e;exact e)]at q;exact q
   obtain⟨esi,ci,i1,i2,i3⟩:=h.low n id f g1 g2;have hr2:(r.n=id)=False:=eq_false fun e=>by rw[e,i1]at hrS;cases hrS
   have hl2:(ln.n=id)=False:=eq_false fun e=>by rw[e,i1]at hlS;cases hlS
   have hr3:(r.n=lb)=False:=eq_false fun e=>by rw[e,h1]at hrS;cases hrS
   have hl3:(ln.n=lb)=False:=eq_false fun e=>by rw[e,h1]at hlS;cases hlS
   have hke:(F n).getD (fun _=>none)=f:=by rw[g2];rfl
   rw[hke]at hks;simp(maxDischargeDepth:=12) (maxSteps:=1000000) -implicitDefEqProofs only[go_sem,Nat.reduceAdd,Nat.reduceSub,Nat.reduceMul,Nat.reduceLeDiff,Nat.reduceEqDiff,Nat.reduceGT,Nat.reduceBEq,reduceCtorEq,↓reduceIte,Int.reduceToNat,Int.reduceLE,Int.reduceLT,Int.reduceNe,Int.reduceEq,hx,e1,hr1,hlr,hl,h1,h3n];refine⟨fun _=>⟨hil,hil,?_⟩,fun h=>absurd hil h⟩;refine an (ze w0 _) ?_;rintro _ _ ⟨b2,rfl,rfl⟩;simp(maxDischargeDepth:=12) (maxSteps:=1000000) -implicitDefEqProofs only[go_sem,Nat.reduceAdd,Nat.reduceSub,Nat.reduceMul,Nat.reduceLeDiff,Nat.reduceEqDiff,Nat.reduceGT,Nat.reduceBEq,reduceCtorEq,↓reduceIte,Int.reduceToNat,Int.reduceLE,Int.reduceLT,Int.reduceNe,Int.reduceEq];have hIM:IM ⟨(b2.n,[.mp id])::(bk.n,[.mp lb])::S.box,(ln.n,.arr 3 ((lj x F i).map qo))::(r.n,.arr 1 ((cF F).map eA))::S.acc⟩ id N f:=⟨esi,ci,by simp(maxDischargeDepth:=12) (maxSteps:=1000000) -implicitDefEqProofs only[go_sem,Nat.reduceAdd,Nat.reduceSub,Nat.reduceMul,Nat.reduceLeDiff,Nat.reduceEqDiff,Nat.reduceGT,Nat.reduceBEq,reduceCtorEq,↓reduceIte,Int.reduceToNat,Int.reduceLE,Int.reduceLT,Int.reduceNe,Int.reduceEq,hr2,hl2,i1],i2,i3⟩;refine an (Cg w0 (b:=b2.n) (by simp[lk]) hIM (by omega)) ?_;rintro _ _ ⟨r2,rfl,hkf,rfl⟩;simp(maxDischargeDepth:=12) (maxSteps:=1000000) -implicitDefEqProofs only[go_sem,Nat.reduceAdd,Nat.reduceSub,Nat.reduceMul,Nat.reduceLeDiff,Nat.reduceEqDiff,Nat.reduceGT,Nat.reduceBEq,reduceCtorEq,↓reduceIte,Int.reduceToNat,Int.reduceLE,Int.reduceLT,Int.reduceNe,Int.reduceEq];have hil2:(gC x n f).length=(cF f).length:=by unfold gC;simp
   have r2l:(r2.n=ln.n)=False:=aG r2 ln.n (by simp(maxDischargeDepth:=12) (maxSteps:=1000000) -implicitDefEqProofs only[go_sem,Nat.reduceAdd,Nat.reduceSub,Nat.reduceMul,Nat.reduceLeDiff,Nat.reduceEqDiff,Nat.reduceGT,Nat.reduceBEq,reduceCtorEq,↓reduceIte,Int.reduceToNat,Int.reduceLE,Int.reduceLT,Int.reduceNe,Int.reduceEq]);have r2r:(r2.n=r.n)=False:=aG r2 r.n (by simp(maxDischargeDepth:=12) (maxSteps:=1000000) -implicitDefEqProofs only[go_sem,Nat.reduceAdd,Nat.reduceSub,Nat.reduceMul,Nat.reduceLeDiff,Nat.reduceEqDiff,Nat.reduceGT,Nat.reduceBEq,reduceCtorEq,↓reduceIte,Int.reduceToNat,Int.reduceLE,Int.reduceLT,Int.reduceNe,Int.reduceEq,hlr]);have r2l':(ln.n=r2.n)=False:=by rw[←r2l];exact propext eq_comm
   have r2r':(r.n=r2.n)=False:=by rw[←r2r];exact propext eq_comm
   have hr2S:lk S.acc r2.n=none:=by
    have q:=aj r2;simp only[lk]at q;rw[if_neg (fun e=>by rw[r2l']at e;exact e),if_neg (fun e=>by rw[r2r']at e;exact e)]at q;exact q
   have q2:(r2.n=id)=False:=eq_false fun e=>by rw[e,i1]at hr2S;cases hr2S
   have q3:(r2.n=lb)=False:=eq_false fun e=>by rw[e,h1]at hr2S;cases hr2S
   refine aY [] (cF f).length [1,5,6,8,21,22,23,34,35,36] (fun j=>[(6,.acc ln.n (lj x F i++(gC x n f).take j).length),(34,.acc r2.n (cF f).length),(35,dI (cF f).length),(36,dI j)]) (fun j=>⟨(b2.n,[.mp id])::(bk.n,[.mp lb])::S.box,(r2.n,.arr 1 ((cF f).map eA))::(ln.n,.arr 3 ((lj x F i++(gC x n f).take j).map qo))::(r.n,.arr 1 ((cF F).map eA))::S.acc⟩) (fun _=>True) mx (by kernel_rfl) ?_ ?_
   ·simp(maxDischargeDepth:=12) (maxSteps:=1000000) -implicitDefEqProofs only[go_sem,Nat.reduceAdd,Nat.reduceSub,Nat.reduceMul,Nat.reduceLeDiff,Nat.reduceEqDiff,Nat.reduceGT,Nat.reduceBEq,reduceCtorEq,↓reduceIte,Int.reduceToNat,Int.reduceLE,Int.reduceLT,Int.reduceNe,Int.reduceEq,r2l,r2r,r2l',r2r']
   ·intro j hj _;by_cases hjl:j<(cF f).length
    ·have e2:IntKind.i64.wrap ((j:Int)+1)=((j+1:Nat):Int):=aI (by omega);have hy:(cF f)[j]? =some (cF f)[j]:=Wb hjl;generalize (cF f)[j]=k at hy;obtain⟨v,hv⟩:=WJ.1 (nI (Wc hy));have i3k:=i3 k;rw[hv]at i3k;unfold kT at i3k;obtain⟨z1,z2⟩:=hz n f k v g2 hv;have het:(gC x n f)[j]? =some ⟨n++[47]++k,x,v⟩:=by unfold gC;rw[Wi,hy,WI,hv];rfl
     have hts:=xW het;have hLn:(lj x F i++(gC x n f).take j).length≤100010000:=by rw[Wp,W5];omega
     have hcat:tx n++⟨#[47]⟩++tx k=tx (n++[47]++k):=by
      refine E0 ?_;have h2:(⟨#[47]⟩:ByteArray).data.toList=[47]:=rfl;simp only[Dr,dF,h2]
     have hm8:maxLen=9223372036854775807:=rfl;simp(maxDischargeDepth:=12) (maxSteps:=1000000) -implicitDefEqProofs only[go_sem,Nat.reduceAdd,Nat.reduceSub,Nat.reduceMul,Nat.reduceLeDiff,Nat.reduceEqDiff,Nat.reduceGT,Nat.reduceBEq,reduceCtorEq,↓reduceIte,Int.reduceToNat,Int.reduceLE,Int.reduceLT,Int.reduceNe,Int.reduceEq,hy,e2,r2l,r2r,r2l',r2r',hl,h1,h3n,hr2,hl2,hr3,hl3,q2,q3,i1,i3k,dy,hcat];have hmin:min j (gC x n f).length=j:=by omega
     have hmin':min (j+1) (gC x n f).length=j+1:=by omega
     rw[hmin,hmin'];refine⟨fun _=>⟨hjl,hjl,by omega,by omega,by omega,by omega,hjl,.refl _,?_⟩,fun h=>absurd hjl h⟩;rw[hts,←XS,WD (l₁:=lj x F i++(gC x n f).take j)];exact .refl _
    ·have hjt:(gC x n f).take j=gC x n f:=WM (by omega);rw[hjt,←hks];simp(maxDischargeDepth:=12) (maxSteps:=1000000) -implicitDefEqProofs only[go_sem,Nat.reduceAdd,Nat.reduceSub,Nat.reduceMul,Nat.reduceLeDiff,Nat.reduceEqDiff,Nat.reduceGT,Nat.reduceBEq,reduceCtorEq,↓reduceIte,Int.reduceToNat,Int.reduceLE,Int.reduceLT,Int.reduceNe,Int.reduceEq,e1,r2l,r2r,r2l',r2r'];refine⟨fun h=>absurd h hjl,fun _=>⟨hil,?_⟩⟩;rw[hks,Wp,hil2,Xb];omega
  ·have hie:lj x F i=kp x F:=by unfold lj kp;rw[WM (by omega)]
   simp(maxDischargeDepth:=12) (maxSteps:=1000000) -implicitDefEqProofs only[go_sem,Nat.reduceAdd,Nat.reduceSub,Nat.reduceMul,Nat.reduceLeDiff,Nat.reduceEqDiff,Nat.reduceGT,Nat.reduceBEq,reduceCtorEq,↓reduceIte,Int.reduceToNat,Int.reduceLE,Int.reduceLT,Int.reduceNe,Int.reduceEq,hr1,hlr];refine⟨fun h=>absurd h hil,fun _=>?_⟩;rw[hie];exact .refl _
@[go_sem] def GK:DV:= .agg [dI 0,dI 0,.sl 0 true [],dI 0,dI 0,dI 0,dI 0,.sl 0 true []]
theorem MK{A B C:St}(h:Has A B)(k:Has B C):Has A C:=⟨fun c x q=>k.box c x (h.box c x q),fun c x q=>k.acc c x (h.acc c x q)⟩
theorem lV.to{w0:W0}{S T:St}{e:Int}(h:lV w0 S e)(k:Has S T):lV w0 T e:=fun U q=>h U (MK k q)
theorem Bj(w0:W0){S:St}{w m own b:Nat}{o:bI}{full:Bool}{au dr:DV}{has:Int}(hw:lk S.box w=some (qf m own o full))(hl:lk S.box own=some (kZ b au has dr))(hq:has≠o.aH→lV w0 S 35):
 aa Tryz.prog w0 72 [bd w] S (fun d S'=>has=o.aH∧d=GK∧S'=⟨up S.box own (kZ b au 0 dr),S.acc⟩):=by
 refine lU [] mx Tryz.func72 rfl rfl (by kernel_rfl) ?_;simp(maxDischargeDepth:=12) (maxSteps:=1000000) -implicitDefEqProofs only[Tryz.ntmps72,go_sem,Nat.reduceAdd,Nat.reduceSub,Nat.reduceMul,Nat.reduceLeDiff,Nat.reduceEqDiff,Nat.reduceGT,Nat.reduceBEq,reduceCtorEq,↓reduceIte,Int.reduceToNat,Int.reduceLE,Int.reduceLT,Int.reduceNe,Int.reduceEq];intro b2;have e1:=bp b2 hw;have e2:=bp b2 hl;have hH:∀ds,Has S ⟨(b2.n,ds)::S.box,S.acc⟩:=fun ds=>(Has.refl S).aP b2 ds rfl;refine an (rH w0 (w:=w) (own:=own) (m:=m) (o:=o) (full:=full) (b:=b) (au:=au) (dr:=dr) (has:=has) (by simp(maxDischargeDepth:=12) (maxSteps:=1000000) -implicitDefEqProofs only[go_sem,Nat.reduceAdd,Nat.reduceSub,Nat.reduceMul,Nat.reduceLeDiff,Nat.reduceEqDiff,Nat.reduceGT,Nat.reduceBEq,reduceCtorEq,↓reduceIte,Int.reduceToNat,Int.reduceLE,Int.reduceLT,Int.reduceNe,Int.reduceEq,e1,hw]) (by simp(maxDischargeDepth:=12) (maxSteps:=1000000) -implicitDefEqProofs only[go_sem,Nat.reduceAdd,Nat.reduceSub,Nat.reduceMul,Nat.reduceLeDiff,Nat.reduceEqDiff,Nat.reduceGT,Nat.reduceBEq,reduceCtorEq,↓reduceIte,Int.reduceToNat,Int.reduceLE,Int.reduceLT,Int.reduceNe,Int.reduceEq,e2,hl])) ?_;rintro _ _ ⟨rfl,rfl⟩;by_cases hh:has=o.aH
 ·rw[decide_eq_true hh];simp(maxDischargeDepth:=12) (maxSteps:=1000000) -implicitDefEqProofs only[go_sem,Nat.reduceAdd,Nat.reduceSub,Nat.reduceMul,Nat.reduceLeDiff,Nat.reduceEqDiff,Nat.reduceGT,Nat.reduceBEq,reduceCtorEq,↓reduceIte,Int.reduceToNat,Int.reduceLE,Int.reduceLT,Int.reduceNe,Int.reduceEq];refine an (aA w0 true 35 _ (fun h=>by cases h)) ?_;rintro _ _ ⟨_,rfl,rfl⟩;simp(maxDischargeDepth:=12) (maxSteps:=1000000) -implicitDefEqProofs only[go_sem,Nat.reduceAdd,Nat.reduceSub,Nat.reduceMul,Nat.reduceLeDiff,Nat.reduceEqDiff,Nat.reduceGT,Nat.reduceBEq,reduceCtorEq,↓reduceIte,Int.reduceToNat,Int.reduceLE,Int.reduceLT,Int.reduceNe,Int.reduceEq,e1,e2,hw,hl];exact⟨_,_,.refl _,(Sub.refl _).aP,hh,rfl,rfl⟩
 ·rw[decide_eq_false hh];simp(maxDischargeDepth:=12) (maxSteps:=1000000) -implicitDefEqProofs only[go_sem,Nat.reduceAdd,Nat.reduceSub,Nat.reduceMul,Nat.reduceLeDiff,Nat.reduceEqDiff,Nat.reduceGT,Nat.reduceBEq,reduceCtorEq,↓reduceIte,Int.reduceToNat,Int.reduceLE,Int.reduceLT,Int.reduceNe,Int.reduceEq];refine an (aA w0 false 35 _ (fun _=>(hq hh).to (hH _))) ?_;rintro _ _ ⟨q,_⟩;cases q
theorem Jp(w0:W0){S:St}{w m own b d:Nat}{o:bI}{full:Bool}{au dr:DV}{has:Int}(hw:lk S.box w=some (qf m own o full))(hl:lk S.box own=some (kZ b au has dr))(hdr:has=o.aH→dr= .mp d)(hne:(own=w)=False)(hq:has≠o.aH→lV w0 S 35):
 aa Tryz.prog w0 71 [bd w] S (fun d' S'=>has=o.aH∧d'=GK∧S'=⟨up S.box own (kZ d au 0 (.mp d)),S.acc⟩):=by
 refine lU [] mx Tryz.func71 rfl rfl (by kernel_rfl) ?_;simp(maxDischargeDepth:=12) (maxSteps:=1000000) -implicitDefEqProofs only[Tryz.ntmps71,go_sem,Nat.reduceAdd,Nat.reduceSub,Nat.reduceMul,Nat.reduceLeDiff,Nat.reduceEqDiff,Nat.reduceGT,Nat.reduceBEq,reduceCtorEq,↓reduceIte,Int.reduceToNat,Int.reduceLE,Int.reduceLT,Int.reduceNe,Int.reduceEq];intro b2;have e1:=bp b2 hw;have e2:=bp b2 hl;have hH:∀ds,Has S ⟨(b2.n,ds)::S.box,S.acc⟩:=fun ds=>(Has.refl S).aP b2 ds rfl;refine an (rH w0 (w:=w) (own:=own) (m:=m) (o:=o) (full:=full) (b:=b) (au:=au) (dr:=dr) (has:=has) (by simp(maxDischargeDepth:=12) (maxSteps:=1000000) -implicitDefEqProofs only[go_sem,Nat.reduceAdd,Nat.reduceSub,Nat.reduceMul,Nat.reduceLeDiff,Nat.reduceEqDiff,Nat.reduceGT,Nat.reduceBEq,reduceCtorEq,↓reduceIte,Int.reduceToNat,Int.reduceLE,Int.reduceLT,Int.reduceNe,Int.reduceEq,e1,hw]) (by simp(maxDischargeDepth:=12) (maxSteps:=1000000) -implicitDefEqProofs only[go_sem,Nat.reduceAdd,Nat.reduceSub,Nat.reduceMul,Nat.reduceLeDiff,Nat.reduceEqDiff,Nat.reduceGT,Nat.reduceBEq,reduceCtorEq,↓reduceIte,Int.reduceToNat,Int.reduceLE,Int.reduceLT,Int.reduceNe,Int.reduceEq,e2,hl])) ?_;rintro _ _ ⟨rfl,rfl⟩;by_cases hh:has=o.aH
 ·cases hdr hh;rw[decide_eq_true hh];simp(maxDischargeDepth:=12) (maxSteps:=1000000) -implicitDefEqProofs only[go_sem,Nat.reduceAdd,Nat.reduceSub,Nat.reduceMul,Nat.reduceLeDiff,Nat.reduceEqDiff,Nat.reduceGT,Nat.reduceBEq,reduceCtorEq,↓reduceIte,Int.reduceToNat,Int.reduceLE,Int.reduceLT,Int.reduceNe,Int.reduceEq];refine an (aA w0 true 35 _ (fun h=>by cases h)) ?_;rintro _ _ ⟨_,rfl,rfl⟩;simp(maxDischargeDepth:=12) (maxSteps:=1000000) -implicitDefEqProofs only[go_sem,Nat.reduceAdd,Nat.reduceSub,Nat.reduceMul,Nat.reduceLeDiff,Nat.reduceEqDiff,Nat.reduceGT,Nat.reduceBEq,reduceCtorEq,↓reduceIte,Int.reduceToNat,Int.reduceLE,Int.reduceLT,Int.reduceNe,Int.reduceEq,e1,e2,hw,hl,hne];exact⟨_,_,.refl _,(Sub.refl _).aP,hh,rfl,rfl⟩
 ·rw[decide_eq_false hh];simp(maxDischargeDepth:=12) (maxSteps:=1000000) -implicitDefEqProofs only[go_sem,Nat.reduceAdd,Nat.reduceSub,Nat.reduceMul,Nat.reduceLeDiff,Nat.reduceEqDiff,Nat.reduceGT,Nat.reduceBEq,reduceCtorEq,↓reduceIte,Int.reduceToNat,Int.reduceLE,Int.reduceLT,Int.reduceNe,Int.reduceEq];refine an (aA w0 false 35 _ (fun _=>(hq hh).to (hH _))) ?_;rintro _ _ ⟨q,_⟩;cases q
theorem Oc(w0:W0){S:St}{w m own b d N:Nat}{o:bI}{full:Bool}{au dr:DV}{has:Int}{ids:List UInt8→Option Nat}{F:List UInt8→Option (List UInt8→Option (List UInt8))}(hw:lk S.box w=some (qf m own o full))(hl:lk S.box own=some (kZ b au has dr))(hdr:has=o.aH→dr= .mp d∧BM S d N ids F)
 (q1:has≠o.aH→lV w0 S 35) (q2:has=o.aH→¬(o.key≠[]∧(o.key.length:Int)≤16∧o.value.length≤400)→lV w0 S 34) (q3:has=o.aH→(o.key≠[]∧(o.key.length:Int)≤16∧o.value.length≤400)→ids o.bucket=none→lV w0 S 32) (q4:has=o.aH→(o.key≠[]∧(o.key.length:Int)≤16∧o.value.length≤400)→ids o.bucket≠none→full=true→lV w0 S 37):
 aa Tryz.prog w0 75 [bd w] S (fun d' S'=>has=o.aH∧(o.key≠[]∧(o.key.length:Int)≤16∧o.value.length≤400)∧full=false∧∃i es c,ids o.bucket=some i∧lk S.acc i=some (.xo (.mp .str es c))∧d'=GK∧S'=⟨S.box,up S.acc i (.xo (.mp .str (cQ es c (kT o.key) (eA o.value)) (ec es c (kT o.key))))⟩):=by
 refine lU [3] mx Tryz.func75 rfl rfl (by kernel_rfl) ?_;simp(maxDischargeDepth:=12) (maxSteps:=1000000) -implicitDefEqProofs only[Tryz.ntmps75,go_sem,Nat.reduceAdd,Nat.reduceSub,Nat.reduceMul,Nat.reduceLeDiff,Nat.reduceEqDiff,Nat.reduceGT,Nat.reduceBEq,reduceCtorEq,↓reduceIte,Int.reduceToNat,Int.reduceLE,Int.reduceLT,Int.reduceNe,Int.reduceEq];intro b2;have e1:=bp b2 hw;have e2:=bp b2 hl;have hH:∀ds,Has S ⟨(b2.n,ds)::S.box,S.acc⟩:=fun ds=>(Has.refl S).aP b2 ds rfl;refine an (rH w0 (w:=w) (own:=own) (m:=m) (o:=o) (full:=full) (b:=b) (au:=au) (dr:=dr) (has:=has) (by simp(maxDischargeDepth:=12) (maxSteps:=1000000) -implicitDefEqProofs only[go_sem,Nat.reduceAdd,Nat.reduceSub,Nat.reduceMul,Nat.reduceLeDiff,Nat.reduceEqDiff,Nat.reduceGT,Nat.reduceBEq,reduceCtorEq,↓reduceIte,Int.reduceToNat,Int.reduceLE,Int.reduceLT,Int.reduceNe,Int.reduceEq,e1,hw]) (by simp(maxDischargeDepth:=12) (maxSteps:=1000000) -implicitDefEqProofs only[go_sem,Nat.reduceAdd,Nat.reduceSub,Nat.reduceMul,Nat.reduceLeDiff,Nat.reduceEqDiff,Nat.reduceGT,Nat.reduceBEq,reduceCtorEq,↓reduceIte,Int.reduceToNat,Int.reduceLE,Int.reduceLT,Int.reduceNe,Int.reduceEq,e2,hl])) ?_;rintro _ _ ⟨rfl,rfl⟩;by_cases hh:has=o.aH
 ·obtain⟨hdr1,hB⟩:=hdr hh;cases hdr1;rw[decide_eq_true hh];simp(maxDischargeDepth:=12) (maxSteps:=1000000) -implicitDefEqProofs only[go_sem,Nat.reduceAdd,Nat.reduceSub,Nat.reduceMul,Nat.reduceLeDiff,Nat.reduceEqDiff,Nat.reduceGT,Nat.reduceBEq,reduceCtorEq,↓reduceIte,Int.reduceToNat,Int.reduceLE,Int.reduceLT,Int.reduceNe,Int.reduceEq];refine an (aA w0 true 35 _ (fun h=>by cases h)) ?_;rintro _ _ ⟨_,rfl,rfl⟩;simp(maxDischargeDepth:=12) (maxSteps:=1000000) -implicitDefEqProofs only[go_sem,Nat.reduceAdd,Nat.reduceSub,Nat.reduceMul,Nat.reduceLeDiff,Nat.reduceEqDiff,Nat.reduceGT,Nat.reduceBEq,reduceCtorEq,↓reduceIte,Int.reduceToNat,Int.reduceLE,Int.reduceLT,Int.reduceNe,Int.reduceEq,e1,e2,hw,hl];refine aw (J2 w0 o.key 16 _) ?_;simp(maxDischargeDepth:=12) (maxSteps:=1000000) -implicitDefEqProofs only[go_sem,Nat.reduceAdd,Nat.reduceSub,Nat.reduceMul,Nat.reduceLeDiff,Nat.reduceEqDiff,Nat.reduceGT,Nat.reduceBEq,reduceCtorEq,↓reduceIte,Int.reduceToNat,Int.reduceLE,Int.reduceLT,Int.reduceNe,Int.reduceEq,e1,e2,hw,hl];by_cases hk:¬o.key=[]∧(o.key.length:Int)≤16
  ·refine⟨fun _ _=>?_,fun h=>absurd hk h⟩;by_cases hv:o.value.length≤400
   ·have hd:decide (((tx o.value).size:Int)≤400)=true:=decide_eq_true (by rw[dy];omega);rw[hd];refine an (aA w0 true 34 _ (fun h=>by cases h)) ?_;rintro _ _ ⟨_,rfl,rfl⟩;simp(maxDischargeDepth:=12) (maxSteps:=1000000) -implicitDefEqProofs only[go_sem,Nat.reduceAdd,Nat.reduceSub,Nat.reduceMul,Nat.reduceLeDiff,Nat.reduceEqDiff,Nat.reduceGT,Nat.reduceBEq,reduceCtorEq,↓reduceIte,Int.reduceToNat,Int.reduceLE,Int.reduceLT,Int.reduceNe,Int.reduceEq,e1,e2,hw,hl];refine Y.gI [] [12] [0,1,2,7,8,9,10,3,4,5,6,11,12,13] mx (by kernel_rfl) ?_;simp(maxDischargeDepth:=12) (maxSteps:=1000000) -implicitDefEqProofs only[go_sem,Nat.reduceAdd,Nat.reduceSub,Nat.reduceMul,Nat.reduceLeDiff,Nat.reduceEqDiff,Nat.reduceGT,Nat.reduceBEq,reduceCtorEq,↓reduceIte,Int.reduceToNat,Int.reduceLE,Int.reduceLT,Int.reduceNe,Int.reduceEq,e1,e2,hw,hl];have hB':BM ⟨(b2.n,[dI 0,dI 0,.sl 0 true [],dI 0,dI 0,dI 0,dI 0,.sl 0 true []])::S.box,S.acc⟩ d N ids F:=hB.mono fun c x _ hc=>hc;refine an (lp w0 hB' o.bucket fun h=>(q3 hh ⟨hk.1,hk.2,hv⟩ h).to (hH _)) ?_;rintro _ _ ⟨i,hi,rfl,rfl⟩;obtain⟨f,hf⟩:=WJ.1 (fun q=>by rw[(hB.some_ o.bucket).2 q]at hi;cases hi);obtain⟨es,c,g1,g2,g3⟩:=hB.low o.bucket i f hi hf;simp(maxDischargeDepth:=12) (maxSteps:=1000000) -implicitDefEqProofs only[go_sem,Nat.reduceAdd,Nat.reduceSub,Nat.reduceMul,Nat.reduceLeDiff,Nat.reduceEqDiff,Nat.reduceGT,Nat.reduceBEq,reduceCtorEq,↓reduceIte,Int.reduceToNat,Int.reduceLE,Int.reduceLT,Int.reduceNe,Int.reduceEq,e1,e2,hw,hl]
    cases full with
    |true=>
     simp(maxDischargeDepth:=12) (maxSteps:=1000000) -implicitDefEqProofs only[go_sem,Nat.reduceAdd,Nat.reduceSub,Nat.reduceMul,Nat.reduceLeDiff,Nat.reduceEqDiff,Nat.reduceGT,Nat.reduceBEq,reduceCtorEq,↓reduceIte,Int.reduceToNat,Int.reduceLE,Int.reduceLT,Int.reduceNe,Int.reduceEq,e1,e2,hw,hl];refine an (aA w0 false 37 _ (fun _=>(q4 hh ⟨hk.1,hk.2,hv⟩ (by rw[hi];simp) rfl).to (hH _))) ?_;rintro _ _ ⟨q,_⟩;cases q
    |false=>
     simp(maxDischargeDepth:=12) (maxSteps:=1000000) -implicitDefEqProofs only[go_sem,Nat.reduceAdd,Nat.reduceSub,Nat.reduceMul,Nat.reduceLeDiff,Nat.reduceEqDiff,Nat.reduceGT,Nat.reduceBEq,reduceCtorEq,↓reduceIte,Int.reduceToNat,Int.reduceLE,Int.reduceLT,Int.reduceNe,Int.reduceEq,e1,e2,hw,hl];refine an (aA w0 true 37 _ (fun h=>by cases h)) ?_;rintro _ _ ⟨_,rfl,rfl⟩;simp(maxDischargeDepth:=12) (maxSteps:=1000000) -implicitDefEqProofs only[go_sem,Nat.reduceAdd,Nat.reduceSub,Nat.reduceMul,Nat.reduceLeDiff,Nat.reduceEqDiff,Nat.reduceGT,Nat.reduceBEq,reduceCtorEq,↓reduceIte,Int.reduceToNat,Int.reduceLE,Int.reduceLT,Int.reduceNe,Int.reduceEq,e1,e2,hw,hl,g1];exact⟨_,_,.refl _,(Sub.refl _).aP,hh,⟨hk.1,hk.2,hv⟩,i,es,c,hi,g1,rfl,rfl⟩
   ·have hd:decide (((tx o.value).size:Int)≤400)=false:=decide_eq_false (by rw[dy];omega);rw[hd];refine an (aA w0 false 34 _ (fun _=>(q2 hh fun h=>hv h.2.2).to (hH _))) ?_;rintro _ _ ⟨q,_⟩;cases q
  ·refine⟨fun h h'=>absurd ⟨h,h'⟩ hk,fun _=>?_⟩;refine an (aA w0 false 34 _ (fun _=>(q2 hh fun h=>hk ⟨h.1,h.2.1⟩).to (hH _))) ?_;rintro _ _ ⟨q,_⟩;cases q
 ·rw[decide_eq_false hh];simp(maxDischargeDepth:=12) (maxSteps:=1000000) -implicitDefEqProofs only[go_sem,Nat.reduceAdd,Nat.reduceSub,Nat.reduceMul,Nat.reduceLeDiff,Nat.reduceEqDiff,Nat.reduceGT,Nat.reduceBEq,reduceCtorEq,↓reduceIte,Int.reduceToNat,Int.reduceLE,Int.reduceLT,Int.reduceNe,Int.reduceEq];refine an (aA w0 false 35 _ (fun _=>(q1 hh).to (hH _))) ?_;rintro _ _ ⟨q,_⟩;cases q
theorem Od(w0:W0){S:St}{w m own b d N:Nat}{o:bI}{full:Bool}{au dr:DV}{has:Int}{ids:List UInt8→Option Nat}{F:List UInt8→Option (List UInt8→Option (List UInt8))}(hw:lk S.box w=some (qf m own o full))(hl:lk S.box own=some (kZ b au has dr))(hdr:has=o.aH→dr= .mp d∧BM S d N ids F)
 (q1:has≠o.aH→lV w0 S 35) (q3:has=o.aH→ids o.bucket=none→lV w0 S 32) (q4:has=o.aH→ids o.bucket≠none→full=true→lV w0 S 37):
 aa Tryz.prog w0 74 [bd w] S (fun d' S'=>has=o.aH∧full=false∧∃i es c,ids o.bucket=some i∧lk S.acc d=some (.xo (.mp .str es c))∧d'=GK∧S'=⟨S.box,up S.acc d (.xo (.mp .str (gq es (kT o.bucket)) c))⟩):=by
 refine lU [2] mx Tryz.func74 rfl rfl (by kernel_rfl) ?_;simp(maxDischargeDepth:=12) (maxSteps:=1000000) -implicitDefEqProofs only[Tryz.ntmps74,go_sem,Nat.reduceAdd,Nat.reduceSub,Nat.reduceMul,Nat.reduceLeDiff,Nat.reduceEqDiff,Nat.reduceGT,Nat.reduceBEq,reduceCtorEq,↓reduceIte,Int.reduceToNat,Int.reduceLE,Int.reduceLT,Int.reduceNe,Int.reduceEq];intro b2;have e1:=bp b2 hw;have e2:=bp b2 hl;have hH:∀ds,Has S ⟨(b2.n,ds)::S.box,S.acc⟩:=fun ds=>(Has.refl S).aP b2 ds rfl;refine an (rH w0 (w:=w) (own:=own) (m:=m) (o:=o) (full:=full) (b:=b) (au:=au) (dr:=dr) (has:=has) (by simp(maxDischargeDepth:=12) (maxSteps:=1000000) -implicitDefEqProofs only[go_sem,Nat.reduceAdd,Nat.reduceSub,Nat.reduceMul,Nat.reduceLeDiff,Nat.reduceEqDiff,Nat.reduceGT,Nat.reduceBEq,reduceCtorEq,↓reduceIte,Int.reduceToNat,Int.reduceLE,Int.reduceLT,Int.reduceNe,Int.reduceEq,e1,hw]) (by simp(maxDischargeDepth:=12) (maxSteps:=1000000) -implicitDefEqProofs only[go_sem,Nat.reduceAdd,Nat.reduceSub,Nat.reduceMul,Nat.reduceLeDiff,Nat.reduceEqDiff,Nat.reduceGT,Nat.reduceBEq,reduceCtorEq,↓reduceIte,Int.reduceToNat,Int.reduceLE,Int.reduceLT,Int.reduceNe,Int.reduceEq,e2,hl])) ?_;rintro _ _ ⟨rfl,rfl⟩;by_cases hh:has=o.aH
 case neg=>
  rw[decide_eq_false hh];simp(maxDischargeDepth:=12) (maxSteps:=1000000) -implicitDefEqProofs only[go_sem,Nat.reduceAdd,Nat.reduceSub,Nat.reduceMul,Nat.reduceLeDiff,Nat.reduceEqDiff,Nat.reduceGT,Nat.reduceBEq,reduceCtorEq,↓reduceIte,Int.reduceToNat,Int.reduceLE,Int.reduceLT,Int.reduceNe,Int.reduceEq];refine an (aA w0 false 35 _ (fun _=>(q1 hh).to (hH _))) ?_;rintro _ _ ⟨q,_⟩;cases q
 obtain⟨hdr1,hB⟩:=hdr hh;cases hdr1;rw[decide_eq_true hh];simp(maxDischargeDepth:=12) (maxSteps:=1000000) -implicitDefEqProofs only[go_sem,Nat.reduceAdd,Nat.reduceSub,Nat.reduceMul,Nat.reduceLeDiff,Nat.reduceEqDiff,Nat.reduceGT,Nat.reduceBEq,reduceCtorEq,↓reduceIte,Int.reduceToNat,Int.reduceLE,Int.reduceLT,Int.reduceNe,Int.reduceEq];refine an (aA w0 true 35 _ (fun h=>by cases h)) ?_;rintro _ _ ⟨_,rfl,rfl⟩;simp(maxDischargeDepth:=12) (maxSteps:=1000000) -implicitDefEqProofs only[go_sem,Nat.reduceAdd,Nat.reduceSub,Nat.reduceMul,Nat.reduceLeDiff,Nat.reduceEqDiff,Nat.reduceGT,Nat.reduceBEq,reduceCtorEq,↓reduceIte,Int.reduceToNat,Int.reduceLE,Int.reduceLT,Int.reduceNe,Int.reduceEq,e1,e2,hw,hl];refine Y.gI [] [12] [0,1,2,7,8,9,10,3,4,5,6,11,12] mx (by kernel_rfl) ?_;simp(maxDischargeDepth:=12) (maxSteps:=1000000) -implicitDefEqProofs only[go_sem,Nat.reduceAdd,Nat.reduceSub,Nat.reduceMul,Nat.reduceLeDiff,Nat.reduceEqDiff,Nat.reduceGT,Nat.reduceBEq,reduceCtorEq,↓reduceIte,Int.reduceToNat,Int.reduceLE,Int.reduceLT,Int.reduceNe,Int.reduceEq,e1,e2,hw,hl];have hB':BM ⟨(b2.n,[dI 0,dI 0,.sl 0 true [],dI 0,dI 0,dI 0,dI 0,.sl 0 true []])::S.box,S.acc⟩ d N ids F:=hB.mono fun c x _ hc=>hc;refine an (lp w0 hB' o.bucket fun h=>(q3 hh h).to (hH _)) ?_;rintro _ _ ⟨i,hi,rfl,rfl⟩;obtain⟨f,hf⟩:=WJ.1 (fun q=>by rw[(hB.some_ o.bucket).2 q]at hi;cases hi);obtain⟨es,c,g1,g2,g3⟩:=hB.low o.bucket i f hi hf;obtain⟨et,ct,t1,t2,t3⟩:=hB.top;simp(maxDischargeDepth:=12) (maxSteps:=1000000) -implicitDefEqProofs only[go_sem,Nat.reduceAdd,Nat.reduceSub,Nat.reduceMul,Nat.reduceLeDiff,Nat.reduceEqDiff,Nat.reduceGT,Nat.reduceBEq,reduceCtorEq,↓reduceIte,Int.reduceToNat,Int.reduceLE,Int.reduceLT,Int.reduceNe,Int.reduceEq,e1,e2,hw,hl,t1]
 cases full with
 |true=>
  simp(maxDischargeDepth:=12) (maxSteps:=1000000) -implicitDefEqProofs only[go_sem,Nat.reduceAdd,Nat.reduceSub,Nat.reduceMul,Nat.reduceLeDiff,Nat.reduceEqDiff,Nat.reduceGT,Nat.reduceBEq,reduceCtorEq,↓reduceIte,Int.reduceToNat,Int.reduceLE,Int.reduceLT,Int.reduceNe,Int.reduceEq,e1,e2,hw,hl,t1];refine an (aA w0 false 37 _ (fun _=>(q4 hh (by rw[hi];simp) rfl).to (hH _))) ?_;rintro _ _ ⟨q,_⟩;cases q
 |false=>
  simp(maxDischargeDepth:=12) (maxSteps:=1000000) -implicitDefEqProofs only[go_sem,Nat.reduceAdd,Nat.reduceSub,Nat.reduceMul,Nat.reduceLeDiff,Nat.reduceEqDiff,Nat.reduceGT,Nat.reduceBEq,reduceCtorEq,↓reduceIte,Int.reduceToNat,Int.reduceLE,Int.reduceLT,Int.reduceNe,Int.reduceEq,e1,e2,hw,hl,t1];refine an (aA w0 true 37 _ (fun h=>by cases h)) ?_;rintro _ _ ⟨_,rfl,rfl⟩;simp(maxDischargeDepth:=12) (maxSteps:=1000000) -implicitDefEqProofs only[go_sem,Nat.reduceAdd,Nat.reduceSub,Nat.reduceMul,Nat.reduceLeDiff,Nat.reduceEqDiff,Nat.reduceGT,Nat.reduceBEq,reduceCtorEq,↓reduceIte,Int.reduceToNat,Int.reduceLE,Int.reduceLT,Int.reduceNe,Int.reduceEq,e1,e2,hw,hl,t1];exact⟨_,_,.refl _,(Sub.refl _).aP,hh,i,et,ct,hi,rfl,rfl,rfl⟩
theorem G1(w0:W0){S:St}{w m own b d N:Nat}{o:bI}{full:Bool}{au dr:DV}{has:Int}{ids:List UInt8→Option Nat}{F:List UInt8→Option (List UInt8→Option (List UInt8))}(hw:lk S.box w=some (qf m own o full))(hl:lk S.box own=some (kZ b au has dr))(hdr:has=o.aH→dr= .mp d∧BM S d N ids F)
 (q1:has≠o.aH→lV w0 S 35) (q3:has=o.aH→ids o.bucket=none→lV w0 S 32) (q5:has=o.aH→∀f,F o.bucket=some f→f o.key=none→lV w0 S 33) (q4:has=o.aH→∀f v,F o.bucket=some f→f o.key=some v→full=true→lV w0 S 37):
 aa Tryz.prog w0 76 [bd w] S (fun d' S'=>has=o.aH∧full=false∧∃i es c f v,ids o.bucket=some i∧F o.bucket=some f∧f o.key=some v∧lk S.acc i=some (.xo (.mp .str es c))∧d'=GK∧S'=⟨S.box,up S.acc i (.xo (.mp .str (gq es (kT o.key)) c))⟩):=by
 refine lU [2] mx Tryz.func76 rfl rfl (by kernel_rfl) ?_;simp(maxDischargeDepth:=12) (maxSteps:=1000000) -implicitDefEqProofs only[Tryz.ntmps76,go_sem,Nat.reduceAdd,Nat.reduceSub,Nat.reduceMul,Nat.reduceLeDiff,Nat.reduceEqDiff,Nat.reduceGT,Nat.reduceBEq,reduceCtorEq,↓reduceIte,Int.reduceToNat,Int.reduceLE,Int.reduceLT,Int.reduceNe,Int.reduceEq];intro b2;have e1:=bp b2 hw;have e2:=bp b2 hl;have hH:∀ds,Has S ⟨(b2.n,ds)::S.box,S.acc⟩:=fun ds=>(Has.refl S).aP b2 ds rfl;refine an (rH w0 (w:=w) (own:=own) (m:=m) (o:=o) (full:=full) (b:=b) (au:=au) (dr:=dr) (has:=has) (by simp(maxDischargeDepth:=12) (maxSteps:=1000000) -implicitDefEqProofs only[go_sem,Nat.reduceAdd,Nat.reduceSub,Nat.reduceMul,Nat.reduceLeDiff,Nat.reduceEqDiff,Nat.reduceGT,Nat.reduceBEq,reduceCtorEq,↓reduceIte,Int.reduceToNat,Int.reduceLE,Int.reduceLT,Int.reduceNe,Int.reduceEq,e1,hw]) (by simp(maxDischargeDepth:=12) (maxSteps:=1000000) -implicitDefEqProofs only[go_sem,Nat.reduceAdd,Nat.reduceSub,Nat.reduceMul,Nat.reduceLeDiff,Nat.reduceEqDiff,Nat.reduceGT,Nat.reduceBEq,reduceCtorEq,↓reduceIte,Int.reduceToNat,Int.reduceLE,Int.reduceLT,Int.reduceNe,Int.reduceEq,e2,hl])) ?_;rintro _ _ ⟨rfl,rfl⟩;by_cases hh:has=o.aH
 case neg=>
  rw[decide_eq_false hh];simp(maxDischargeDepth:=12) (maxSteps:=1000000) -implicitDefEqProofs only[go_sem,Nat.reduceAdd,Nat.reduceSub,Nat.reduceMul,Nat.reduceLeDiff,Nat.reduceEqDiff,Nat.reduceGT,Nat.reduceBEq,reduceCtorEq,↓reduceIte,Int.reduceToNat,Int.reduceLE,Int.reduceLT,Int.reduceNe,Int.reduceEq];refine an (aA w0 false 35 _ (fun _=>(q1 hh).to (hH _))) ?_;rintro _ _ ⟨q,_⟩;cases q
 obtain⟨hdr1,hB⟩:=hdr hh;cases hdr1;rw[decide_eq_true hh];simp(maxDischargeDepth:=12) (maxSteps:=1000000) -implicitDefEqProofs only[go_sem,Nat.reduceAdd,Nat.reduceSub,Nat.reduceMul,Nat.reduceLeDiff,Nat.reduceEqDiff,Nat.reduceGT,Nat.reduceBEq,reduceCtorEq,↓reduceIte,Int.reduceToNat,Int.reduceLE,Int.reduceLT,Int.reduceNe,Int.reduceEq];refine an (aA w0 true 35 _ (fun h=>by cases h)) ?_;rintro _ _ ⟨_,rfl,rfl⟩;simp(maxDischargeDepth:=12) (maxSteps:=1000000) -implicitDefEqProofs only[go_sem,Nat.reduceAdd,Nat.reduceSub,Nat.reduceMul,Nat.reduceLeDiff,Nat.reduceEqDiff,Nat.reduceGT,Nat.reduceBEq,reduceCtorEq,↓reduceIte,Int.reduceToNat,Int.reduceLE,Int.reduceLT,Int.reduceNe,Int.reduceEq,e1,e2,hw,hl];refine Y.gI [] [12] [0,1,2,7,8,9,10,3,4,5,6,11,12,13] mx (by kernel_rfl) ?_;simp(maxDischargeDepth:=12) (maxSteps:=1000000) -implicitDefEqProofs only[go_sem,Nat.reduceAdd,Nat.reduceSub,Nat.reduceMul,Nat.reduceLeDiff,Nat.reduceEqDiff,Nat.reduceGT,Nat.reduceBEq,reduceCtorEq,↓reduceIte,Int.reduceToNat,Int.reduceLE,Int.reduceLT,Int.reduceNe,Int.reduceEq,e1,e2,hw,hl];have hB':BM ⟨(b2.n,[dI 0,dI 0,.sl 0 true [],dI 0,dI 0,dI 0,dI 0,.sl 0 true []])::S.box,S.acc⟩ d N ids F:=hB.mono fun c x _ hc=>hc;refine an (lp w0 hB' o.bucket fun h=>(q3 hh h).to (hH _)) ?_;rintro _ _ ⟨i,hi,rfl,rfl⟩;obtain⟨f,hf⟩:=WJ.1 (fun q=>by rw[(hB.some_ o.bucket).2 q]at hi;cases hi);obtain⟨es,c,g1,g2,g3⟩:=hB.low o.bucket i f hi hf;have g3k:=g3 o.key;unfold kT at g3k
 cases hv:f o.key with
 |none=>
  rw[hv]at g3k;simp(maxDischargeDepth:=12) (maxSteps:=1000000) -implicitDefEqProofs only[go_sem,Nat.reduceAdd,Nat.reduceSub,Nat.reduceMul,Nat.reduceLeDiff,Nat.reduceEqDiff,Nat.reduceGT,Nat.reduceBEq,reduceCtorEq,↓reduceIte,Int.reduceToNat,Int.reduceLE,Int.reduceLT,Int.reduceNe,Int.reduceEq,e1,e2,hw,hl,g1,g3k];refine an (aA w0 false 33 _ (fun _=>(q5 hh f hf hv).to (hH _))) ?_;rintro _ _ ⟨q,_⟩;cases q
 |some v=>
 rw[hv]at g3k;simp(maxDischargeDepth:=12) (maxSteps:=1000000) -implicitDefEqProofs only[go_sem,Nat.reduceAdd,Nat.reduceSub,Nat.reduceMul,Nat.reduceLeDiff,Nat.reduceEqDiff,Nat.reduceGT,Nat.reduceBEq,reduceCtorEq,↓reduceIte,Int.reduceToNat,Int.reduceLE,Int.reduceLT,Int.reduceNe,Int.reduceEq,e1,e2,hw,hl,g1,g3k];refine an (aA w0 true 33 _ (fun h=>by cases h)) ?_;rintro _ _ ⟨_,rfl,rfl⟩;simp(maxDischargeDepth:=12) (maxSteps:=1000000) -implicitDefEqProofs only[go_sem,Nat.reduceAdd,Nat.reduceSub,Nat.reduceMul,Nat.reduceLeDiff,Nat.reduceEqDiff,Nat.reduceGT,Nat.reduceBEq,reduceCtorEq,↓reduceIte,Int.reduceToNat,Int.reduceLE,Int.reduceLT,Int.reduceNe,Int.reduceEq,e1,e2,hw,hl,g1,g3k]
 cases full with
 |true=>
  simp(maxDischargeDepth:=12) (maxSteps:=1000000) -implicitDefEqProofs only[go_sem,Nat.reduceAdd,Nat.reduceSub,Nat.reduceMul,Nat.reduceLeDiff,Nat.reduceEqDiff,Nat.reduceGT,Nat.reduceBEq,reduceCtorEq,↓reduceIte,Int.reduceToNat,Int.reduceLE,Int.reduceLT,Int.reduceNe,Int.reduceEq,e1,e2,hw,hl,g1,g3k];refine an (aA w0 false 37 _ (fun _=>(q4 hh f v hf hv rfl).to (hH _))) ?_;rintro _ _ ⟨q,_⟩;cases q
 |false=>
  simp(maxDischargeDepth:=12) (maxSteps:=1000000) -implicitDefEqProofs only[go_sem,Nat.reduceAdd,Nat.reduceSub,Nat.reduceMul,Nat.reduceLeDiff,Nat.reduceEqDiff,Nat.reduceGT,Nat.reduceBEq,reduceCtorEq,↓reduceIte,Int.reduceToNat,Int.reduceLE,Int.reduceLT,Int.reduceNe,Int.reduceEq,e1,e2,hw,hl,g1,g3k];refine an (aA w0 true 37 _ (fun h=>by cases h)) ?_;rintro _ _ ⟨_,rfl,rfl⟩;simp(maxDischargeDepth:=12) (maxSteps:=1000000) -implicitDefEqProofs only[go_sem,Nat.reduceAdd,Nat.reduceSub,Nat.reduceMul,Nat.reduceLeDiff,Nat.reduceEqDiff,Nat.reduceGT,Nat.reduceBEq,reduceCtorEq,↓reduceIte,Int.reduceToNat,Int.reduceLE,Int.reduceLT,Int.reduceNe,Int.reduceEq,e1,e2,hw,hl,g1,g3k];exact⟨_,_,.refl _,(Sub.refl _).aP,hh,i,es,c,f,v,hi,hf,hv,g1,rfl,rfl⟩
theorem O7(w0:W0){S:St}{w m own b d N:Nat}{o:bI}{full:Bool}{au dr:DV}{has:Int}{ids:List UInt8→Option Nat}{F:List UInt8→Option (List UInt8→Option (List UInt8))}(hw:lk S.box w=some (qf m own o full))(hl:lk S.box own=some (kZ b au has dr))(hdr:has=o.aH→dr= .mp d∧BM S d N ids F)
 (q1:has≠o.aH→lV w0 S 35) (q2:has=o.aH→¬(o.bucket≠[]∧(o.bucket.length:Int)≤15)→lV w0 S 34) (q3:has=o.aH→(o.bucket≠[]∧(o.bucket.length:Int)≤15)→ids o.bucket≠none→lV w0 S 38) (q4:has=o.aH→(o.bucket≠[]∧(o.bucket.length:Int)≤15)→ids o.bucket=none→full=true→lV w0 S 37):
 aa Tryz.prog w0 73 [bd w] S (fun d' S'=>has=o.aH∧(o.bucket≠[]∧(o.bucket.length:Int)≤15)∧full=false∧ids o.bucket=none∧∃(l:FN S.acc) (es:List (Value×DV×Nat)) (c:Nat),lk S.acc d=some (.xo (.mp .str es c))∧d'=GK∧S'=⟨S.box,(l.n,.xo (.mp .str [] 0))::up S.acc d (.xo (.mp .str (cQ es c (kT o.bucket) (.mp l.n)) (ec es c (kT o.bucket))))⟩):=by
 refine lU [6] mx Tryz.func73 rfl rfl (by kernel_rfl) ?_;simp(maxDischargeDepth:=12) (maxSteps:=1000000) -implicitDefEqProofs only[Tryz.ntmps73,go_sem,Nat.reduceAdd,Nat.reduceSub,Nat.reduceMul,Nat.reduceLeDiff,Nat.reduceEqDiff,Nat.reduceGT,Nat.reduceBEq,reduceCtorEq,↓reduceIte,Int.reduceToNat,Int.reduceLE,Int.reduceLT,Int.reduceNe,Int.reduceEq];intro b2;have e1:=bp b2 hw;have e2:=bp b2 hl;have hH:∀ds,Has S ⟨(b2.n,ds)::S.box,S.acc⟩:=fun ds=>(Has.refl S).aP b2 ds rfl;refine an (rH w0 (w:=w) (own:=own) (m:=m) (o:=o) (full:=full) (b:=b) (au:=au) (dr:=dr) (has:=has) (by simp(maxDischargeDepth:=12) (maxSteps:=1000000) -implicitDefEqProofs only[go_sem,Nat.reduceAdd,Nat.reduceSub,Nat.reduceMul,Nat.reduceLeDiff,Nat.reduceEqDiff,Nat.reduceGT,Nat.reduceBEq,reduceCtorEq,↓reduceIte,Int.reduceToNat,Int.reduceLE,Int.reduceLT,Int.reduceNe,Int.reduceEq,e1,hw]) (by simp(maxDischargeDepth:=12) (maxSteps:=1000000) -implicitDefEqProofs only[go_sem,Nat.reduceAdd,Nat.reduceSub,Nat.reduceMul,Nat.reduceLeDiff,Nat.reduceEqDiff,Nat.reduceGT,Nat.reduceBEq,reduceCtorEq,↓reduceIte,Int.reduceToNat,Int.reduceLE,Int.reduceLT,Int.reduceNe,Int.reduceEq,e2,hl])) ?_;rintro _ _ ⟨rfl,rfl⟩;by_cases hh:has=o.aH
 case neg=>
  rw[decide_eq_false hh];simp(maxDischargeDepth:=12) (maxSteps:=1000000) -implicitDefEqProofs only[go_sem,Nat.reduceAdd,Nat.reduceSub,Nat.reduceMul,Nat.reduceLeDiff,Nat.reduceEqDiff,Nat.reduceGT,Nat.reduceBEq,reduceCtorEq,↓reduceIte,Int.reduceToNat,Int.reduceLE,Int.reduceLT,Int.reduceNe,Int.reduceEq];refine an (aA w0 false 35 _ (fun _=>(q1 hh).to (hH _))) ?_;rintro _ _ ⟨q,_⟩;cases q
 obtain⟨hdr1,hB⟩:=hdr hh;cases hdr1;rw[decide_eq_true hh];simp(maxDischargeDepth:=12) (maxSteps:=1000000) -implicitDefEqProofs only[go_sem,Nat.reduceAdd,Nat.reduceSub,Nat.reduceMul,Nat.reduceLeDiff,Nat.reduceEqDiff,Nat.reduceGT,Nat.reduceBEq,reduceCtorEq,↓reduceIte,Int.reduceToNat,Int.reduceLE,Int.reduceLT,Int.reduceNe,Int.reduceEq];refine an (aA w0 true 35 _ (fun h=>by cases h)) ?_;rintro _ _ ⟨_,rfl,rfl⟩;simp(maxDischargeDepth:=12) (maxSteps:=1000000) -implicitDefEqProofs only[go_sem,Nat.reduceAdd,Nat.reduceSub,Nat.reduceMul,Nat.reduceLeDiff,Nat.reduceEqDiff,Nat.reduceGT,Nat.reduceBEq,reduceCtorEq,↓reduceIte,Int.reduceToNat,Int.reduceLE,Int.reduceLT,Int.reduceNe,Int.reduceEq,e1,e2,hw,hl];refine aw (J2 w0 o.bucket 15 _) ?_;by_cases hk:o.bucket≠[]∧(o.bucket.length:Int)≤15
 case neg=>
  rw[decide_eq_false hk];simp(maxDischargeDepth:=12) (maxSteps:=1000000) -implicitDefEqProofs only[go_sem,Nat.reduceAdd,Nat.reduceSub,Nat.reduceMul,Nat.reduceLeDiff,Nat.reduceEqDiff,Nat.reduceGT,Nat.reduceBEq,reduceCtorEq,↓reduceIte,Int.reduceToNat,Int.reduceLE,Int.reduceLT,Int.reduceNe,Int.reduceEq];refine an (aA w0 false 34 _ (fun _=>(q2 hh hk).to (hH _))) ?_;rintro _ _ ⟨q,_⟩;cases q
 rw[decide_eq_true hk];simp(maxDischargeDepth:=12) (maxSteps:=1000000) -implicitDefEqProofs only[go_sem,Nat.reduceAdd,Nat.reduceSub,Nat.reduceMul,Nat.reduceLeDiff,Nat.reduceEqDiff,Nat.reduceGT,Nat.reduceBEq,reduceCtorEq,↓reduceIte,Int.reduceToNat,Int.reduceLE,Int.reduceLT,Int.reduceNe,Int.reduceEq];refine an (aA w0 true 34 _ (fun h=>by cases h)) ?_;rintro _ _ ⟨_,rfl,rfl⟩;obtain⟨et,ct,t1,t2,t3⟩:=hB.top;have t3n:=t3 o.bucket;unfold kT at t3n
 cases hi:ids o.bucket with
 |some i=>
  rw[hi]at t3n;simp(maxDischargeDepth:=12) (maxSteps:=1000000) -implicitDefEqProofs only[go_sem,Nat.reduceAdd,Nat.reduceSub,Nat.reduceMul,Nat.reduceLeDiff,Nat.reduceEqDiff,Nat.reduceGT,Nat.reduceBEq,reduceCtorEq,↓reduceIte,Int.reduceToNat,Int.reduceLE,Int.reduceLT,Int.reduceNe,Int.reduceEq,e1,e2,hw,hl,t1,t3n];refine an (aA w0 false 38 _ (fun _=>(q3 hh hk (by rw[hi];simp)).to (hH _))) ?_;rintro _ _ ⟨q,_⟩;cases q
 |none=>
 rw[hi]at t3n;simp(maxDischargeDepth:=12) (maxSteps:=1000000) -implicitDefEqProofs only[go_sem,Nat.reduceAdd,Nat.reduceSub,Nat.reduceMul,Nat.reduceLeDiff,Nat.reduceEqDiff,Nat.reduceGT,Nat.reduceBEq,reduceCtorEq,↓reduceIte,Int.reduceToNat,Int.reduceLE,Int.reduceLT,Int.reduceNe,Int.reduceEq,e1,e2,hw,hl,t1,t3n];refine an (aA w0 true 38 _ (fun h=>by cases h)) ?_;rintro _ _ ⟨_,rfl,rfl⟩
 cases full with
 |true=>
  simp(maxDischargeDepth:=12) (maxSteps:=1000000) -implicitDefEqProofs only[go_sem,Nat.reduceAdd,Nat.reduceSub,Nat.reduceMul,Nat.reduceLeDiff,Nat.reduceEqDiff,Nat.reduceGT,Nat.reduceBEq,reduceCtorEq,↓reduceIte,Int.reduceToNat,Int.reduceLE,Int.reduceLT,Int.reduceNe,Int.reduceEq,e1,e2,hw,hl];refine an (aA w0 false 37 _ (fun _=>(q4 hh hk hi rfl).to (hH _))) ?_;rintro _ _ ⟨q,_⟩;cases q
 |false=>
  simp(maxDischargeDepth:=12) (maxSteps:=1000000) -implicitDefEqProofs only[go_sem,Nat.reduceAdd,Nat.reduceSub,Nat.reduceMul,Nat.reduceLeDiff,Nat.reduceEqDiff,Nat.reduceGT,Nat.reduceBEq,reduceCtorEq,↓reduceIte,Int.reduceToNat,Int.reduceLE,Int.reduceLT,Int.reduceNe,Int.reduceEq,e1,e2,hw,hl];refine an (aA w0 true 37 _ (fun h=>by cases h)) ?_;rintro _ _ ⟨_,rfl,rfl⟩;simp(maxDischargeDepth:=12) (maxSteps:=1000000) -implicitDefEqProofs only[go_sem,Nat.reduceAdd,Nat.reduceSub,Nat.reduceMul,Nat.reduceLeDiff,Nat.reduceEqDiff,Nat.reduceGT,Nat.reduceBEq,reduceCtorEq,↓reduceIte,Int.reduceToNat,Int.reduceLE,Int.reduceLT,Int.reduceNe,Int.reduceEq,e1,e2,hw,hl];refine Y.gI [12] [13] [0,1,2,7,8,9,10,3,4,5,6,11,12,13] mx (by kernel_rfl) ?_;simp(maxDischargeDepth:=12) (maxSteps:=1000000) -implicitDefEqProofs only[go_sem,Nat.reduceAdd,Nat.reduceSub,Nat.reduceMul,Nat.reduceLeDiff,Nat.reduceEqDiff,Nat.reduceGT,Nat.reduceBEq,reduceCtorEq,↓reduceIte,Int.reduceToNat,Int.reduceLE,Int.reduceLT,Int.reduceNe,Int.reduceEq,e1,e2,hw,hl,t1];exact fun l=>⟨_,_,.refl _,(Sub.refl _).aP,hh,hk,l,et,ct,rfl,rfl,rfl⟩
theorem Mt(w0:W0){S:St}{w m own b N:Nat}{o:bI}{full:Bool}{au dr:DV}{has:Int}{ids:List UInt8→Option Nat}{F:List UInt8→Option (List UInt8→Option (List UInt8))}(hw:lk S.box w=some (qf m own o full))(hl:lk S.box own=some (kZ b au has dr))(hne:(own=w)=False)(hB:BM S b N ids F)(hN:N≤1048576)
 (q1:has≠0→lV w0 S 36):
 aa Tryz.prog w0 70 [bd w] S (fun d' S'=>has=0∧∃l ids',d'=GK∧BM S' l N ids' F∧S'.box=up S.box own (kZ b au o.aH (.mp l))∧(∀c x,lk S.acc c=some x→lk S'.acc c=some x)∧lk S.acc l=none∧∀n i,ids' n=some i→lk S.acc i=none):=by
 refine lU [2] mx Tryz.func70 rfl rfl (by kernel_rfl) ?_;simp(maxDischargeDepth:=12) (maxSteps:=1000000) -implicitDefEqProofs only[Tryz.ntmps70,go_sem,Nat.reduceAdd,Nat.reduceSub,Nat.reduceMul,Nat.reduceLeDiff,Nat.reduceEqDiff,Nat.reduceGT,Nat.reduceBEq,reduceCtorEq,↓reduceIte,Int.reduceToNat,Int.reduceLE,Int.reduceLT,Int.reduceNe,Int.reduceEq];intro b2;have e1:=bp b2 hw;have e2:=bp b2 hl;have hH:∀ds,Has S ⟨(b2.n,ds)::S.box,S.acc⟩:=fun ds=>(Has.refl S).aP b2 ds rfl;simp(maxDischargeDepth:=12) (maxSteps:=1000000) -implicitDefEqProofs only[go_sem,Nat.reduceAdd,Nat.reduceSub,Nat.reduceMul,Nat.reduceLeDiff,Nat.reduceEqDiff,Nat.reduceGT,Nat.reduceBEq,reduceCtorEq,↓reduceIte,Int.reduceToNat,Int.reduceLE,Int.reduceLT,Int.reduceNe,Int.reduceEq,e1,e2,hw,hl];by_cases h0:has=0
 case neg=>
  rw[decide_eq_false h0];refine an (aA w0 false 36 _ (fun _=>(q1 h0).to (hH _))) ?_;rintro _ _ ⟨q,_⟩;cases q
 rw[decide_eq_true h0];refine an (aA w0 true 36 _ (fun h=>by cases h)) ?_;rintro _ _ ⟨_,rfl,rfl⟩;simp(maxDischargeDepth:=12) (maxSteps:=1000000) -implicitDefEqProofs only[go_sem,Nat.reduceAdd,Nat.reduceSub,Nat.reduceMul,Nat.reduceLeDiff,Nat.reduceEqDiff,Nat.reduceGT,Nat.reduceBEq,reduceCtorEq,↓reduceIte,Int.reduceToNat,Int.reduceLE,Int.reduceLT,Int.reduceNe,Int.reduceEq,e1,e2,hw,hl];have hB':BM ⟨(b2.n,[dI 0,dI 0,.sl 0 true [],dI 0,dI 0,dI 0,dI 0,.sl 0 true []])::S.box,S.acc⟩ b N ids F:=hB.mono fun c x _ hc=>hc;refine Y.gI [20] [23,26] [0,1,2,4,5,6,8,9,10,11,13,14,15,3,7,12,16,17,18,19,20,21,22,23,24,25,26] mx (by kernel_rfl) ?_;simp(maxDischargeDepth:=12) (maxSteps:=1000000) -implicitDefEqProofs only[go_sem,Nat.reduceAdd,Nat.reduceSub,Nat.reduceMul,Nat.reduceLeDiff,Nat.reduceEqDiff,Nat.reduceGT,Nat.reduceBEq,reduceCtorEq,↓reduceIte,Int.reduceToNat,Int.reduceLE,Int.reduceLT,Int.reduceNe,Int.reduceEq,e1,e2,hw,hl];refine an (Ga w0 hB' hN) ?_;rintro _ T ⟨l,ids',rfl,hB2,hbx,hac,hl0,hid⟩;obtain⟨Tb,Ta⟩:=T;simp only at hbx;subst hbx;simp(maxDischargeDepth:=12) (maxSteps:=1000000) -implicitDefEqProofs only[go_sem,Nat.reduceAdd,Nat.reduceSub,Nat.reduceMul,Nat.reduceLeDiff,Nat.reduceEqDiff,Nat.reduceGT,Nat.reduceBEq,reduceCtorEq,↓reduceIte,Int.reduceToNat,Int.reduceLE,Int.reduceLT,Int.reduceNe,Int.reduceEq,e1,e2,hw,hl,hne];exact⟨⟨fun _ _ h=>h,hac⟩,_,⟨_,Ta⟩,.refl _,(Sub.refl _).aP,h0,l,ids',rfl,hB2.mono fun c x _ hc=>hc,rfl,hac,hl0,hid⟩
abbrev iN:=List UInt8→Option (List UInt8→Option (List UInt8))
theorem IM.le{S:St}{l N M:Nat}{f:List UInt8→Option (List UInt8)}(h:IM S l N f)(k:N≤M):IM S l M f:=by
 obtain⟨es,c,h1,h2,h3⟩:=h;exact⟨es,c,h1,by omega,h3⟩
theorem D6{S:St}{l N:Nat}{f:List UInt8→Option (List UInt8)}(h:IM S l N f){es:List (Value×DV×Nat)}{c:Nat}(g:lk S.acc l=some (.xo (.mp .str es c))):es.length≤N∧∀k,aJ es (kT k)=(f k).map eA:=by
 obtain⟨es',c',h1,h2,h3⟩:=h;rw[g]at h1;cases h1;exact⟨h2,h3⟩
theorem Eo{S:St}{l N:Nat}{ids:List UInt8→Option Nat}{F:iN}(h:BM S l N ids F){es:List (Value×DV×Nat)}{c:Nat}(g:lk S.acc l=some (.xo (.mp .str es c))):es.length≤N∧∀k,aJ es (kT k)=(ids k).map DV.mp:=by
 obtain⟨es',c',h1,h2,h3⟩:=h.top;rw[g]at h1;cases h1;exact⟨h2,h3⟩
def eY(F:iN)(n:List UInt8)(f:List UInt8→Option (List UInt8)):iN:=fun m=>if m=n then some f else F m
theorem Ch{S:St}{d N M:Nat}{ids:List UInt8→Option Nat}{F:iN}(h:BM S d N ids F)(hNM:N≤M){n:List UInt8}{i:Nat}(hi:ids n=some i){o:Ob}{f:List UInt8→Option (List UInt8)}(hn:IM ⟨S.box,up S.acc i o⟩ i M f):BM ⟨S.box,up S.acc i o⟩ d M ids (eY F n f) where
 top:=by
  obtain⟨es,c,h1,h2,h3⟩:=h.top;exact⟨es,c,by show lk (up S.acc i o) d=_;rw[ab (h.ne n i hi)];exact h1,by omega,h3⟩
 some_:=fun m=>by
  unfold eY;by_cases e:m=n
  ·rw[if_pos e,e,hi];simp
  ·rw[if_neg e];exact h.some_ m
 low:=fun m j g q1 q2=>by
  unfold eY at q2;by_cases e:m=n
  ·rw[if_pos e]at q2;cases q2;rw[e,hi]at q1;cases q1;exact hn
  ·rw[if_neg e]at q2;refine((h.low m j g q1 q2).mono fun x hx=>?_).le hNM;show lk (up S.acc i o) j=_;rw[ab (fun q=>e (h.inj m n i (by rw[q1,q]) hi))];exact hx
 inj:=h.inj
 ne:=h.ne
theorem sS{S:St}{i:Nat}{x o:Ob}(g:lk S.acc i=some x):lk (up S.acc i o) i=some o:=by rw[aC,g];rfl
theorem Dl{S:St}{d N:Nat}{ids:List UInt8→Option Nat}{F:iN}(h:BM S d N ids F){n:List UInt8}{i:Nat}(hi:ids n=some i){f:List UInt8→Option (List UInt8)}(hf:F n=some f){es:List (Value×DV×Nat)}{c:Nat}(g:lk S.acc i=some (.xo (.mp .str es c)))(k v:List UInt8):
 BM ⟨S.box,up S.acc i (.xo (.mp .str (cQ es c (kT k) (eA v)) (ec es c (kT k))))⟩ d (N+1) ids (eY F n fun j=>if j=k then some v else f j):=by
 obtain⟨g1,g2⟩:=D6 (h.low n i f hi hf) g;refine Ch h (by omega) hi ⟨_,_,sS g,?_,fun j=>?_⟩
 ·have:=pj es c (kT k) (eA v);omega
 ·dsimp only;by_cases e:j=k
  ·rw[if_pos e,e,aX];rfl
  ·rw[if_neg e,bS _ _ (fun q=>e (dA q)),g2]
theorem uR(es:List (Value×DV×Nat))(k:Value):(gq es k).length≤es.length:=by
 unfold gq;exact List.length_filter_le _ _
theorem A6{S:St}{d N:Nat}{ids:List UInt8→Option Nat}{F:iN}(h:BM S d N ids F){n:List UInt8}{i:Nat}(hi:ids n=some i){f:List UInt8→Option (List UInt8)}(hf:F n=some f){es:List (Value×DV×Nat)}{c:Nat}(g:lk S.acc i=some (.xo (.mp .str es c)))(k:List UInt8):
 BM ⟨S.box,up S.acc i (.xo (.mp .str (gq es (kT k)) c))⟩ d N ids (eY F n fun j=>if j=k then none else f j):=by
 obtain⟨g1,g2⟩:=D6 (h.low n i f hi hf) g;refine Ch h (Wg _) hi ⟨_,_,sS g,?_,fun j=>?_⟩
 ·have:=uR es (kT k);omega
 ·dsimp only;by_cases e:j=k
  ·rw[if_pos e,e,cT];rfl
  ·rw[if_neg e,da _ (fun q=>e (dA q)),g2]
theorem G4{S:St}{d N:Nat}{ids:List UInt8→Option Nat}{F:iN}(h:BM S d N ids F){es:List (Value×DV×Nat)}{c:Nat}(g:lk S.acc d=some (.xo (.mp .str es c)))(n:List UInt8):
 BM ⟨S.box,up S.acc d (.xo (.mp .str (gq es (kT n)) c))⟩ d N (fun m=>if m=n then none else ids m) (fun m=>if m=n then none else F m):=by
 obtain⟨g1,g2⟩:=Eo h g;refine⟨⟨_,_,sS g,?_,fun m=>?_⟩,fun m=>?_,fun m j f q1 q2=>?_,fun m m' j q1 q2=>?_,fun m j q1=>?_⟩
 ·have:=uR es (kT n);omega
 ·try dsimp only at*
  by_cases e:m=n
  ·rw[if_pos e,e,cT];rfl
  ·rw[if_neg e,da _ (fun q=>e (dA q)),g2]
 ·try dsimp only at*
  by_cases e:m=n
  ·rw[if_pos e,if_pos e];simp
  ·rw[if_neg e,if_neg e];exact h.some_ m
 ·try dsimp only at*
  by_cases e:m=n
  ·rw[if_pos e]at q1;cases q1
  ·rw[if_neg e]at q1 q2;refine(h.low m j f q1 q2).mono fun x hx=>?_;show lk (up S.acc d _) j=_;rw[ab (fun q=>h.ne m j q1 q.symm)];exact hx
 ·try dsimp only at*
  by_cases e:m=n
  ·rw[if_pos e]at q1;cases q1
  ·by_cases e':m'=n
   ·rw[if_pos e']at q2;cases q2
   ·rw[if_neg e]at q1;rw[if_neg e']at q2;exact h.inj m m' j q1 q2
 ·try dsimp only at*
  by_cases e:m=n
  ·rw[if_pos e]at q1;cases q1
  ·rw[if_neg e]at q1;exact h.ne m j q1
theorem Iq{S:St}{d N:Nat}{ids:List UInt8→Option Nat}{F:iN}(h:BM S d N ids F){es:List (Value×DV×Nat)}{c:Nat}(g:lk S.acc d=some (.xo (.mp .str es c)))(n:List UInt8){l:Nat}(hl:lk S.acc l=none):
 BM ⟨S.box,(l,.xo (.mp .str [] 0))::up S.acc d (.xo (.mp .str (cQ es c (kT n) (.mp l)) (ec es c (kT n))))⟩ d (N+1) (fun m=>if m=n then some l else ids m) (eY F n fun _=>none):=by
 obtain⟨g1,g2⟩:=Eo h g;have hld:¬l=d:=fun e=>by rw[e,g]at hl;cases hl
 have old:∀m j,ids m=some j→lk S.acc j≠none:=fun m j q=>by
  obtain⟨f,hf⟩:=WJ.1 (fun r=>by rw[(h.some_ m).2 r]at q;cases q);exact(h.low m j f q hf).lk
 refine⟨⟨cQ es c (kT n) (.mp l),ec es c (kT n),?_,?_,fun m=>?_⟩,fun m=>?_,fun m j f q1 q2=>?_,fun m m' j q1 q2=>?_,fun m j q1=>?_⟩
 ·show lk (_::_) d=_;simp only[lk];rw[if_neg hld];exact sS g
 ·have:=pj es c (kT n) (.mp l);omega
 ·try dsimp only at*
  by_cases e:m=n
  ·rw[if_pos e,e,aX];rfl
  ·rw[if_neg e,bS _ _ (fun q=>e (dA q)),g2]
 ·unfold eY
  try dsimp only
  by_cases e:m=n
  ·rw[if_pos e,if_pos e];simp
  ·rw[if_neg e,if_neg e];exact h.some_ m
 ·unfold eY at q2
  try dsimp only at q1 q2
  by_cases e:m=n
  ·rw[if_pos e]at q1 q2;cases q1;cases q2;exact⟨[],0,by simp[lk],W4 _,fun k=>by simp[aJ]⟩
  ·rw[if_neg e]at q1 q2;refine((h.low m j f q1 q2).mono fun x hx=>?_).le (by omega);show lk (_::_) j=_;simp only[lk];rw[if_neg (fun q=>old m j q1 (by rw[←q];exact hl)),ab (fun q=>h.ne m j q1 q.symm)];exact hx
 ·try dsimp only at*
  by_cases e:m=n
  ·rw[if_pos e]at q1;cases q1;by_cases e':m'=n
   ·rw[e,e']
   ·rw[if_neg e']at q2;exact absurd hl (old m' _ q2)
  ·rw[if_neg e]at q1;by_cases e':m'=n
   ·rw[if_pos e']at q2;cases q2;exact absurd hl (old m _ q1)
   ·rw[if_neg e']at q2;exact h.inj m m' j q1 q2
 ·try dsimp only at*
  by_cases e:m=n
  ·rw[if_pos e]at q1;cases q1;exact hld
  ·rw[if_neg e]at q1;exact h.ne m j q1
theorem Ll(w0:W0){S:St}{w m own:Nat}{o:bI}{full:Bool}{c:Cf}{ls:List Nat}{t sn:Nat}(hw:lk S.box w=some (qf m own o full))(hm:lk S.box m=some (Cd c ls t sn))(hu:df c.up)(hq:jf c.up o.label o.level=false→lV w0 S 31):
 aa Tryz.prog w0 81 [bd w] S (fun d S'=>jf c.up o.label o.level=true∧d=GK∧S'=S):=by
 refine lU [] mx Tryz.func81 rfl rfl (by kernel_rfl) ?_;simp(maxDischargeDepth:=12) (maxSteps:=1000000) -implicitDefEqProofs only[Tryz.ntmps81,go_sem,Nat.reduceAdd,Nat.reduceSub,Nat.reduceMul,Nat.reduceLeDiff,Nat.reduceEqDiff,Nat.reduceGT,Nat.reduceBEq,reduceCtorEq,↓reduceIte,Int.reduceToNat,Int.reduceLE,Int.reduceLT,Int.reduceNe,Int.reduceEq];intro b2;have e1:=bp b2 hw;have e2:=bp b2 hm;have hH:∀ds,Has S ⟨(b2.n,ds)::S.box,S.acc⟩:=fun ds=>(Has.refl S).aP b2 ds rfl;simp(maxDischargeDepth:=12) (maxSteps:=1000000) -implicitDefEqProofs only[go_sem,Nat.reduceAdd,Nat.reduceSub,Nat.reduceMul,Nat.reduceLeDiff,Nat.reduceEqDiff,Nat.reduceGT,Nat.reduceBEq,reduceCtorEq,↓reduceIte,Int.reduceToNat,Int.reduceLE,Int.reduceLT,Int.reduceNe,Int.reduceEq,e1,hw];refine aw (l6 w0 (w:=w) (m:=m) (own:=own) (o:=o) (full:=full) (c:=c) (ls:=ls) (t:=t) (sn:=sn) (by simp(maxDischargeDepth:=12) (maxSteps:=1000000) -implicitDefEqProofs only[go_sem,Nat.reduceAdd,Nat.reduceSub,Nat.reduceMul,Nat.reduceLeDiff,Nat.reduceEqDiff,Nat.reduceGT,Nat.reduceBEq,reduceCtorEq,↓reduceIte,Int.reduceToNat,Int.reduceLE,Int.reduceLT,Int.reduceNe,Int.reduceEq,e1,hw]) (by simp(maxDischargeDepth:=12) (maxSteps:=1000000) -implicitDefEqProofs only[go_sem,Nat.reduceAdd,Nat.reduceSub,Nat.reduceMul,Nat.reduceLeDiff,Nat.reduceEqDiff,Nat.reduceGT,Nat.reduceBEq,reduceCtorEq,↓reduceIte,Int.reduceToNat,Int.reduceLE,Int.reduceLT,Int.reduceNe,Int.reduceEq,e2,hm]) hu o.label) ?_
 cases hle:jf c.up o.label o.level with
 |true=>
  simp(maxDischargeDepth:=12) (maxSteps:=1000000) -implicitDefEqProofs only[go_sem,Nat.reduceAdd,Nat.reduceSub,Nat.reduceMul,Nat.reduceLeDiff,Nat.reduceEqDiff,Nat.reduceGT,Nat.reduceBEq,reduceCtorEq,↓reduceIte,Int.reduceToNat,Int.reduceLE,Int.reduceLT,Int.reduceNe,Int.reduceEq];refine an (aA w0 true 31 _ (fun h=>by cases h)) ?_;rintro _ _ ⟨_,rfl,rfl⟩;simp(maxDischargeDepth:=12) (maxSteps:=1000000) -implicitDefEqProofs only[go_sem,Nat.reduceAdd,Nat.reduceSub,Nat.reduceMul,Nat.reduceLeDiff,Nat.reduceEqDiff,Nat.reduceGT,Nat.reduceBEq,reduceCtorEq,↓reduceIte,Int.reduceToNat,Int.reduceLE,Int.reduceLT,Int.reduceNe,Int.reduceEq,e1,hw];exact⟨_,_,.refl _,(Sub.refl _).aP,rfl,rfl⟩
 |false=>
  simp(maxDischargeDepth:=12) (maxSteps:=1000000) -implicitDefEqProofs only[go_sem,Nat.reduceAdd,Nat.reduceSub,Nat.reduceMul,Nat.reduceLeDiff,Nat.reduceEqDiff,Nat.reduceGT,Nat.reduceBEq,reduceCtorEq,↓reduceIte,Int.reduceToNat,Int.reduceLE,Int.reduceLT,Int.reduceNe,Int.reduceEq];refine an (aA w0 false 31 _ (fun _=>(hq hle).to (hH _))) ?_;rintro _ _ ⟨q,_⟩;cases q
theorem MV(w0:W0){S:St}{w m own b:Nat}{o:bI}{full:Bool}{au dr:DV}{has:Int}{c:Cf}{ls:List Nat}{sn:Nat}{θ:dQ}{r:List RH}(hw:lk S.box w=some (qf m own o full))(hl:lk S.box own=some (kZ b au has dr))(hm:lk S.box m=some (Cd c ls θ.t sn))(hT:TI S θ r)
 (hno:(own=w)=False) (hnm:(own=m)=False) (hob:own∉θ.bx):
 aa Tryz.prog w0 69 [bd w] S (fun d S'=>d=GK∧TI S' θ (nr r o.level o.aH).1∧uv ⟨up S.box own (kZ b au (if has=o.aH then 0 else has) dr),S.acc⟩ S' θ θ):=by
 refine lU [3] mx Tryz.func69 rfl rfl (by kernel_rfl) ?_;simp(maxDischargeDepth:=12) (maxSteps:=1000000) -implicitDefEqProofs only[Tryz.ntmps69,go_sem,Nat.reduceAdd,Nat.reduceSub,Nat.reduceMul,Nat.reduceLeDiff,Nat.reduceEqDiff,Nat.reduceGT,Nat.reduceBEq,reduceCtorEq,↓reduceIte,Int.reduceToNat,Int.reduceLE,Int.reduceLT,Int.reduceNe,Int.reduceEq];intro b2;have e1:=bp b2 hw;have e2:=bp b2 hl;have e3:=bp b2 hm;refine an (rH w0 (w:=w) (own:=own) (m:=m) (o:=o) (full:=full) (b:=b) (au:=au) (dr:=dr) (has:=has) (by simp(maxDischargeDepth:=12) (maxSteps:=1000000) -implicitDefEqProofs only[go_sem,Nat.reduceAdd,Nat.reduceSub,Nat.reduceMul,Nat.reduceLeDiff,Nat.reduceEqDiff,Nat.reduceGT,Nat.reduceBEq,reduceCtorEq,↓reduceIte,Int.reduceToNat,Int.reduceLE,Int.reduceLT,Int.reduceNe,Int.reduceEq,e1,hw]) (by simp(maxDischargeDepth:=12) (maxSteps:=1000000) -implicitDefEqProofs only[go_sem,Nat.reduceAdd,Nat.reduceSub,Nat.reduceMul,Nat.reduceLeDiff,Nat.reduceEqDiff,Nat.reduceGT,Nat.reduceBEq,reduceCtorEq,↓reduceIte,Int.reduceToNat,Int.reduceLE,Int.reduceLT,Int.reduceNe,Int.reduceEq,e2,hl])) ?_;rintro _ _ ⟨rfl,rfl⟩;by_cases hh:has=o.aH
 ·rw[decide_eq_true hh,if_pos hh];simp(maxDischargeDepth:=12) (maxSteps:=1000000) -implicitDefEqProofs only[go_sem,Nat.reduceAdd,Nat.reduceSub,Nat.reduceMul,Nat.reduceLeDiff,Nat.reduceEqDiff,Nat.reduceGT,Nat.reduceBEq,reduceCtorEq,↓reduceIte,Int.reduceToNat,Int.reduceLE,Int.reduceLT,Int.reduceNe,Int.reduceEq,e1,e2,e3,hw,hl,hm,hno,hnm];refine Y.gI [8] [9] [0,1,2,7,3,4,5,6,8,9] mx (by kernel_rfl) ?_;simp(maxDischargeDepth:=12) (maxSteps:=1000000) -implicitDefEqProofs only[go_sem,Nat.reduceAdd,Nat.reduceSub,Nat.reduceMul,Nat.reduceLeDiff,Nat.reduceEqDiff,Nat.reduceGT,Nat.reduceBEq,reduceCtorEq,↓reduceIte,Int.reduceToNat,Int.reduceLE,Int.reduceLT,Int.reduceNe,Int.reduceEq,e1,e2,e3,hw,hl,hm,hno,hnm];refine an (dw w0 (w:=w) (m:=m) (own:=own) (o:=o) (full:=full) (by simp(maxDischargeDepth:=12) (maxSteps:=1000000) -implicitDefEqProofs only[go_sem,Nat.reduceAdd,Nat.reduceSub,Nat.reduceMul,Nat.reduceLeDiff,Nat.reduceEqDiff,Nat.reduceGT,Nat.reduceBEq,reduceCtorEq,↓reduceIte,Int.reduceToNat,Int.reduceLE,Int.reduceLT,Int.reduceNe,Int.reduceEq,e1,hno,hw])) ?_;rintro _ _ ⟨rfl,rfl⟩;simp(maxDischargeDepth:=12) (maxSteps:=1000000) -implicitDefEqProofs only[go_sem,Nat.reduceAdd,Nat.reduceSub,Nat.reduceMul,Nat.reduceLeDiff,Nat.reduceEqDiff,Nat.reduceGT,Nat.reduceBEq,reduceCtorEq,↓reduceIte,Int.reduceToNat,Int.reduceLE,Int.reduceLT,Int.reduceNe,Int.reduceEq,e1,e2,e3,hw,hl,hm,hno,hnm];have hb2:lk S.box b2.n=none:=aj b2;have hbt:b2.n∉θ.bx:=fun hc=>hT.lT _ hc hb2
  have hTx:TI ⟨(b2.n,[dI 0,dI 0,.sl 0 true [],dI 0,dI 0,dI 0,dI 0,.sl 0 true []])::up S.box own [.mp b,au,dI 0,dr],S.acc⟩ θ r:=hT.mono (fun j x hj hx=>by
   show lk (_::_) j=_;simp only[lk];rw[if_neg (show¬b2.n=j from fun q=>hbt (by rw[q];exact hj)),ab (show¬own=j from fun q=>hob (by rw[q];exact hj))];exact hx) fun _ _ _ h=>h
  refine an (FC w0 hTx o.level o.aH) ?_;rintro _ T ⟨rfl,hT',hF⟩;have g2:lk T.box b2.n=some [dI 0,dI 0,.sl 0 true [],dI 0,dI 0,dI 0,dI 0,.sl 0 true []]:=hF.box _ _ hbt (by simp[lk]);simp(maxDischargeDepth:=12) (maxSteps:=1000000) -implicitDefEqProofs only[go_sem,Nat.reduceAdd,Nat.reduceSub,Nat.reduceMul,Nat.reduceLeDiff,Nat.reduceEqDiff,Nat.reduceGT,Nat.reduceBEq,reduceCtorEq,↓reduceIte,Int.reduceToNat,Int.reduceLE,Int.reduceLT,Int.reduceNe,Int.reduceEq,g2]
  have hne2:∀j x,lk (up S.box own [.mp b,au,dI 0,dr]) j=some x→¬b2.n=j:=fun j x hx q=>by
   rw[←q,ab (fun r=>by rw[←e2];exact r.symm),hb2]at hx;cases hx
  refine⟨_,_,.refl _,.refl _,rfl,hT'.mono (fun j x hj hx=>?_) (fun _ _ _ h=>h),⟨rfl,fun j x hj hx=>?_,fun j x hj hx=>hF.acc j x hj hx,fun j hj=> .inl hj,fun j hj=> .inl hj⟩⟩
  ·show lk (up T.box b2.n _) j=_;rw[ab (show¬b2.n=j from fun q=>hbt (by rw[q];exact hj))];exact hx
  ·show lk (up T.box b2.n _) j=_;rw[ab (hne2 j x hx)];refine hF.box j x hj ?_;show lk (_::_) j=_;simp only[lk];rw[if_neg (hne2 j x hx)];exact hx
 ·rw[decide_eq_false hh,if_neg hh,nW hl];simp(maxDischargeDepth:=12) (maxSteps:=1000000) -implicitDefEqProofs only[go_sem,Nat.reduceAdd,Nat.reduceSub,Nat.reduceMul,Nat.reduceLeDiff,Nat.reduceEqDiff,Nat.reduceGT,Nat.reduceBEq,reduceCtorEq,↓reduceIte,Int.reduceToNat,Int.reduceLE,Int.reduceLT,Int.reduceNe,Int.reduceEq,e1,e2,e3,hw,hl,hm,hno,hnm];refine Y.gI [8] [9] [0,1,2,7,3,4,5,6,8,9] mx (by kernel_rfl) ?_;simp(maxDischargeDepth:=12) (maxSteps:=1000000) -implicitDefEqProofs only[go_sem,Nat.reduceAdd,Nat.reduceSub,Nat.reduceMul,Nat.reduceLeDiff,Nat.reduceEqDiff,Nat.reduceGT,Nat.reduceBEq,reduceCtorEq,↓reduceIte,Int.reduceToNat,Int.reduceLE,Int.reduceLT,Int.reduceNe,Int.reduceEq,e1,e2,e3,hw,hl,hm,hno,hnm];refine an (dw w0 (w:=w) (m:=m) (own:=own) (o:=o) (full:=full) (by simp(maxDischargeDepth:=12) (maxSteps:=1000000) -implicitDefEqProofs only[go_sem,Nat.reduceAdd,Nat.reduceSub,Nat.reduceMul,Nat.reduceLeDiff,Nat.reduceEqDiff,Nat.reduceGT,Nat.reduceBEq,reduceCtorEq,↓reduceIte,Int.reduceToNat,Int.reduceLE,Int.reduceLT,Int.reduceNe,Int.reduceEq,e1,hw])) ?_;rintro _ _ ⟨rfl,rfl⟩;simp(maxDischargeDepth:=12) (maxSteps:=1000000) -implicitDefEqProofs only[go_sem,Nat.reduceAdd,Nat.reduceSub,Nat.reduceMul,Nat.reduceLeDiff,Nat.reduceEqDiff,Nat.reduceGT,Nat.reduceBEq,reduceCtorEq,↓reduceIte,Int.reduceToNat,Int.reduceLE,Int.reduceLT,Int.reduceNe,Int.reduceEq,e1,e2,e3,hw,hl,hm,hno,hnm];have hb2:lk S.box b2.n=none:=aj b2;have hbt:b2.n∉θ.bx:=fun hc=>hT.lT _ hc hb2
  have hTx:TI ⟨(b2.n,[dI 0,dI 0,.sl 0 true [],dI 0,dI 0,dI 0,dI 0,.sl 0 true []])::S.box,S.acc⟩ θ r:=hT.mono (fun j x hj hx=>by
   show lk (_::_) j=_;simp only[lk];rw[if_neg (show¬b2.n=j from fun q=>hbt (by rw[q];exact hj))];exact hx) fun _ _ _ h=>h
  refine an (FC w0 hTx o.level o.aH) ?_;rintro _ T ⟨rfl,hT',hF⟩;have g2:lk T.box b2.n=some [dI 0,dI 0,.sl 0 true [],dI 0,dI 0,dI 0,dI 0,.sl 0 true []]:=hF.box _ _ hbt (by simp[lk]);simp(maxDischargeDepth:=12) (maxSteps:=1000000) -implicitDefEqProofs only[go_sem,Nat.reduceAdd,Nat.reduceSub,Nat.reduceMul,Nat.reduceLeDiff,Nat.reduceEqDiff,Nat.reduceGT,Nat.reduceBEq,reduceCtorEq,↓reduceIte,Int.reduceToNat,Int.reduceLE,Int.reduceLT,Int.reduceNe,Int.reduceEq,g2]
  have hne2:∀j x,lk (S.box) j=some x→¬b2.n=j:=fun j x hx q=>by
   rw[←q,hb2]at hx;cases hx
  refine⟨_,_,.refl _,.refl _,rfl,hT'.mono (fun j x hj hx=>?_) (fun _ _ _ h=>h),⟨rfl,fun j x hj hx=>?_,fun j x hj hx=>hF.acc j x hj hx,fun j hj=> .inl hj,fun j hj=> .inl hj⟩⟩
  ·show lk (up T.box b2.n _) j=_;rw[ab (show¬b2.n=j from fun q=>hbt (by rw[q];exact hj))];exact hx
  ·show lk (up T.box b2.n _) j=_;rw[ab (hne2 j x hx)];refine hF.box j x hj ?_;show lk (_::_) j=_;simp only[lk];rw[if_neg (hne2 j x hx)];exact hx
theorem Su(w0:W0){S:St}{bx w m own:Nat}{o:bI}{full:Bool}(hb:lk S.box bx=some [bd w])(hw:lk S.box w=some (qf m own o full))(k:List UInt8):
 aa Tryz.prog w0 125 [dS (tx k),bd bx] S (fun d S'=>d=dB (decide (k=o.key))∧S'=S):=by
 have htx:(tx k=tx o.key)=(k=o.key):=propext ⟨Fl,fun h=>by rw[h]⟩;refine cc [] mx Tryz.func125 rfl rfl (by kernel_rfl) ?_;simp only[Tryz.ntmps125,Wq,WR,Nat.reduceAdd,Nat.reduceSub,List.reduceReplicate,Xk,Xz];simp(maxDischargeDepth:=12) (maxSteps:=1000000) -implicitDefEqProofs only[Tryz.ntmps125,go_sem,Nat.reduceAdd,Nat.reduceSub,Nat.reduceMul,Nat.reduceLeDiff,Nat.reduceEqDiff,Nat.reduceGT,Nat.reduceBEq,reduceCtorEq,↓reduceIte,Int.reduceToNat,Int.reduceLE,Int.reduceLT,Int.reduceNe,Int.reduceEq,hb,hw]
def yv(n:Int):Int:=if n<0 then 0 else if n>50 then 50 else n
theorem Oz(w0:W0)(n:Int)(S:St):aa Tryz.prog w0 128 [dI n] S (fun d S'=>d=dI (yv n)∧S'=S):=by
 refine cc [] mx Tryz.func128 rfl rfl (by kernel_rfl) ?_;simp(maxDischargeDepth:=12) (maxSteps:=1000000) -implicitDefEqProofs only[Tryz.ntmps128,go_sem,Nat.reduceAdd,Nat.reduceSub,Nat.reduceMul,Nat.reduceLeDiff,Nat.reduceEqDiff,Nat.reduceGT,Nat.reduceBEq,reduceCtorEq,↓reduceIte,Int.reduceToNat,Int.reduceLE,Int.reduceLT,Int.reduceNe,Int.reduceEq];unfold yv
 (repeat' split) <;>omega
@[go_sem] def cI (l:List gv):DV:= .sl 3 false (l.map qo)
theorem Ma(w0:W0)(l m:List gv)(h0:l.length≤4611686018427387904)(S:St):aa Tryz.prog w0 16 [cI l,cI m] S (fun d S'=>d=dB (pB (l=m))∧S'=S):=by
 refine cc [] mx Tryz.func16 rfl rfl (by kernel_rfl) ?_;simp(maxDischargeDepth:=12) (maxSteps:=1000000) -implicitDefEqProofs only[Tryz.ntmps16,go_sem,Nat.reduceAdd,Nat.reduceSub,Nat.reduceMul,Nat.reduceLeDiff,Nat.reduceEqDiff,Nat.reduceGT,Nat.reduceBEq,reduceCtorEq,↓reduceIte,Int.reduceToNat,Int.reduceLE,Int.reduceLT,Int.reduceNe,Int.reduceEq];refine⟨fun h1 h2=>h1 (congrArg List.length h2),fun h=>?_⟩;have h:l.length=m.length:=by omega
 refine aY [] l.length [0,1,5] (fun i=>[(5,dI i)]) (fun i=>S) (fun i=>∀j,j<i→l[j]? =m[j]?) mx (by kernel_rfl) ?_ ?_
 ·simp(maxDischargeDepth:=12) (maxSteps:=1000000) -implicitDefEqProofs only[go_sem,Nat.reduceAdd,Nat.reduceSub,Nat.reduceMul,Nat.reduceLeDiff,Nat.reduceEqDiff,Nat.reduceGT,Nat.reduceBEq,reduceCtorEq,↓reduceIte,Int.reduceToNat,Int.reduceLE,Int.reduceLT,Int.reduceNe,Int.reduceEq];intro j hj;omega
 ·intro i hi hinv;have e1:i<4611686018427387904→IntKind.i64.wrap ((i:Int)+1)=((i+1:Nat):Int):=fun h=>aI (by omega);by_cases hil:i<l.length
  ·have e1:=e1 (by omega);have hx:l[i]? =some l[i]:=Wb hil;have hy:m[i]? =some (m[i]'(by omega)):=Wb (by omega);generalize l[i]=x at hx;generalize m[i]'(by omega)=y at hy;simp(maxDischargeDepth:=12) (maxSteps:=1000000) -implicitDefEqProofs only[go_sem,Nat.reduceAdd,Nat.reduceSub,Nat.reduceMul,Nat.reduceLeDiff,Nat.reduceEqDiff,Nat.reduceGT,Nat.reduceBEq,reduceCtorEq,↓reduceIte,Int.reduceToNat,Int.reduceLE,Int.reduceLT,Int.reduceNe,Int.reduceEq,hx,hy,e1];refine⟨fun _=>⟨hil,by omega,fun he=>⟨hil,fun j hj=>?_⟩,fun hne e=>?_⟩,fun h=>absurd hil h⟩
   ·by_cases e:j=i
    ·subst e;simp only[We,decide_eq_true_eq]at he;obtain⟨⟨q1,q2⟩,q3⟩:=he;rw[hx,hy];cases x;cases y;simp at q1 q2 q3;rw[q1,q2,q3]
    ·exact hinv j (by omega)
   ·rw[e,hy]at hx;have:=WQ hx;subst this;simp at hne
  ·simp(maxDischargeDepth:=12) (maxSteps:=1000000) -implicitDefEqProofs only[go_sem,Nat.reduceAdd,Nat.reduceSub,Nat.reduceMul,Nat.reduceLeDiff,Nat.reduceEqDiff,Nat.reduceGT,Nat.reduceBEq,reduceCtorEq,↓reduceIte,Int.reduceToNat,Int.reduceLE,Int.reduceLT,Int.reduceNe,Int.reduceEq];refine⟨fun h=>absurd h hil,fun _=>?_⟩;refine Xe fun j=>?_;by_cases hj:j<l.length
   ·exact hinv j (by omega)
   ·rw[Wn (by omega),Wn (by omega)]
end Go.Proofs.YtoepfmhnapedoaaGreatDoor
