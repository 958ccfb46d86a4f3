/-
  Part 8 of the proof that the last text ends: from 'The numbers of the bits that are 1, one by one: the program's iterator' to 'Count, and Close: walked'. By an AI agent.
-/
import Derived.Test.YtoepfmhnapedoaaGreatDoorMK7
import Derived.RangeFuncNested
set_option linter.unusedVariables false
set_option linter.unusedSimpArgs false
set_option maxRecDepth 100000
set_option maxHeartbeats 16000000
namespace Go.Proofs.YtoepfmhnapedoaaGreatDoor
open Aml Go Lat
def OW:List Int:=[0,1,56,2,57,49,28,3,61,58,42,50,38,29,17,4,62,47,59,36,45,43,51,22,53,39,33,30,24,18,12,5,63,55,48,27,60,41,37,16,46,35,44,21,52,32,23,11,54,26,40,15,34,20,31,10,25,14,19,9,13,8,7,6]
def OP:List Value:=OW.map fun z=> .int .u8 z
def ib(w0:W0):Prop:=mE w0 4 OP
def Ln(k:Nat):Int:=(IntKind.u64.wrap (((2^k:Nat):Int)*285870213051353865)).fdiv (2^min 58 64)
theorem Lh:∀k:Fin 64,0≤Ln k.val∧Ln k.val<64∧OW[(Ln k.val).toNat]? =some (k.val:Int):=by decide +kernel
theorem Qs(k:Nat)(hk:k<64):OP.drop ((Ln k).toNat*1)= .int .u8 (k:Int)::OP.drop ((Ln k).toNat+1):=by
 obtain⟨h1,h2,h3⟩:=Lh ⟨k,hk⟩;dsimp only at h1 h2 h3;rw[YP];obtain⟨hlt,hv⟩:=W6.1 h3;have hd:OW.drop (Ln k).toNat=(k:Int)::OW.drop ((Ln k).toNat+1):=by rw[List.drop_eq_getElem_cons hlt,hv]
 unfold OP;rw[←List.map_drop,hd,Xy,List.map_drop]
theorem Ve(w0:W0)(hg:ib w0)(x k:Nat)(hx:x<18446744073709551616)(hk:k<64)(h:pL x k)(S:St):aa Tryz.prog w0 196 [dU (x:Int)] S (fun d S'=>d=dI (k:Int)∧S'=S):=by
 have hG:=ql hg;have hne:x≠0:=by rintro rfl;have:=h.1;simp at this
 have hb:cI .and .u64 (x:Int) (IntKind.u64.wrap (0-(x:Int)))=((2^k:Nat):Int):=by
  have e:IntKind.u64.wrap (0-(x:Int))=((18446744073709551616-x:Nat):Int):=by
   show(0-(x:Int))%18446744073709551616=_;omega
  rw[e,eT hx (by omega),IU h hk hx]
 obtain⟨h1,h2,_⟩:=Lh ⟨k,hk⟩;have h4:=Qs k hk;unfold Ln at h1 h2 h4;dsimp only at h1 h2;refine bW [] mx Tryz.func196 rfl rfl (by kernel_rfl) ?_;simp(maxDischargeDepth:=12) (maxSteps:=1000000) -implicitDefEqProofs only[Tryz.ntmps196,go_sem,Nat.reduceAdd,Nat.reduceSub,Nat.reduceMul,Nat.reduceLeDiff,Nat.reduceEqDiff,Nat.reduceGT,Nat.reduceBEq,reduceCtorEq,↓reduceIte,Int.reduceToNat,Int.reduceLE,Int.reduceLT,Int.reduceNe,Int.reduceEq,hG,hb];refine⟨fun q=>by omega,fun _=>⟨h1,h2,?_,?_⟩⟩
 ·show _≤64;omega
 ·rw[h4];simp(maxDischargeDepth:=12) (maxSteps:=1000000) -implicitDefEqProofs only[go_sem,Nat.reduceAdd,Nat.reduceSub,Nat.reduceMul,Nat.reduceLeDiff,Nat.reduceEqDiff,Nat.reduceGT,Nat.reduceBEq,reduceCtorEq,↓reduceIte,Int.reduceToNat,Int.reduceLE,Int.reduceLT,Int.reduceNe,Int.reduceEq];exact oD (by omega) (by omega)
theorem sP{ro:Option Nat}{P:Program}{ops:Array Oper}{Q:Exit→Act→World→Prop}{o:Oper}{rest:List Oper}{a:Act}{w w':World}{v:Value}(hg:o.guard=none)(hn:∀c,o.op≠ .defer c)(hr:(execOp a.eval o).run P w= .ok (.value v) w')
 (h:wpListIn (fz ro) 0 P ops Q rest (a.put o.dst v) w'):wpListIn (fz ro) 0 P ops Q (o::rest) a w:=by
 unfold wpListIn;rw[if_pos (by simp[Region.wanted,hg])];refine⟨fun _ _=>trivial,?_⟩;rw[Oper.semAt_eq _ _ _ hn,hr];exact h
theorem list_round{ro:Option Nat}{P:Program}{ops:Array Oper}{Q:Exit→Act→World→Prop}{o:Oper}{rest:List Oper}{a:Act}{w w':World}{l:Nat}{f:FuncId}{tmps:Array Value}{assign body:Code}{R:Ending→World→Prop}(hg:o.guard=none)(hn:∀c,o.op≠ .defer c)(hr:(execOp a.eval o).run P w= .ok (.round l f tmps assign body) w')
 (hR:RoundIn (fz ro) 0 P l f tmps assign body w' R) (h:∀e w'',R e w''→∃v,e= .returned v∧wpListIn (fz ro) 0 P ops Q rest (a.put o.dst v) w''):wpListIn (fz ro) 0 P ops Q (o::rest) a w:=by
 unfold wpListIn;rw[if_pos (by simp[Region.wanted,hg])];refine⟨fun _ _=>trivial,?_⟩;rw[Oper.semAt_eq _ _ _ hn,hr];refine⟨fun h=>by simp[fz,Fence.wide]at h,hR.mono fun e w'' k=>?_⟩;obtain⟨v,rfl,h⟩:=h e w'' k;exact h
theorem yD{g g':Gh}{ds:List DV}{us:List Value}(h:ae g ds us)(hp:∀d,d∈ds→(∃u,d= .v u)∨d= .any):ae g' ds us:=by
 refine⟨h.len,fun i d u h1 h2=>?_⟩;have hr:=h.at_ i d u h1 h2;rcases hp d (W7 h1)with⟨u',rfl⟩|rfl
 ·cases hr with
  |v _ ho=>exact .v _ ho
 ·exact .any _
def eF(l b:Nat):List DV:=wk [0,1] (cJ ([.v (.func (.yield l) #[] #[]),.v (.pointer (some ⟨b,0,none⟩))]++List.replicate 14 ud))
def M9(l b k:Nat):List DV:=wk [0,1,3] (cJ ([.v (.func (.yield l) #[] #[]),.v (.pointer (some ⟨b,0,none⟩)),.any,dI (k:Int)]++List.replicate 12 .any))
theorem DW(w0:W0)(hpq:∀d S,¬w0.pq d S)(hg:ib w0){l b x:Nat}(hx:x<18446744073709551616)(X:List Nat→Nat→St)(hb:∀pre y,lk (X pre y).box b=some [dU (y:Int)])
 (hup:∀pre (y y':Nat),(⟨up (X pre y).box b [dU (y':Int)],(X pre y).acc⟩:St)=X pre y') (Inv:List Nat→Prop) (hI0:Inv []) (G:Gh→Prop) (hGle:∀g g',G g→g.le g'→G g') (hGd:∀g,G g→g.kM=[]) (J:World→Prop)
 (hround:∀pre k y g w,pre++k::aR y=aR x→Inv pre→Rel w0 g (X pre y) w→G g→∃fn tmps assign body,(Instr.yield l #[.int .i64 (k:Int)]).run Tryz.prog w= .ok (.round l fn tmps assign body) w∧
  ∀ro,RoundIn (fz ro) 0 Tryz.prog l fn tmps assign body w fun e w'=>(e= .returned (.bool true)∧Inv (pre++[k])∧∃g',Rel w0 g' (X (pre++[k]) y) w'∧G g')∨(e= .returned (.bool false)∧J w'))
 (g:Gh) (w:World) (hR:Rel w0 g (X [] x) w) (hG:G g):
 Calls Tryz.prog 195 #[.func (.yield l) #[] #[],.pointer (some ⟨b,0,none⟩)] w fun e w'=>(∃r,e= .returned r)∧((Inv (aR x)∧∃g',Rel w0 g' (X (aR x) 0) w'∧G g')∨J w'):=by
 refine(eP (ro:=none) (n:=0)).1 (callsIn_of_wp_marks Tryz.func195 rfl trivial ?_ rfl);refine wpIn_mono (Q:=fun e a w'=>(e= .normal∨e= .ret)∧a.defers=[]∧((Inv (aR x)∧∃g',Rel w0 g' (X (aR x) 0) w'∧G g')∨J w')) ?_ ?_
 rotate_left
 ·rintro e a w' ⟨he,hd,hq⟩;have hres:(results Tryz.f195 a.tmps).run Tryz.prog w'= .ok (.tuple #[]) w':=by simp[results,Tryz.results195]
  rcases he with rfl|rfl
  ·show LeavesInM _ _ _ _ _ _ a.defers _ _;rw[hd];exact⟨_,hres,⟨_,rfl⟩,hq⟩
  ·show LeavesInM _ _ _ _ _ _ a.defers _ _;rw[hd];exact⟨_,hres,⟨_,rfl⟩,hq⟩
 refine(iH (l7 (fun m a w=>∃pre y g,Inv pre∧m=(aR y).length∧pre++aR y=aR x∧y<18446744073709551616∧Rel w0 g (X pre y) w∧ae g (eF l b) a.tmps.toList∧a.defers=[]∧G g) (m:=(aR x).length) ⟨[],x,g,hI0,rfl,rfl,hx,hR,?_,rfl,hG⟩ ?_)) none (.inl rfl)
 ·unfold eF;have h0:ae g [.v (.func (.yield l) #[] #[]),.v (.pointer (some ⟨b,0,none⟩))] [.func (.yield l) #[] #[],.pointer (some ⟨b,0,none⟩)]:=ae.cons (.v _ rfl) (ae.cons (.v _ rfl) (ae.nil g));have h1:=h0.append (ae.replicate g 14);have h2:=ia [0,1] h1;exact h2
 rintro m a w ⟨pre,y,g,hinv,rfl,hpre,hy,hR,hr,hd,hG⟩;have hdk:Dk w0 g a w:= .nil (hd.trans (hGd g hG).symm);have same0:∀a:Act,Aml.Same [] a a:=fun a=>⟨fun _ _=>rfl,rfl,rfl⟩;refine iS (aU (dW (P:=Tryz.prog) (w0:=w0) (t:=[]) (fr:=eF l b) (S:=X pre y) (Q:=fun e fr S=>(e= .normal∧y≠0∧S=X pre y∧wk [0,1] fr=eF l b)∨(e= .exit 0∧y=0∧S=X pre y)) _ (by kernel_rfl) ?_ g a a w hR hr hdk (same0 a)) ?_)
 ·unfold eF;have hb1:=hb pre y;simp(maxDischargeDepth:=12) (maxSteps:=1000000) -implicitDefEqProofs only[go_sem,Nat.reduceAdd,Nat.reduceSub,Nat.reduceMul,Nat.reduceLeDiff,Nat.reduceEqDiff,Nat.reduceGT,Nat.reduceBEq,reduceCtorEq,↓reduceIte,Int.reduceToNat,Int.reduceLE,Int.reduceLT,Int.reduceNe,Int.reduceEq,hb1];omega
 intro e a1 w1 hk
 cases e with
 |ret=>obtain⟨⟨_,_,_,_,_,_,_,q⟩,_⟩:=hk;rcases q with q|q <;>cases q.1
 |goto n=>obtain⟨⟨_,_,_,_,_,_,_,q⟩,_⟩:=hk;rcases q with q|q <;>cases q.1
 |outgrown=>obtain⟨_,_,_,_,_,_,_,q⟩:=hk;rcases q with q|q <;>cases q.1
 |panic ch=>obtain⟨⟨_,_,_,_,_,_,_,_,_,_,_,q⟩,_⟩:=hk;exact(hpq _ _ q).elim
 |exit n=>
  obtain⟨⟨_,g1,fr1,S1,k1,R1,r1,q⟩,hs⟩:=hk;rcases q with⟨q,_⟩|⟨q,rfl,rfl⟩
  ·cases q
  ·cases q;rw[xO,Yo]at hpre;change Exit.inBlock 0 (fun e a w'=>(e= .normal∨e= .ret)∧a.defers=[]∧((Inv (aR x)∧∃g',Rel w0 g' (X (aR x) 0) w'∧G g')∨J w')) (.exit 0) a1 w1;simp only[Exit.inBlock,if_true];exact⟨.inl (by trivial),hs.2.1.trans hd,.inl ⟨hpre▸hinv,g1,hpre▸R1,hGle _ _ hG k1⟩⟩
 |normal=>
  obtain⟨⟨hd1,g1,fr1,S1,k1,R1,r1,q⟩,hs1⟩:=hk;rcases q with⟨_,hy0,rfl,hfr1⟩|⟨q,_⟩
  rotate_left
  ·cases q
  have hG1:=hGle _ _ hG k1;have hdf1:a1.defers=[]:=hs1.2.1.trans hd;have r1':ae g1 (eF l b) a1.tmps.toList:=hfr1▸ia [0,1] r1;obtain⟨k,hk64,hlow⟩:=Nc hy0 hy;have hbits:=AX hlow hk64;have hy2':y &&& (y-1)<18446744073709551616:=YU Nat.and_le_left hy;show qV Tryz.prog (.block 1 _) _ a1 w1;refine iH (iS (aU (dW (P:=Tryz.prog) (w0:=w0) (t:=[]) (fr:=eF l b) (S:=X pre y) (Q:=fun e fr S=>e= .normal∧S=X pre y∧wk [0,1,3] fr=M9 l b k) _ (by kernel_rfl) ?_ g1 a1 a1 w1 R1 r1' (.nil (hdf1.trans (hGd g1 hG1).symm)) (same0 a1)) ?_))
  ·unfold eF M9;have hb1:=hb pre y;simp(maxDischargeDepth:=12) (maxSteps:=1000000) -implicitDefEqProofs only[go_sem,Nat.reduceAdd,Nat.reduceSub,Nat.reduceMul,Nat.reduceLeDiff,Nat.reduceEqDiff,Nat.reduceGT,Nat.reduceBEq,reduceCtorEq,↓reduceIte,Int.reduceToNat,Int.reduceLE,Int.reduceLT,Int.reduceNe,Int.reduceEq,hb1];refine ao (Ve _ hg y k hy hk64 hlow _) ?_;simp(maxDischargeDepth:=12) (maxSteps:=1000000) -implicitDefEqProofs only[go_sem,Nat.reduceAdd,Nat.reduceSub,Nat.reduceMul,Nat.reduceLeDiff,Nat.reduceEqDiff,Nat.reduceGT,Nat.reduceBEq,reduceCtorEq,↓reduceIte,Int.reduceToNat,Int.reduceLE,Int.reduceLT,Int.reduceNe,Int.reduceEq]
  intro e a2 w2 hk2
  cases e with
  |ret=>obtain⟨⟨_,_,_,_,_,_,_,q⟩,_⟩:=hk2;cases q.1
  |goto n=>obtain⟨⟨_,_,_,_,_,_,_,q⟩,_⟩:=hk2;cases q.1
  |exit n=>obtain⟨⟨_,_,_,_,_,_,_,q⟩,_⟩:=hk2;cases q.1
  |outgrown=>obtain⟨_,_,_,_,_,_,_,q⟩:=hk2;cases q.1
  |panic ch=>obtain⟨⟨_,_,_,_,_,_,_,_,_,_,_,q⟩,_⟩:=hk2;exact(hpq _ _ q).elim
  |normal=>
   obtain⟨⟨_,g2,fr2,S2,k2,R2,r2,_,rfl,hfr2⟩,hs2⟩:=hk2;have hG2:=hGle _ _ hG1 k2;have hdf2:a2.defers=[]:=hs2.2.1.trans hdf1;have r2':ae g2 (M9 l b k) a2.tmps.toList:=hfr2▸ia [0,1,3] r2;refine iS (aU (dW (P:=Tryz.prog) (w0:=w0) (t:=[]) (fr:=M9 l b k) (S:=X pre y) (Q:=fun e fr S=>e= .normal∧S=X pre (y &&& (y-1))∧wk [0,1,3] fr=M9 l b k) _ (by kernel_rfl) ?_ g2 a2 a2 w2 R2 r2' (.nil (hdf2.trans (hGd g2 hG2).symm)) (same0 a2)) ?_)
   ·unfold M9;have hb1:=hb pre y;have hup1:=hup pre y (y &&& (y-1))
    have hsub:IntKind.u64.wrap ((y:Int)-1)=((y-1:Nat):Int):=by
     have:(y:Int)-1=((y-1:Nat):Int):=by omega
     rw[this,wN (by omega)]
    have hand:=eT (x:=y) (y:=y-1) hy (by omega);simp(maxDischargeDepth:=12) (maxSteps:=1000000) -implicitDefEqProofs only[go_sem,Nat.reduceAdd,Nat.reduceSub,Nat.reduceMul,Nat.reduceLeDiff,Nat.reduceEqDiff,Nat.reduceGT,Nat.reduceBEq,reduceCtorEq,↓reduceIte,Int.reduceToNat,Int.reduceLE,Int.reduceLT,Int.reduceNe,Int.reduceEq,hb1,hsub,hand];exact hup1
   intro e a3 w3 hk3
   cases e with
   |ret=>obtain⟨⟨_,_,_,_,_,_,_,q⟩,_⟩:=hk3;cases q.1
   |goto n=>obtain⟨⟨_,_,_,_,_,_,_,q⟩,_⟩:=hk3;cases q.1
   |exit n=>obtain⟨⟨_,_,_,_,_,_,_,q⟩,_⟩:=hk3;cases q.1
   |outgrown=>obtain⟨_,_,_,_,_,_,_,q⟩:=hk3;cases q.1
   |panic ch=>obtain⟨⟨_,_,_,_,_,_,_,_,_,_,_,q⟩,_⟩:=hk3;exact(hpq _ _ q).elim
   |normal=>
    obtain⟨⟨_,g3,fr3,S3,k3,R3,r3,_,rfl,hfr3⟩,hs3⟩:=hk3;have hG3:=hGle _ _ hG2 k3;have hdf3:a3.defers=[]:=hs3.2.1.trans hdf2;have r3':ae g3 (M9 l b k) a3.tmps.toList:=hfr3▸ia [0,1,3] r3;have e0:a3.eval (.tmp 0)= .func (.yield l) #[] #[]:=aj (show az g3 (.v (.func (.yield l) #[] #[])) _ from ee r3' (.tmp 0));have e3:a3.eval (.tmp 3)= .int .i64 (k:Int):=aj (show az g3 (.v (.int .i64 (k:Int))) _ from ee r3' (.tmp 3))
    have hz:a3.tmps.size=16:=by
     have:=r3'.len;rw[XW]at this;exact this.symm.trans rfl
    obtain⟨fn,tmps,assign,body,hy1,hy2⟩:=hround pre k (y &&& (y-1)) g3 w3 (by rw[←hbits];exact hpre) hinv R3 hG3;obtain⟨a4,ha4⟩:∃a4:Act,a4=(a3.put (some 12) (.func (.yield l) #[] #[])).put (some 13) (.int .i64 (k:Int)):=⟨_,rfl⟩
    have e12:a4.eval (.tmp 12)= .func (.yield l) #[] #[]:=by
     rw[ha4];simp[Act.put,Act.eval,Xt,Xu,hz]
    have e13:a4.eval (.tmp 13)= .int .i64 (k:Int):=by
     rw[ha4];simp[Act.put,Act.eval,Xt,Xu,hz]
    have e33:(a3.put (some 12) (.func (.yield l) #[] #[])).eval (.tmp 3)= .int .i64 (k:Int):=by
     rw[←e3];simp[Act.put,Act.eval,Xt,Xu]
    refine iS (eg fun ro=>?_);refine sP rfl (by intro c h;cases h) (v:= .func (.yield l) #[] #[]) (w':=w3) (by simp[execOp,e0]) ?_;refine sP rfl (by intro c h;cases h) (v:= .int .i64 (k:Int)) (w':=w3) (by simp[execOp,e33]) ?_;change wpListIn (fz ro) 0 Tryz.prog _ _ _ ((a3.put (some 12) (.func (.yield l) #[] #[])).put (some 13) (.int .i64 (k:Int))) w3;rw[←ha4];refine list_round rfl (by intro c h;cases h) (l:=l) (f:=fn) (tmps:=tmps) (assign:=assign) (body:=body) (w':=w3) (by rw[←hy1];simp[execOp,resolve,e12,e13,Deferred.ofValue,invoke]) (hy2 ro) ?_
    have fin:∀(ops:Array Oper) (t:Bool) (w4:World) (Qc:Exit→Act→World→Prop),(∀a5:Act,a5=(a4.put (some 14) (.bool t)).put (some 15) (.bool !t)→a5.eval (.tmp 15)= .bool !t→Qc .normal a5 w4)→wpListIn (fz ro) 0 Tryz.prog ops Qc [⟨some 15,.unOp .not 4 (.tmp 14),4, "lattice.go:24", #[{on:=2,ground:=Ground.data}],none⟩] (a4.put (some 14) (.bool t)) w4:=by
     intro ops t w4 Qc hq
     have e14:(a4.put (some 14) (.bool t)).eval (.tmp 14)= .bool t:=by
      rw[ha4];simp[Act.put,Act.eval,Xt,Xu,hz]
     refine sP rfl (by intro c h;cases h) (v:= .bool !t) (w':=w4) (by simp only[execOp,e14];simp[go_sem,Op.unary]) ?_;refine hq _ rfl ?_;rw[ha4];simp[Act.put,Act.eval,Xt,Xu,hz]
    have rep5:∀(t:Bool) (a5:Act),a5=(a4.put (some 14) (.bool t)).put (some 15) (.bool !t)→∀g5:Gh,ae g5 (eF l b) a5.tmps.toList:=by
     rintro t a5 rfl g5;rw[ha4];have q0:=ia [0,1] r3';have q1:=bD q0 (some 12) (d:= .any) (u:= .func (.yield l) #[] #[]) (.any _);have q2:=bD q1 (some 13) (d:= .any) (u:= .int .i64 (k:Int)) (.any _);have q3:=bD q2 (some 14) (d:= .any) (u:= .bool t) (.any _);have q4:=bD q3 (some 15) (d:= .any) (u:= .bool !t) (.any _);refine yD (ds:=eF l b) q4 fun d hd=>?_;unfold eF at hd;have:d∈([.v (.func (.yield l) #[] #[]),.v (.pointer (some ⟨b,0,none⟩))]++List.replicate 14 .any:List DV):=hd;rcases Xh.1 this with h|h
     ·rcases Xm.1 h with h|h
      ·exact .inl ⟨_,h⟩
      ·rw[Xg]at h;exact .inl ⟨_,h⟩
     ·exact .inr (Y6 h)
    have def5:∀(t:Bool) (a5:Act),a5=(a4.put (some 14) (.bool t)).put (some 15) (.bool !t)→a5.defers=[]:=by
     rintro t a5 rfl;rw[ha4];exact hdf3
    rintro e w4 (⟨rfl,hI4,g4,R4,hG4⟩|⟨rfl,hJ⟩)
    ·refine⟨_,rfl,fin _ true w4 _ fun a5 ha5 h15=>?_⟩;change qV Tryz.prog (.cond (.tmp 15) .ret .skip) _ a5 w4;refine cU (t:=!true) h15 (fun h=>by cases h) (fun _=>mn ?_);refine⟨(aR (y &&& (y-1))).length,by rw[hbits];simp,pre++[k],y &&& (y-1),g4,hI4,rfl,?_,hy2',R4,rep5 _ _ ha5 _,def5 _ _ ha5,hG4⟩;rw[YN,←hpre,hbits];rfl
    ·refine⟨_,rfl,fin _ false w4 _ fun a5 ha5 h15=>?_⟩;change qV Tryz.prog (.cond (.tmp 15) .ret .skip) _ a5 w4;refine cU (t:=!false) h15 (fun _=>oT ?_) (fun h=>by cases h);exact⟨.inr rfl,def5 _ _ ha5,.inr hJ⟩
end Go.Proofs.YtoepfmhnapedoaaGreatDoor
namespace Go.Proofs.YtoepfmhnapedoaaGreatDoor
open Aml Go Lat Go.RowKit
theorem pZ{w0:W0}{ro:Option Nat}(hg:ib w0){x b:Nat}(hx:x<18446744073709551616)(X:List Nat→Nat→St)(Z:List Nat→Nat→Nat→St)(Inv:List Nat→Prop)(hI0:Inv [])(HE:List Nat→Nat→Nat→Prop)(B:List Nat→Nat→Nat→List DV→St→Prop){fo:Operand}{ps:Array Tmp}{assign body:Code}{fr:List DV}{S:St}{Q:Exit→List DV→St→Prop}
 (hf:ev fr fo= .v (.func (.func 195) #[] #[.pointer (some ⟨b,0,none⟩)])) (hps:ps.size=1) (hrf:gG assign=true)
 (hX0:X [] x=S) (hb:∀pre y,lk (X pre y).box b=some [dU (y:Int)]) (hup:∀pre (y y':Nat),(⟨up (X pre y).box b [dU (y':Int)],(X pre y).acc⟩:St)=X pre y')
 (hnb:∀pre y,(X pre y).box.map (·.1)=S.box.map (·.1)) (hna:∀pre y,(X pre y).acc.map (·.1)=S.acc.map (·.1)) (hzb:∀pre k y,(Z pre k y).box.map (·.1)=S.box.map (·.1)) (hza:∀pre k y,(Z pre k y).acc.map (·.1)=S.acc.map (·.1))
 (hassign:∀pre k y,pre++k::aR y=aR x→Inv pre→fL Tryz.prog w0.np assign (gO ps.toList [dI (k:Int)] fr) (X pre y) (fun e fr1 T1=>e= .normal∧B pre k y fr1 T1))
 (hbody:∀(l:Nat) (r1:Loop) pre k y fr1 T1,pre++k::aR y=aR x→Inv pre→B pre k y fr1 T1→∀g a w,Rel w0.np g T1 w→ae g fr1 a.tmps.toList→Dk w0.np g a w→g.obj l=some (.loop r1)→body.wpIn (fz (some l)) 0 Tryz.prog (Aml.Good w0.np g fun e _ T'=>(e= .normal∧Inv (pre++[k])∧Has (X (pre++[k]) y) T')∨(e= .ret∧HE pre k y∧Has (Z pre k y) T')) a w)
 (hdone:Inv (aR x)→Q .normal fr (X (aR x) 0)) (hstop:∀pre k y,HE pre k y→Q .ret fr (Z pre k y))
 (g:Gh) (a:Act) (w:World) (h1:Rel w0 g S w) (h2:ae g fr a.tmps.toList) (h3:Dk w0 g a w) (hro:ro=none∨∃l0 r0,ro=some l0∧g.obj l0=some (.loop r0)):
 (Code.rangeFunc fo ps assign body).wpIn (fz ro) 0 Tryz.prog (Aml.Good w0 g Q) a w:=by
 subst hX0;refine wpIn_rangeFunc ?_;intro fn hfn;have hfo:=ee h2 fo;rw[hf]at hfo;have hgf:a.eval fo= .func (.func 195) #[] #[.pointer (some ⟨b,0,none⟩)]:=aj hfo;have hsz:=h1.below.size;have hszn:w0.np.heap.size≤w.heap.size:=hsz
 obtain⟨l,mark,dfs,W1,hW,hL1,hb1,hll,hmk⟩:∃(l:Nat) (mark:List Deferred) (dfs:Nat) (W1:World),(Instr.enterLoop fn a.tmps ps assign body (fz ro).round).run Tryz.prog w= .ok (l,mark) W1∧
  W1.heap[l]? =some (.loop {state:= .ready,pending:=none,fn,tmps:=a.tmps,params:=ps,assign,body,defers:=dfs})∧gE w.heap.size w W1∧w.heap.size≤l∧(mark=[]∨∃D,mark=[{target:= .collected D,args:= #[]}]∧w.heap.size≤D∧D≠l∧W1.heap[D]? =some (.deferred (some []))):=by
  rcases hro with rfl|⟨l0,r0,rfl,ho⟩
  ·refine⟨w.heap.size+1,[{target:= .collected w.heap.size,args:= #[]}],w.heap.size,_,run_enterLoop_outer _ _ _ _ _,?_,((gE.refl _ w).alloc (Xa _) _).alloc (by simp) _,by omega,.inr ⟨w.heap.size,rfl,Xa _,by omega,?_⟩⟩
   ·have:=World.alloc_heap_new (w.alloc (.deferred (some []))) (.loop {state:= .ready,pending:=none,fn,tmps:=a.tmps,params:=ps,assign,body,defers:=w.heap.size})
    rwa [World.size_alloc]at this
   ·exact(Below.heap_alloc _ _ _ (by simp)).trans (World.alloc_heap_new w _)
  ·have hl0:=(h1.below.obj l0 _ ho).1;exact⟨w.heap.size,[],r0.defers,_,run_enterLoop_inner hl0 _ _ _ _ _,World.alloc_heap_new w _,(gE.refl _ w).alloc (Xa _) _,Xa _,.inl rfl⟩
 obtain⟨rec,hrec⟩:∃rec:LoopState→Option Code→Loop,rec=fun st pe=>{state:=st,pending:=pe,fn,tmps:=a.tmps,params:=ps,assign,body,defers:=dfs}:=⟨_,rfl⟩;have hL1:W1.heap[l]? =some (.loop (rec .ready none)):=by rw[hrec];exact hL1
 have hob:∀k o,g.obj k=some o→k<w.heap.size:=fun k o hk=>(W9.1 (h1.below.obj k o hk).1).1
 have hgl:∀k,w.heap.size≤k→g.obj k=none:=fun k hk=>by
  cases hx:g.obj k with
  |none=>rfl
  |some o=>have:=hob k o hx;omega
 have hwl:∀k,w.heap.size≤k→w0.gh.obj k=none:=fun k hk=>by
  cases hx:w0.gh.obj k with
  |none=>rfl
  |some o=>have:=hob k o (h1.below.dG.obj k o hx);omega
 obtain⟨pin,hpin⟩:∃pin:Option Obj→Nat→Option Obj,pin=fun o k=>if k=l then o else rf W1 k:=⟨_,rfl⟩
 have hpl:∀o,pin o l=o:=fun o=>by rw[hpin];simp
 have hpk:∀o k,k≠l→pin o k=rf W1 k:=fun o k hk=>by rw[hpin];simp[hk]
 have h1W:=h1.grow hb1;have hne0:∀k o,w0.gh.obj k=some o→k≠l:=by rintro k o hk rfl;rw[hwl _ hll]at hk;cases hk
 have hsub:∀o,w0.np.gh.sub (g.af (pin o)):=fun o=>⟨h1.below.dG.aN,h1.below.dG.acc,fun k o' hk=>by
  show pin o k=some o';rw[hpk o k (hne0 k o' hk)];have:=h1W.below.obj k o' (h1W.below.dG.obj k o' hk);exact jP this.1 this.2⟩
 let G:Gh→Prop:=fun g'=>(∀b i u,g.aN b i=some u→g'.aN b i=some u)∧(∀n m u,g.acc n m=some u→g'.acc n m=some u)∧g'.obj=pin (some (.loop (rec .ready none)))∧g'.kM=[]
 let J:World→Prop:=fun w'=>∃pre k y g',HE pre k y∧Rel w0.np g' (Z pre k y) w'∧((∀b i u,g.aN b i=some u→g'.aN b i=some u)∧(∀n m u,g.acc n m=some u→g'.acc n m=some u)∧g'.obj=pin (some (.loop (rec .done (some .ret))))∧g'.kM=[])
 have R1:Rel w0.np ((g.af (pin (some (.loop (rec .ready none))))).ay []) (X [] x) W1:=by
  refine Rel.ay (w0:=w0.np) (h1W.af (w0':=w0.np) rfl (fun k o hk=>?_) (hsub _)) [] rfl (hsub _);by_cases e:k=l
  ·subst e;rw[hpl]at hk;cases hk;exact⟨hL1,rfl⟩
  ·rw[hpk _ _ e]at hk;exact qE hk
 have hpqn:∀d S,¬(w0.np).pq d S:=fun _ _ h=>h;have nX:∀pre y,((X pre y).box.map (·.1)).Nodup∧((X pre y).acc.map (·.1)).Nodup:=fun pre y=>⟨by rw[hnb];exact h1.nb,by rw[hna];exact h1.na⟩;have nZ:∀pre k y,((Z pre k y).box.map (·.1)).Nodup∧((Z pre k y).acc.map (·.1)).Nodup:=fun pre k y=>⟨by rw[hzb];exact h1.nb,by rw[hza];exact h1.na⟩
 have hround:∀pre k y g3 w3,pre++k::aR y=aR x→Inv pre→Rel w0.np g3 (X pre y) w3→G g3→∃fn tmps assign body,(Instr.yield l #[.int .i64 (k:Int)]).run Tryz.prog w3= .ok (.round l fn tmps assign body) w3∧
  ∀ro,RoundIn (fz ro) 0 Tryz.prog l fn tmps assign body w3 fun e w'=>(e= .returned (.bool true)∧Inv (pre++[k])∧∃g',Rel w0.np g' (X (pre++[k]) y) w'∧G g')∨(e= .returned (.bool false)∧J w'):=by
  intro pre k y g3 w3 hpre hinv R3 hG3;obtain⟨hi3,hac3,ho3,hd3⟩:=hG3;have hl3g:g3.obj l=some (.loop (rec .ready none)):=by rw[ho3,hpl]
  have hl3:=(R3.below.obj l _ hl3g).1;have hy:=run_yield (P:=Tryz.prog) (args:= #[.int .i64 (k:Int)]) hl3 (by rw[hrec];exact hps.symm);rw[hrec]at hy;dsimp only at hy;refine⟨_,_,_,_,hy,fun ro=>roundIn_of_wpIn (F:=fz ro) (n:=0) trivial ?_⟩;have hfr0:ae g3 fr a.tmps.toList:=⟨h2.len,fun i d u a1 a2=>az.of (g:=g) hi3 hac3 (h2.at_ i d u a1 a2)⟩
  have hfr:ae g3 (gO ps.toList [dI (k:Int)] fr) (((ps.zip #[.int .i64 (k:Int)]).foldl (fun t (p,v)=>t.setIfInBounds p v) a.tmps).toList):=by
   have:=lh (g:=g3) ps.toList [dI (k:Int)] [.int .i64 (k:Int)] (fr:=fr) (us:=a.tmps) hfr0 (ae.cons (.v _ rfl) (ae.nil _));rw[show [Value.int .i64 (k:Int)]=(#[Value.int .i64 (k:Int)]:Array Value).toList from rfl,←Array.toList_zip,Array.foldl_toList]at this;exact this
  refine wpIn_mono (hassign pre k y hpre hinv g3 {tmps:=_,defers:=[]} w3 R3 hfr (.nil hd3.symm) (some l) (.inr hrf)) ?_;rintro e a4 w4 ⟨hd4,g4,fr4,T4,k1,k2,k3,k4⟩
  cases e with
  |exit n=>cases k4.1
  |goto n=>cases k4.1
  |ret=>cases k4.1
  |outgrown=>cases k4.1
  |panic ch=>obtain⟨_,_,_,_,h⟩:=k4;exact h.elim
  |normal=>
   have hl4g:g4.obj l=some (.loop (rec .ready none)):=by rw[k1.obj];exact hl3g
   have hl4:=(k2.below.obj _ _ hl4g).1;refine⟨_,run_beginRound hl4 (by rw[hrec]),?_⟩;have hlt4:l<w4.heap.size:=(W9.1 hl4).1;have hbz:({rec .ready none with state:= .busy}:Loop)=rec .busy none:=by rw[hrec]
   rw[hbz];have ho4:g4.obj=pin (some (.loop (rec .ready none))):=k1.obj.trans ho3;have s4:∀o,w0.np.gh.sub (g4.af (pin o)):=fun o=>⟨k2.below.dG.aN,k2.below.dG.acc,(hsub o).obj⟩
   have R4x:Rel w0.np (g4.af (pin none)) T4 w4:=k2.af rfl (fun k' o hk=>by
    by_cases e:k'=l
    ·subst e;rw[hpl]at hk;cases hk
    ·exact k2.below.obj k' o (by rw[ho4,hpk _ _ e];rw[hpk _ _ e]at hk;exact hk)) (s4 _)
   have hh5:∀k',k'≠l→(w4.putObj l (.loop (rec .busy none))).heap[k']? =w4.heap[k']? :=fun k' hk=>World.putObj_heap_other hk;have R4y:=R4x.putObj (o':= .loop (rec .busy none)) hl4 rfl (hpl none) (Yf hszn hll)
   have R5:Rel w0.np (g4.af (pin (some (.loop (rec .busy none))))) T4 (w4.putObj l (.loop (rec .busy none))):=R4y.af (ob:=pin (some (.loop (rec .busy none)))) rfl (fun k' o hk=>by
    by_cases e:k'=l
    ·subst e;rw[hpl]at hk;cases hk;exact⟨World.putObj_heap_same hlt4,rfl⟩
    ·rw[hh5 k' e];exact k2.below.obj k' o (by rw[ho4,hpk _ _ e];rw[hpk _ _ e]at hk;exact hk)) (s4 _)
   have hD5:Dk w0.np (g4.af (pin (some (.loop (rec .busy none))))) a4 (w4.putObj l (.loop (rec .busy none))):=by
    obtain⟨ms,em,hn4,hd4⟩:=hd4;refine⟨ms,by rw[em];show ms++_=ms++g4.kM;rw[k1.kM],hn4,fun d hd=>?_⟩;obtain⟨D,e1,e2,e3,e4⟩:=hd4 d hd;have hne:D≠l:=by rintro rfl;rw[hl4]at e2;cases e2
    refine⟨D,e1,(hh5 D hne).trans e2,?_,e4⟩;show pin _ D=none;rw[hpk _ _ hne,←hpk (some (.loop (rec .ready none))) _ hne,←ho3];exact e3
   refine wpIn_mono (hbody l (rec .busy none) pre k y fr4 T4 hpre hinv k4.2 _ a4 _ R5 k3.af hD5 (hpl _)) ?_;rintro e a6 w6 ⟨_,g6,fr6,T6,q1,q2,q3,q4⟩;have hg6:g6.obj=pin (some (.loop (rec .busy none))):=q1.obj;have hl6:=(q2.below.obj l (.loop (rec .busy none)) (by rw[hg6,hpl])).1;have hlt6:l<w6.heap.size:=(W9.1 hl6).1;have hi6:∀b i u,g.aN b i=some u→g6.aN b i=some u:=fun b i u h=>q1.aN _ _ _ (k1.aN _ _ _ (hi3 _ _ _ h));have hac6:∀n m u,g.acc n m=some u→g6.acc n m=some u:=fun b i u h=>q1.acc _ _ _ (k1.acc _ _ _ (hac3 _ _ _ h));have s6:∀o,w0.np.gh.sub (g6.af (pin o)):=fun o=>⟨q2.below.dG.aN,q2.below.dG.acc,(hsub o).obj⟩
   have turn:∀(o':Loop),Rel w0.np ((g6.af (pin (some (.loop o')))).ay []) T6 (w6.putObj l (.loop o')):=by
    intro o'
    have R6x:Rel w0.np (g6.af (pin none)) T6 w6:=q2.af rfl (fun k' o hk=>by
     by_cases e:k'=l
     ·subst e;rw[hpl]at hk;cases hk
     ·exact q2.below.obj k' o (by rw[hg6,hpk _ _ e];rw[hpk _ _ e]at hk;exact hk)) (s6 _)
    have R6y:=R6x.putObj (o':= .loop o') hl6 rfl (hpl none) (Yf hszn hll)
    have R7:Rel w0.np (g6.af (pin (some (.loop o')))) T6 (w6.putObj l (.loop o')):=R6y.af (ob:=pin (some (.loop o'))) rfl (fun k' o hk=>by
     by_cases e:k'=l
     ·subst e;rw[hpl]at hk;cases hk;exact⟨World.putObj_heap_same hlt6,rfl⟩
     ·rw[World.putObj_heap_other e];exact q2.below.obj k' o (by rw[hg6,hpk _ _ e];rw[hpk _ _ e]at hk;exact hk)) (s6 _)
    exact R7.ay [] rfl (s6 _)
   cases e with
   |exit n=>rcases q4 with q|q <;>cases q.1
   |goto n=>rcases q4 with q|q <;>cases q.1
   |outgrown=>rcases q4 with q|q <;>cases q.1
   |panic ch=>obtain⟨_,_,_,_,h⟩:=q4;exact h.elim
   |normal=>
    rcases q4 with⟨_,hI6,hHas⟩|⟨q,_⟩
    rotate_left
    ·cases q
    have he:=run_endRound (P:=Tryz.prog) none hl6;have hbr:({rec .busy none with state:=if(none:Option Code).isNone then .ready else .done,pending:=none}:Loop)=rec .ready none:=by rw[hrec];rfl
    rw[hbr]at he;exact⟨.bool true,_,he,.inl ⟨rfl,hI6,_,(turn (rec .ready none)).has hHas (nX _ _).1 (nX _ _).2,hi6,hac6,rfl,rfl⟩⟩
   |ret=>
    rcases q4 with⟨q,_⟩|⟨_,hst,hHas⟩
    ·cases q
    have he:=run_endRound (P:=Tryz.prog) (some .ret) hl6;have hbr:({rec .busy none with state:=if(some Code.ret:Option Code).isNone then .ready else .done,pending:=some .ret}:Loop)=rec .done (some .ret):=by rw[hrec];rfl
    rw[hbr]at he;exact⟨.bool false,_,he,.inr ⟨rfl,pre,k,y,_,hst,(turn (rec .done (some .ret))).has hHas (nZ _ _ _).1 (nZ _ _ _).2,hi6,hac6,rfl,rfl⟩⟩
 have hok:okF Tryz.prog 195=true:=by kernel_rfl
 have fin:∀(S2:St) (g2:Gh) (w2:World) (r2:Loop),Rel w0.np g2 S2 w2→(∀b i u,g.aN b i=some u→g2.aN b i=some u)→(∀n m u,g.acc n m=some u→g2.acc n m=some u)→g2.obj=pin (some (.loop r2))→∀o':Obj,∀(e:Exit),Qp w0 ((g2.af g.obj).ay g.kM) Q e fr S2→Aml.Good w0 g Q e {a with defers:=mark++a.defers} (w2.putObj l o'):=by
  intro S2 g2 w2 r2 R2 hi hac ho o' e hq;have hkeep:∀(k:Nat) (o:Obj),k≠l→W1.heap[k]? =some o→nc o=true→w2.heap[k]? =some o:=fun k o hk p1 p2=>(R2.below.obj k o (by rw[ho,hpk _ _ hk];exact jP p1 p2)).1;have hl2:=(R2.below.obj l (.loop r2) (by rw[ho,hpl])).1;have hoth:∀k,k≠l→(w2.putObj l o').heap[k]? =w2.heap[k]? :=fun k hk=>World.putObj_heap_other hk;have hsub2:w0.gh.sub (g2.af g.obj):=⟨R2.below.dG.aN,R2.below.dG.acc,h1.below.dG.obj⟩
  have Rb:Rel w0 (g2.af g.obj) S2 w2:=R2.af (w0':=w0) rfl (fun k o hk=>by
   obtain⟨p1,p2⟩:=h1.below.obj k o hk;have hlt:=hob k o hk;exact⟨hkeep k o (by omega) ((hb1.block k hlt).trans p1) p2,p2⟩) hsub2
  have Rc:=(Rb.putObj (o':=o') hl2 rfl (hgl _ hll) (Yf hsz hll)).ay g.kM rfl hsub2;refine⟨?_,(g2.af g.obj).ay g.kM,fr,S2,⟨hi,hac,rfl,rfl⟩,Rc,⟨h2.len,fun i d u p q=>(az.of (g:=g) hi hac (h2.at_ i d u p q)).af.ay⟩,hq⟩;obtain⟨ms,em,hn,hms⟩:=h3
  have old:∀d,d∈ms→∃D,d={target:= .collected D,args:= #[]}∧(w2.putObj l o').heap[D]? =some (.deferred (some []))∧g.obj D=none∧w0.heap.size≤D:=fun d hd=>by
   obtain⟨D,e1,e2,e3,e4⟩:=hms d hd;have hlt:=(W9.1 e2).1;exact⟨D,e1,(hoth D (by omega)).trans (hkeep D _ (by omega) ((hb1.block D hlt).trans e2) rfl),e3,e4⟩
  rcases hmk with rfl|⟨D,rfl,hD1,hD2,hD3⟩
  ·exact⟨ms,em,hn,old⟩
  ·refine⟨{target:= .collected D,args:= #[]}::ms,by show _::a.defers=_;rw[em];rfl,?_,fun d hd=>?_⟩
   ·rw[Xo];refine⟨fun hm=>?_,hn⟩;obtain⟨D',e1,e2,_⟩:=hms _ hm;have:D=D':=by injection e1 with e1 _;injection e1
    subst this;have:=(W9.1 e2).1;omega
   ·rcases Xm.1 hd with rfl|hd
    ·exact⟨D,rfl,(hoth D hD2).trans (hkeep D _ hD2 hD3 rfl),hgl _ hD1,Yf hsz hD1⟩
    ·exact old d hd
 refine⟨l,mark,W1,{target:= .fn (.func 195) #[.pointer (some ⟨b,0,none⟩)],args:= #[.func (.yield l) #[] #[]]},W1,195, #[.func (.yield l) #[] #[],.pointer (some ⟨b,0,none⟩)],W1,hW,?_,fun _ _=>trivial,?_,fun h=>by simp[fz,Fence.wide]at h,?_⟩
 ·simp only[resolve,hgf];simp[go_sem]
 ·unfold okF at hok;split at hok
  ·rename_i fn' hfn';simp only[W8,XE]at hok;obtain⟨hb,hname⟩:=hok;have hbn:¬fn'.body=none:=by intro e;simp[e]at hb
   have hname':¬fn'.name= "runtime.NumGoroutine" :=by simpa using hname
   simp[invoke,callFunc,hfn',hname',hbn]
  ·cases hok
 ·have hGle:∀g g',G g→g.le g'→G g':=fun g1 g2 ⟨p1,p2,p3,p4⟩ k=>⟨fun b i u h=>k.aN _ _ _ (p1 _ _ _ h),fun b i u h=>k.acc _ _ _ (p2 _ _ _ h),k.obj.trans p3,k.kM.trans p4⟩;refine eP.2 ((DW w0.np hpqn hg hx X hb hup Inv hI0 G hGle (fun _ h=>h.2.2.2) J hround _ W1 R1 ⟨fun _ _ _ h=>h,fun _ _ _ h=>h,rfl,rfl⟩).mono ?_);rintro e w2 ⟨⟨r,rfl⟩,⟨hIe,g2,R2,hi,hac,ho,hd⟩|⟨pre,k,y,g2,hst,R2,hi,hac,ho,hd⟩⟩
  ·have hl2:=(R2.below.obj l _ (by rw[ho,hpl])).1;have he:=run_endLoop (P:=Tryz.prog) hl2 (by rw[hrec];simp);rw[show(rec .ready none).pending=none by rw[hrec]]at he;exact⟨none,_,he,fin _ g2 w2 _ R2 hi hac ho _ .normal (hdone hIe)⟩
  ·have hl2:=(R2.below.obj l _ (by rw[ho,hpl])).1;have he:=run_endLoop (P:=Tryz.prog) hl2 (by rw[hrec];simp);rw[show(rec .done (some .ret)).pending=some .ret by rw[hrec]]at he;exact⟨some .ret,_,he,wpIn_ret (fin _ g2 w2 _ R2 hi hac ho _ .ret (hstop _ _ _ hst))⟩
end Go.Proofs.YtoepfmhnapedoaaGreatDoor
namespace Go.Proofs.YtoepfmhnapedoaaGreatDoor
open Aml Go Lat
theorem Lb(w0:W0)(x:Nat)(S:St):aa Tryz.prog w0 176 [dU (x:Int)] S (fun d S'=>∃b:FN S.box,d= .v (.func (.func 195) #[] #[.pointer (some ⟨b.n,0,none⟩)])∧S'=⟨(b.n,[dU (x:Int)])::S.box,S.acc⟩):=by
 refine kj [] mx Tryz.func176 rfl rfl (by kernel_rfl) ?_;simp(maxDischargeDepth:=12) (maxSteps:=1000000) -implicitDefEqProofs only[Tryz.ntmps176,go_sem,Nat.reduceAdd,Nat.reduceSub,Nat.reduceMul,Nat.reduceLeDiff,Nat.reduceEqDiff,Nat.reduceGT,Nat.reduceBEq,reduceCtorEq,↓reduceIte,Int.reduceToNat,Int.reduceLE,Int.reduceLT,Int.reduceNe,Int.reduceEq];exact fun b=>⟨b,rfl,rfl⟩
theorem Lc(p:Tmp)(d:DV)(fr:List DV):gO [p] [d] fr=fr.set p d:=rfl
theorem qM{x k:Nat}{pre l:List Nat}(h:pre++k::l=aR x):k<64:=by
 have:k∈aR x:=by rw[←h];simp
 exact(rz.1 this).1
theorem bB{α:Type}{l:List (Nat×α)}(b:FN l){c:Nat}{x:α}(h:lk l c=some x):(b.n=c)=False:=aw b c (by rw[h];rfl)
theorem mO{α:Type}{l l':List (Nat×α)}{d:α}{b c:Nat}{x:α}(h:(b=c)=False)(h':lk l c=some x):lk ((b,d)::l) c=some x:=by
 unfold lk;rw[if_neg (by first|(rw[h];exact id)|(intro e;exact h.mp e.symm))];exact h'
def Lx(l:Nat)(r1:Loop)(P:Program)(w0:W0)(c:Code)(fr:List DV)(S:St)(Q:Exit→List DV→St→Prop):Prop:=
 ∀g a w,Rel w0 g S w→ae g fr a.tmps.toList→Dk w0 g a w→g.obj l=some (.loop r1)→c.wpIn (fz (some l)) 0 P (Aml.Good w0 g Q) a w
theorem y7{l:Nat}{r1:Loop}{P:Program}{w0:W0}{c:Code}{fr:List DV}{S:St}{Q:Exit→List DV→St→Prop}(hn:gG c=true)(h:fL P w0 c fr S Q):Lx l r1 P w0 c fr S Q:=fun g a w h1 h2 h3 _=>h g a w h1 h2 h3 (some l) (.inr hn)
theorem tI{l:Nat}{r1:Loop}{P:Program}{w0:W0}{x y:Code}{fr:List DV}{S:St}{Q:Exit→List DV→St→Prop}(h:Lx l r1 P w0 x fr S (gq (fun fr S=>Lx l r1 P w0 y fr S Q) Q)):Lx l r1 P w0 (.seq x y) fr S Q:=by
 intro g a w h1 h2 h3 h4;refine wpIn_seq (wpIn_mono (h g a w h1 h2 h3 h4) ?_);intro e a' w' hg;obtain⟨hd,g',fr',S',k1,k2,k3,k4⟩:=hg
 cases e with
 |normal=>exact wpIn_mono (k4 g' a' w' k2 k3 (k1.dk hd) (k1.obj▸h4)) fun _ _ _ k=>k.of_le k1
 |exit n=>exact⟨hd,g',fr',S',k1,k2,k3,k4⟩
 |goto n=>exact⟨hd,g',fr',S',k1,k2,k3,k4⟩
 |ret=>exact⟨hd,g',fr',S',k1,k2,k3,k4⟩
 |panic ch=>exact⟨hd,g',fr',S',k1,k2,k3,k4⟩
 |outgrown=>exact⟨hd,g',fr',S',k1,k2,k3,k4⟩
theorem sh{l n:Nat}{r1:Loop}{P:Program}{w0:W0}{c:Code}{fr:List DV}{S:St}{Q:Exit→List DV→St→Prop}(h:Lx l r1 P w0 c fr S (eN n Q)):Lx l r1 P w0 (.block n c) fr S Q:=by
 intro g a w h1 h2 h3 h4;refine wpIn_block (wpIn_mono (h g a w h1 h2 h3 h4) ?_);intro e a' w' hg;obtain⟨hd,g',fr',S',k1,k2,k3,k4⟩:=hg
 cases e with
 |normal=>exact⟨hd,g',fr',S',k1,k2,k3,k4⟩
 |exit m=>
  simp only[Exit.inBlock];simp only[Qp,eN]at k4;split
  ·rename_i e;rw[if_pos e]at k4;exact⟨hd,g',fr',S',k1,k2,k3,k4⟩
  ·rename_i e;rw[if_neg e]at k4;exact⟨hd,g',fr',S',k1,k2,k3,k4⟩
 |goto n=>exact⟨hd,g',fr',S',k1,k2,k3,k4⟩
 |ret=>exact⟨hd,g',fr',S',k1,k2,k3,k4⟩
 |panic ch=>exact⟨hd,g',fr',S',k1,k2,k3,k4⟩
 |outgrown=>exact⟨hd,g',fr',S',k1,k2,k3,k4⟩
def u9(le:Nat→Nat→Bool)(x a:Nat):Bool:=(aR x).all fun d=>le a d
theorem MJ(w0:W0)(hg:ib w0)(x:Nat)(hx:x<18446744073709551616)(fl bx:Nat)(hok:okF Tryz.prog fl=true)(ds:List DV)(le:Nat→Nat→Bool)
 (hle:∀(w1:W0) (c d:Nat) (T:St),c<64→d<64→lk T.box bx=some ds→aa Tryz.prog w1 fl [dI (c:Int),dI (d:Int),.v (.pointer (some ⟨bx,0,none⟩))] T (fun d' T'=>d'=dB (le c d)∧T'=T)) (S:St) (hbx:lk S.box bx=some ds):
 aa Tryz.prog w0 145 [dU (x:Int),.v (.func (.func fl) #[] #[.pointer (some ⟨bx,0,none⟩)])] S (fun d S'=>(∃r:Int,d=dI r∧((r= -1∧∀a,a∈aR x→u9 le x a=false)∨∃pre k rest,r=(k:Nat)∧pre++k::rest=aR x∧(∀a,a∈pre→u9 le x a=false)∧u9 le x k=true))∧S'=S):=by
 refine mv [] mx Tryz.func145 rfl rfl (by kernel_rfl) ?_;simp(maxDischargeDepth:=12) (maxSteps:=1000000) -implicitDefEqProofs only[go_sem,Nat.reduceAdd,Nat.reduceSub,Nat.reduceMul,Nat.reduceLeDiff,Nat.reduceEqDiff,Nat.reduceGT,Nat.reduceBEq,reduceCtorEq,↓reduceIte,Int.reduceToNat,Int.reduceLE,Int.reduceLT,Int.reduceNe,Int.reduceEq,Tryz.ntmps145];intro b2 b3 b4;have e2:=bB b2 hbx;have g2:=fun d=>mO (l':=S.box) (d:=d) e2 hbx;have e3:=bB b3 (g2 _);have g3:=fun d d'=>mO (l':=S.box) (d:=d) e3 (g2 d');have e4:=bB b4 (g3 _ _);have g4:=fun d d' d''=>mO (l':=S.box) (d:=d) e4 (g3 d' d'');refine an (Lb _ x _) ?_;rintro _ _ ⟨be,rfl,rfl⟩;have e5:=bB be (g4 _ _ _);have g5:=fun d d' d'' d3=>mO (l':=S.box) (d:=d) e5 (g4 d' d'' d3);simp(maxDischargeDepth:=12) (maxSteps:=1000000) -implicitDefEqProofs only[go_sem,Nat.reduceAdd,Nat.reduceSub,Nat.reduceMul,Nat.reduceLeDiff,Nat.reduceEqDiff,Nat.reduceGT,Nat.reduceBEq,reduceCtorEq,↓reduceIte,Int.reduceToNat,Int.reduceLE,Int.reduceLT,Int.reduceNe,Int.reduceEq];intro g a w h1 h2 h3 ro hro;have hro:ro=none:=hro.resolve_right (by simp[gG])
 refine pZ hg hx (b:=be.n) (fun pre y=>⟨(be.n,[dU (y:Int)])::(b4.n,[dI 0])::(b3.n,[.v (.func (.func fl) #[] #[.pointer (some ⟨bx,0,none⟩)])])::(b2.n,[dU (x:Int)])::S.box,S.acc⟩) (fun pre k y=>⟨(be.n,[dU (y:Int)])::(b4.n,[dI (k:Int)])::(b3.n,[.v (.func (.func fl) #[] #[.pointer (some ⟨bx,0,none⟩)])])::(b2.n,[dU (x:Int)])::S.box,S.acc⟩)
  (fun pre=>∀a,a∈pre→u9 le x a=false) (fun _ h=>by cases h) (fun pre k y=>pre++k::aR y=aR x∧(∀a,a∈pre→u9 le x a=false)∧u9 le x k=true)
  (fun pre k y fr1 T1=>∀l r1,(∀a,a∈pre→u9 le x a=false)→Lx l r1 Tryz.prog w0.np _ fr1 T1 fun e _ T'=>(e= .normal∧(∀a,a∈pre++[k]→u9 le x a=false)∧Has ⟨(be.n,[dU (y:Int)])::(b4.n,[dI 0])::(b3.n,[.v (.func (.func fl) #[] #[.pointer (some ⟨bx,0,none⟩)])])::(b2.n,[dU (x:Int)])::S.box,S.acc⟩ T')∨(e= .ret∧(pre++k::aR y=aR x∧(∀a,a∈pre→u9 le x a=false)∧u9 le x k=true)∧Has ⟨(be.n,[dU (y:Int)])::(b4.n,[dI (k:Int)])::(b3.n,[.v (.func (.func fl) #[] #[.pointer (some ⟨bx,0,none⟩)])])::(b2.n,[dU (x:Int)])::S.box,S.acc⟩ T'))
  rfl rfl (by kernel_rfl) rfl ?_ ?_ (fun _ _=>rfl) (fun _ _=>rfl) (fun _ _ _=>rfl) (fun _ _ _=>rfl) ?_ (fun l r1 pre k y fr1 T1 hpre hinv hB g a w q1 q2 q3 q4=>hB l r1 hinv g a w q1 q2 q3 q4) ?_ ?_ g a w h1 h2 h3 (.inl hro)
 ·intro pre y;simp(maxDischargeDepth:=12) (maxSteps:=1000000) -implicitDefEqProofs only[go_sem,Nat.reduceAdd,Nat.reduceSub,Nat.reduceMul,Nat.reduceLeDiff,Nat.reduceEqDiff,Nat.reduceGT,Nat.reduceBEq,reduceCtorEq,↓reduceIte,Int.reduceToNat,Int.reduceLE,Int.reduceLT,Int.reduceNe,Int.reduceEq]
 ·intro pre y y';simp(maxDischargeDepth:=12) (maxSteps:=1000000) -implicitDefEqProofs only[go_sem,Nat.reduceAdd,Nat.reduceSub,Nat.reduceMul,Nat.reduceLeDiff,Nat.reduceEqDiff,Nat.reduceGT,Nat.reduceBEq,reduceCtorEq,↓reduceIte,Int.reduceToNat,Int.reduceLE,Int.reduceLT,Int.reduceNe,Int.reduceEq]
 ·intro pre k y hpre hinv;have hk64:=qM hpre;refine aQ (ss:=[]) mx _ (by kernel_rfl) ?_;simp(maxDischargeDepth:=12) (maxSteps:=1000000) -implicitDefEqProofs only[go_sem,Nat.reduceAdd,Nat.reduceSub,Nat.reduceMul,Nat.reduceLeDiff,Nat.reduceEqDiff,Nat.reduceGT,Nat.reduceBEq,reduceCtorEq,↓reduceIte,Int.reduceToNat,Int.reduceLE,Int.reduceLT,Int.reduceNe,Int.reduceEq,Lc];intro b5 l r1 hpre0;have e6:=bB b5 (g5 _ _ _ _);have g6:=fun d d' d'' d3 d4=>mO (l':=S.box) (d:=d) e6 (g5 d' d'' d3 d4);refine sh (tI (y7 (by kernel_rfl) (aQ (ss:=[]) mx _ (by kernel_rfl) ?_)));simp(maxDischargeDepth:=12) (maxSteps:=1000000) -implicitDefEqProofs only[go_sem,Nat.reduceAdd,Nat.reduceSub,Nat.reduceMul,Nat.reduceLeDiff,Nat.reduceEqDiff,Nat.reduceGT,Nat.reduceBEq,reduceCtorEq,↓reduceIte,Int.reduceToNat,Int.reduceLE,Int.reduceLT,Int.reduceNe,Int.reduceEq];intro b6;have e7:=bB b6 (g6 _ _ _ _ _);have g7:=fun d d' d'' d3 d4 d5=>mO (l':=S.box) (d:=d) e7 (g6 d' d'' d3 d4 d5);refine tI (tI (y7 (by kernel_rfl) (aQ (ss:=[]) mx _ (by kernel_rfl) ?_)));simp(maxDischargeDepth:=12) (maxSteps:=1000000) -implicitDefEqProofs only[go_sem,Nat.reduceAdd,Nat.reduceSub,Nat.reduceMul,Nat.reduceLeDiff,Nat.reduceEqDiff,Nat.reduceGT,Nat.reduceBEq,reduceCtorEq,↓reduceIte,Int.reduceToNat,Int.reduceLE,Int.reduceLT,Int.reduceNe,Int.reduceEq];refine an (Lb _ x _) ?_;rintro _ _ ⟨be2,rfl,rfl⟩;have e8:=bB be2 (g7 _ _ _ _ _ _);simp(maxDischargeDepth:=12) (maxSteps:=1000000) -implicitDefEqProofs only[go_sem,Nat.reduceAdd,Nat.reduceSub,Nat.reduceMul,Nat.reduceLeDiff,Nat.reduceEqDiff,Nat.reduceGT,Nat.reduceBEq,reduceCtorEq,↓reduceIte,Int.reduceToNat,Int.reduceLE,Int.reduceLT,Int.reduceNe,Int.reduceEq];refine sh ?_;intro g a w q1 q2 q3 q4;have hgn:ib w0.np:=hg
  refine pZ (w0:=w0.np) hgn hx (b:=be2.n) (fun pre2 y2=>⟨(be2.n,[dU (y2:Int)])::(b6.n,[dB (pre2.all fun d=>le k d)])::(b5.n,[dI (k:Int)])::(be.n,[dU (y:Int)])::(b4.n,[dI 0])::(b3.n,[.v (.func (.func fl) #[] #[.pointer (some ⟨bx,0,none⟩)])])::(b2.n,[dU (x:Int)])::S.box,S.acc⟩) (fun pre2 _ y2=>⟨(be2.n,[dU (y2:Int)])::(b6.n,[dB (pre2.all fun d=>le k d)])::(b5.n,[dI (k:Int)])::(be.n,[dU (y:Int)])::(b4.n,[dI 0])::(b3.n,[.v (.func (.func fl) #[] #[.pointer (some ⟨bx,0,none⟩)])])::(b2.n,[dU (x:Int)])::S.box,S.acc⟩)
   (fun _=>True) trivial (fun _ _ _=>False)
   (fun pre2 k2 y2 fr1 T1=>vw Tryz.prog w0.np.np [] _ fr1 T1 fun e _ T'=>e= .normal∧Has (⟨(be2.n,[dU (y2:Int)])::(b6.n,[dB ((pre2++[k2]).all fun d=>le k d)])::(b5.n,[dI (k:Int)])::(be.n,[dU (y:Int)])::(b4.n,[dI 0])::(b3.n,[.v (.func (.func fl) #[] #[.pointer (some ⟨bx,0,none⟩)])])::(b2.n,[dU (x:Int)])::S.box,S.acc⟩:St) T')
   rfl rfl (by kernel_rfl) rfl ?_ ?_ (fun _ _=>rfl) (fun _ _=>rfl) (fun _ _ _=>rfl) (fun _ _ _=>rfl) ?_ (fun l2 r2 pre2 k2 y2 fr1 T1 hpre2 _ hB g a w p1 p2 p3 p4=>wpIn_mono (aQ (ss:=[]) mx _ (by kernel_rfl) hB g a w p1 p2 p3 (some l2) (.inr (by kernel_rfl))) fun e a w k=>k.mono fun e fr S h=> .inl ⟨h.1,trivial,h.2⟩) ?_ (fun _ _ _ h=>h.elim) g a w q1 q2 q3 (.inr ⟨l,r1,rfl,q4⟩)
  ·intro pre2 y2;simp(maxDischargeDepth:=12) (maxSteps:=1000000) -implicitDefEqProofs only[go_sem,Nat.reduceAdd,Nat.reduceSub,Nat.reduceMul,Nat.reduceLeDiff,Nat.reduceEqDiff,Nat.reduceGT,Nat.reduceBEq,reduceCtorEq,↓reduceIte,Int.reduceToNat,Int.reduceLE,Int.reduceLT,Int.reduceNe,Int.reduceEq]
  ·intro pre2 y2 y2';simp(maxDischargeDepth:=12) (maxSteps:=1000000) -implicitDefEqProofs only[go_sem,Nat.reduceAdd,Nat.reduceSub,Nat.reduceMul,Nat.reduceLeDiff,Nat.reduceEqDiff,Nat.reduceGT,Nat.reduceBEq,reduceCtorEq,↓reduceIte,Int.reduceToNat,Int.reduceLE,Int.reduceLT,Int.reduceNe,Int.reduceEq]
  ·intro pre2 k2 y2 hpre2 _;have hk2:=qM hpre2;refine aQ (ss:=[]) mx _ (by kernel_rfl) ?_;simp(maxDischargeDepth:=12) (maxSteps:=1000000) -implicitDefEqProofs only[go_sem,Nat.reduceAdd,Nat.reduceSub,Nat.reduceMul,Nat.reduceLeDiff,Nat.reduceEqDiff,Nat.reduceGT,Nat.reduceBEq,reduceCtorEq,↓reduceIte,Int.reduceToNat,Int.reduceLE,Int.reduceLT,Int.reduceNe,Int.reduceEq,Lc];refine⟨fun hp=>?_,fun hp=>?_⟩
   ·rw[hok];simp(maxDischargeDepth:=12) (maxSteps:=1000000) -implicitDefEqProofs only[go_sem,Nat.reduceAdd,Nat.reduceSub,Nat.reduceMul,Nat.reduceLeDiff,Nat.reduceEqDiff,Nat.reduceGT,Nat.reduceBEq,reduceCtorEq,↓reduceIte,Int.reduceToNat,Int.reduceLE,Int.reduceLT,Int.reduceNe,Int.reduceEq];refine ao (hle _ k k2 _ hk64 hk2 (by simp(maxDischargeDepth:=12) (maxSteps:=1000000) -implicitDefEqProofs only[go_sem,Nat.reduceAdd,Nat.reduceSub,Nat.reduceMul,Nat.reduceLeDiff,Nat.reduceEqDiff,Nat.reduceGT,Nat.reduceBEq,reduceCtorEq,↓reduceIte,Int.reduceToNat,Int.reduceLE,Int.reduceLT,Int.reduceNe,Int.reduceEq,e2,e3,e4,e5,e6,e7,e8,hbx])) ?_;simp(maxDischargeDepth:=12) (maxSteps:=1000000) -implicitDefEqProofs only[go_sem,Nat.reduceAdd,Nat.reduceSub,Nat.reduceMul,Nat.reduceLeDiff,Nat.reduceEqDiff,Nat.reduceGT,Nat.reduceBEq,reduceCtorEq,↓reduceIte,Int.reduceToNat,Int.reduceLE,Int.reduceLT,Int.reduceNe,Int.reduceEq];rw[List.all_append,hp];simp only[Zc,List.all_nil,Bool.and_true,Yw];exact .refl _
   ·rw[List.all_append,hp,Bool.false_and];exact .refl _
  ·intro _;simp(maxDischargeDepth:=12) (maxSteps:=1000000) -implicitDefEqProofs only[go_sem,Nat.reduceAdd,Nat.reduceSub,Nat.reduceMul,Nat.reduceLeDiff,Nat.reduceEqDiff,Nat.reduceGT,Nat.reduceBEq,reduceCtorEq,↓reduceIte,Int.reduceToNat,Int.reduceLE,Int.reduceLT,Int.reduceNe,Int.reduceEq];refine y7 (by kernel_rfl) (aQ (ss:=[]) mx _ (by kernel_rfl) ?_);simp(maxDischargeDepth:=12) (maxSteps:=1000000) -implicitDefEqProofs only[go_sem,Nat.reduceAdd,Nat.reduceSub,Nat.reduceMul,Nat.reduceLeDiff,Nat.reduceEqDiff,Nat.reduceGT,Nat.reduceBEq,reduceCtorEq,↓reduceIte,Int.reduceToNat,Int.reduceLE,Int.reduceLT,Int.reduceNe,Int.reduceEq];refine⟨fun h=>⟨hpre,hpre0,h⟩,fun h a ha=>?_⟩;rcases Xh.1 ha with ha|ha
   ·exact hpre0 a ha
   ·rw[Xg.1 ha];exact h
 ·intro hI;simp(maxDischargeDepth:=12) (maxSteps:=1000000) -implicitDefEqProofs only[go_sem,Nat.reduceAdd,Nat.reduceSub,Nat.reduceMul,Nat.reduceLeDiff,Nat.reduceEqDiff,Nat.reduceGT,Nat.reduceBEq,reduceCtorEq,↓reduceIte,Int.reduceToNat,Int.reduceLE,Int.reduceLT,Int.reduceNe,Int.reduceEq];exact⟨_,S,.refl _,⟨.cons _ (.cons _ (.cons _ (.cons _ (.refl _)))),.refl _⟩,⟨-1,rfl,.inl ⟨rfl,hI⟩⟩,rfl⟩
 ·intro pre k y hst;simp(maxDischargeDepth:=12) (maxSteps:=1000000) -implicitDefEqProofs only[go_sem,Nat.reduceAdd,Nat.reduceSub,Nat.reduceMul,Nat.reduceLeDiff,Nat.reduceEqDiff,Nat.reduceGT,Nat.reduceBEq,reduceCtorEq,↓reduceIte,Int.reduceToNat,Int.reduceLE,Int.reduceLT,Int.reduceNe,Int.reduceEq];exact⟨_,S,.refl _,⟨.cons _ (.cons _ (.cons _ (.cons _ (.refl _)))),.refl _⟩,⟨k,rfl,.inr ⟨pre,k,_,rfl,hst⟩⟩,rfl⟩
theorem PX(w0:W0)(up:List Nat)(hu:di up)(bx c d:Nat)(S:St)(hb:lk S.box bx=some [ec up]):aa Tryz.prog w0 146 [dI (c:Int),dI (d:Int),.v (.pointer (some ⟨bx,0,none⟩))] S (fun e S'=>e=dB (cS up c d)∧S'=S):=by
 refine bW [] mx Tryz.func146 rfl rfl (by kernel_rfl) ?_;simp only[Tryz.ntmps146,Xi,XK,Nat.reduceAdd,Nat.reduceSub,List.reduceReplicate,Yc,Yr];simp(maxDischargeDepth:=12) (maxSteps:=1000000) -implicitDefEqProofs only[Tryz.ntmps146,go_sem,Nat.reduceAdd,Nat.reduceSub,Nat.reduceMul,Nat.reduceLeDiff,Nat.reduceEqDiff,Nat.reduceGT,Nat.reduceBEq,reduceCtorEq,↓reduceIte,Int.reduceToNat,Int.reduceLE,Int.reduceLT,Int.reduceNe,Int.reduceEq,hb];refine ao (tG _ up hu c d _) ?_;simp(maxDischargeDepth:=12) (maxSteps:=1000000) -implicitDefEqProofs only[go_sem,Nat.reduceAdd,Nat.reduceSub,Nat.reduceMul,Nat.reduceLeDiff,Nat.reduceEqDiff,Nat.reduceGT,Nat.reduceBEq,reduceCtorEq,↓reduceIte,Int.reduceToNat,Int.reduceLE,Int.reduceLT,Int.reduceNe,Int.reduceEq,ed]
theorem QH(w0:W0)(up:List Nat)(hu:di up)(bx c d:Nat)(S:St)(hb:lk S.box bx=some [ec up]):aa Tryz.prog w0 148 [dI (c:Int),dI (d:Int),.v (.pointer (some ⟨bx,0,none⟩))] S (fun e S'=>e=dB (cS up d c)∧S'=S):=by
 refine bW [] mx Tryz.func148 rfl rfl (by kernel_rfl) ?_;simp only[Tryz.ntmps148,Xi,XK,Nat.reduceAdd,Nat.reduceSub,List.reduceReplicate,Yc,Yr];simp(maxDischargeDepth:=12) (maxSteps:=1000000) -implicitDefEqProofs only[Tryz.ntmps148,go_sem,Nat.reduceAdd,Nat.reduceSub,Nat.reduceMul,Nat.reduceLeDiff,Nat.reduceEqDiff,Nat.reduceGT,Nat.reduceBEq,reduceCtorEq,↓reduceIte,Int.reduceToNat,Int.reduceLE,Int.reduceLT,Int.reduceNe,Int.reduceEq,hb];refine ao (tG _ up hu d c _) ?_;simp(maxDischargeDepth:=12) (maxSteps:=1000000) -implicitDefEqProofs only[go_sem,Nat.reduceAdd,Nat.reduceSub,Nat.reduceMul,Nat.reduceLeDiff,Nat.reduceEqDiff,Nat.reduceGT,Nat.reduceBEq,reduceCtorEq,↓reduceIte,Int.reduceToNat,Int.reduceLE,Int.reduceLT,Int.reduceNe,Int.reduceEq,ed]
def x8(le:Nat→Nat→Bool)(x:Nat)(r:Int):Prop:=(r= -1∧∀a,a∈aR x→u9 le x a=false)∨∃pre k rest,r=((k:Nat):Int)∧pre++k::rest=aR x∧(∀a,a∈pre→u9 le x a=false)∧u9 le x k=true
theorem rP{le:Nat→Nat→Bool}{n x a b:Nat}{r:Int}(hx:∀c,(c<64∧x.testBit c=true)↔(c<n∧le a c=true∧le b c=true))(h:x8 le x r):r<0↔¬kL le n a b:=by
 have hm:∀c,c∈aR x↔(c<n∧le a c=true∧le b c=true):=fun c=>rz.trans (hx c)
 have key:∀c,c∈aR x→(u9 le x c=true↔GM le n a b c):=fun c hc=>by
  have h1:=(hm c).1 hc;unfold u9;rw[Xq]
  exact⟨fun h=>⟨h1.1,h1.2.1,h1.2.2,fun d hd h3 h4=>h d ((hm d).2 ⟨hd,h3,h4⟩)⟩,fun h d hd=>by
   have h2:=(hm d).1 hd;exact h.2.2.2 d h2.1 h2.2.1 h2.2.2⟩
 rcases h with⟨rfl,h⟩|⟨pre,k,rest,rfl,hp,h1,h2⟩
 ·refine⟨fun _ hj=>?_,fun _=>by omega⟩;obtain⟨c,hc⟩:=hj;have hcm:=(hm c).2 ⟨hc.1,hc.2.1,hc.2.2.1⟩;have:=(key c hcm).2 hc;rw[h c hcm]at this;cases this
 ·refine⟨fun h=>by omega,fun hj=>absurd ⟨k,(key k (by rw[←hp];simp)).1 h2⟩ hj⟩
theorem qq{up:List Nat}(hl:up.length≤64){a:Nat}(ha:a<up.length)(c:Nat):(bJ up a).testBit c=true↔cS up a c=true:=by
 rw[cB];unfold bJ bt;rw[Nat.testBit_mod_two_pow];simp only[W8,decide_eq_true_eq];exact⟨fun h=>⟨hl,ha,h.1,h.2⟩,fun h=>⟨h.2.2.1,h.2.2.2⟩⟩
theorem tX{up:List Nat}{a b:Nat}(h:cS up a b=true):a<64∧b<64∧a<up.length∧b<up.length:=by
 have:=cB.1 h;omega
theorem Bz{up:List Nat}(hl:up.length≤64){a b:Nat}(ha:a<up.length)(hb:b<up.length)(c:Nat):(c<64∧(bJ up a &&& bJ up b).testBit c=true)↔(c<up.length∧cS up a c=true∧cS up b c=true):=by
 rw[Nat.testBit_and,W8,qq hl ha,qq hl hb];exact⟨fun h=>⟨(tX h.2.1).2.2.2,h.2⟩,fun h=>⟨(tX h.2.1).2.1,h.2⟩⟩
theorem Ct{up:List Nat}(hl:up.length≤64){a b:Nat}(c:Nat):(c<64∧(cm up a &&& cm up b).testBit c=true)↔(c<up.length∧cS up c a=true∧cS up c b=true):=by
 rw[Nat.testBit_and,W8,mD,mD];exact⟨fun h=>⟨(tX h.2.1).2.2.1,h.2⟩,fun h=>⟨(tX h.2.1).1,h.2⟩⟩
theorem KL{x y:Nat}(h:x<18446744073709551616):x &&& y<18446744073709551616:=YU Nat.and_le_left h
theorem vL{up:List Nat}(hu:di up)(a:Nat):bJ up a<18446744073709551616:=by
 unfold bJ;refine YU (Nat.mod_le _ _) ?_;rcases vW (o:=up) (a:=a)with h|h
 ·exact hu _ h
 ·rw[h];omega
def iP(le:Nat→Nat→Bool)(x:Nat):Int:=match(aR x).find? (fun a=>u9 le x a)with
 |some k=>((k:Nat):Int)
 |none=> -1
theorem py{p:Nat→Bool}:∀{pre:List Nat} {k:Nat} {rest:List Nat},(∀a,a∈pre→p a=false)→p k=true→(pre++k::rest).find? p=some k
 |[],k,rest,_,h=>by simp[h]
 |a::pre,k,rest,h,hk=>by
  rw[Yc,List.find?_cons,h a (by simp)];exact py (fun b hb=>h b (by simp[hb])) hk
theorem Cx{le:Nat→Nat→Bool}{x:Nat}{r:Int}(h:x8 le x r):r=iP le x:=by
 unfold iP;rcases h with⟨rfl,h⟩|⟨pre,k,rest,rfl,hp,h1,h2⟩
 ·rw[Ze.2 (fun a ha=>by rw[h a ha];simp)]
 ·rw[←hp,py h1 h2]
theorem uL(le:Nat→Nat→Bool)(x:Nat):x8 le x (iP le x):=by
 unfold iP
 cases h:(aR x).find? (fun a=>u9 le x a)with
 |none=>exact .inl ⟨rfl,fun a ha=>by have:=Ze.1 h a ha;simpa using this⟩
 |some k=>
  have h':=List.find?_eq_some_iff_append.1 h;obtain⟨h1,pre,rest,h2,h3⟩:=h';exact .inr ⟨pre,k,rest,rfl,h2.symm,fun a ha=>by simpa using h3 a ha,h1⟩
theorem FM(w0:W0)(hg:ib w0)(x:Nat)(hx:x<18446744073709551616)(fl bx:Nat)(hok:okF Tryz.prog fl=true)(ds:List DV)(le:Nat→Nat→Bool)
 (hle:∀(w1:W0) (c d:Nat) (T:St),c<64→d<64→lk T.box bx=some ds→aa Tryz.prog w1 fl [dI (c:Int),dI (d:Int),.v (.pointer (some ⟨bx,0,none⟩))] T (fun d' T'=>d'=dB (le c d)∧T'=T)) (S:St) (hbx:lk S.box bx=some ds):
 aa Tryz.prog w0 145 [dU (x:Int),.v (.func (.func fl) #[] #[.pointer (some ⟨bx,0,none⟩)])] S (fun d S'=>d=dI (iP le x)∧S'=S):=by
 refine(MJ w0 hg x hx fl bx hok ds le hle S hbx).mono ?_;rintro _ _ ⟨⟨r,rfl,hr⟩,rfl⟩;exact⟨by rw[Cx hr],rfl⟩
theorem Kz(w0:W0)(hg:ib w0)(up:List Nat)(hu:di up)(hl:up.length≤64)(a b:Nat)(ha:a<up.length)(hb:b<up.length)(S:St):aa Tryz.prog w0 111 [ec up,dI (a:Int),dI (b:Int)] S (fun d S'=>d=dI (iP (cS up) (bJ up a &&& bJ up b))∧S'=S):=by
 have hwa:=vL hu a;have hwb:=vL hu b;have l1:vU up (a:Int)=true:=oR.2 ⟨hl,by omega,by omega⟩;have l2:vU up (b:Int)=true:=oR.2 ⟨hl,by omega,by omega⟩;refine bW [] mx Tryz.func111 rfl rfl (by kernel_rfl) ?_;simp(maxDischargeDepth:=12) (maxSteps:=1000000) -implicitDefEqProofs only[Tryz.ntmps111,go_sem,Nat.reduceAdd,Nat.reduceSub,Nat.reduceMul,Nat.reduceLeDiff,Nat.reduceEqDiff,Nat.reduceGT,Nat.reduceBEq,reduceCtorEq,↓reduceIte,Int.reduceToNat,Int.reduceLE,Int.reduceLT,Int.reduceNe,Int.reduceEq];intro b3;refine ao (tP _ up a _) ?_;simp(maxDischargeDepth:=12) (maxSteps:=1000000) -implicitDefEqProofs only[go_sem,Nat.reduceAdd,Nat.reduceSub,Nat.reduceMul,Nat.reduceLeDiff,Nat.reduceEqDiff,Nat.reduceGT,Nat.reduceBEq,reduceCtorEq,↓reduceIte,Int.reduceToNat,Int.reduceLE,Int.reduceLT,Int.reduceNe,Int.reduceEq,l1];refine ao (tP _ up b _) ?_;simp(maxDischargeDepth:=12) (maxSteps:=1000000) -implicitDefEqProofs only[go_sem,Nat.reduceAdd,Nat.reduceSub,Nat.reduceMul,Nat.reduceLeDiff,Nat.reduceEqDiff,Nat.reduceGT,Nat.reduceBEq,reduceCtorEq,↓reduceIte,Int.reduceToNat,Int.reduceLE,Int.reduceLT,Int.reduceNe,Int.reduceEq,l2];refine eu (tR _ up hu a ha hl _) ?_;simp(maxDischargeDepth:=12) (maxSteps:=1000000) -implicitDefEqProofs only[go_sem,Nat.reduceAdd,Nat.reduceSub,Nat.reduceMul,Nat.reduceLeDiff,Nat.reduceEqDiff,Nat.reduceGT,Nat.reduceBEq,reduceCtorEq,↓reduceIte,Int.reduceToNat,Int.reduceLE,Int.reduceLT,Int.reduceNe,Int.reduceEq];refine eu (tR _ up hu b hb hl _) ?_;simp(maxDischargeDepth:=12) (maxSteps:=1000000) -implicitDefEqProofs only[go_sem,Nat.reduceAdd,Nat.reduceSub,Nat.reduceMul,Nat.reduceLeDiff,Nat.reduceEqDiff,Nat.reduceGT,Nat.reduceBEq,reduceCtorEq,↓reduceIte,Int.reduceToNat,Int.reduceLE,Int.reduceLT,Int.reduceNe,Int.reduceEq,eT hwa hwb];refine eu (FM _ hg _ (KL hwa) 146 b3.n (by kernel_rfl) [ec up] (cS up) (fun w1 c d T _ _ hT=>PX w1 up hu b3.n c d T hT) _ (by simp(maxDischargeDepth:=12) (maxSteps:=1000000) -implicitDefEqProofs only[go_sem,Nat.reduceAdd,Nat.reduceSub,Nat.reduceMul,Nat.reduceLeDiff,Nat.reduceEqDiff,Nat.reduceGT,Nat.reduceBEq,reduceCtorEq,↓reduceIte,Int.reduceToNat,Int.reduceLE,Int.reduceLT,Int.reduceNe,Int.reduceEq])) ?_;simp(maxDischargeDepth:=12) (maxSteps:=1000000) -implicitDefEqProofs only[go_sem,Nat.reduceAdd,Nat.reduceSub,Nat.reduceMul,Nat.reduceLeDiff,Nat.reduceEqDiff,Nat.reduceGT,Nat.reduceBEq,reduceCtorEq,↓reduceIte,Int.reduceToNat,Int.reduceLE,Int.reduceLT,Int.reduceNe,Int.reduceEq]
theorem K1(w0:W0)(hg:ib w0)(up:List Nat)(hu:di up)(hl:up.length≤64)(a b:Nat)(S:St):aa Tryz.prog w0 112 [ec up,dI (a:Int),dI (b:Int)] S (fun d S'=>d=dI (iP (fun x y=>cS up y x) (cm up a &&& cm up b))∧S'=S):=by
 have hwa:cm up a<18446744073709551616:=jx (by omega);have hwb:cm up b<18446744073709551616:=jx (by omega);refine bW [] mx Tryz.func112 rfl rfl (by kernel_rfl) ?_;simp(maxDischargeDepth:=12) (maxSteps:=1000000) -implicitDefEqProofs only[Tryz.ntmps112,go_sem,Nat.reduceAdd,Nat.reduceSub,Nat.reduceMul,Nat.reduceLeDiff,Nat.reduceEqDiff,Nat.reduceGT,Nat.reduceBEq,reduceCtorEq,↓reduceIte,Int.reduceToNat,Int.reduceLE,Int.reduceLT,Int.reduceNe,Int.reduceEq];intro b3;refine eu (K8 _ up hu a hl _) ?_;simp(maxDischargeDepth:=12) (maxSteps:=1000000) -implicitDefEqProofs only[go_sem,Nat.reduceAdd,Nat.reduceSub,Nat.reduceMul,Nat.reduceLeDiff,Nat.reduceEqDiff,Nat.reduceGT,Nat.reduceBEq,reduceCtorEq,↓reduceIte,Int.reduceToNat,Int.reduceLE,Int.reduceLT,Int.reduceNe,Int.reduceEq];refine eu (K8 _ up hu b hl _) ?_;simp(maxDischargeDepth:=12) (maxSteps:=1000000) -implicitDefEqProofs only[go_sem,Nat.reduceAdd,Nat.reduceSub,Nat.reduceMul,Nat.reduceLeDiff,Nat.reduceEqDiff,Nat.reduceGT,Nat.reduceBEq,reduceCtorEq,↓reduceIte,Int.reduceToNat,Int.reduceLE,Int.reduceLT,Int.reduceNe,Int.reduceEq,eT hwa hwb];refine eu (FM _ hg _ (KL hwa) 148 b3.n (by kernel_rfl) [ec up] (fun x y=>cS up y x) (fun w1 c d T _ _ hT=>QH w1 up hu b3.n c d T hT) _ (by simp(maxDischargeDepth:=12) (maxSteps:=1000000) -implicitDefEqProofs only[go_sem,Nat.reduceAdd,Nat.reduceSub,Nat.reduceMul,Nat.reduceLeDiff,Nat.reduceEqDiff,Nat.reduceGT,Nat.reduceBEq,reduceCtorEq,↓reduceIte,Int.reduceToNat,Int.reduceLE,Int.reduceLT,Int.reduceNe,Int.reduceEq])) ?_;simp(maxDischargeDepth:=12) (maxSteps:=1000000) -implicitDefEqProofs only[go_sem,Nat.reduceAdd,Nat.reduceSub,Nat.reduceMul,Nat.reduceLeDiff,Nat.reduceEqDiff,Nat.reduceGT,Nat.reduceBEq,reduceCtorEq,↓reduceIte,Int.reduceToNat,Int.reduceLE,Int.reduceLT,Int.reduceNe,Int.reduceEq]
theorem lW{up:List Nat}(hl:up.length≤64){a b:Nat}(ha:a<up.length)(hb:b<up.length):iP (cS up) (bJ up a &&& bJ up b)<0↔¬kL (cS up) up.length a b:=rP (Bz hl ha hb) (uL _ _)
theorem lQ{up:List Nat}(hl:up.length≤64){a b:Nat}:iP (fun x y=>cS up y x) (cm up a &&& cm up b)<0↔¬kL (fun x y=>cS up y x) up.length a b:=rP (Ct hl) (uL _ _)
theorem jc{up:List Nat}:kA up↔1≤up.length∧up.length≤64∧Cl up∧∀a,a<up.length→∀b,b<a→(¬(cS up a b=true∧cS up b a=true))∧kL (cS up) up.length a b∧kL (fun x y=>cS up y x) up.length a b:=by
 constructor
 ·intro h;refine⟨h.pos,h.le,h.cl,fun a ha b hb=>⟨fun q=>?_,h.join a b hb ha,h.meet a b hb ha⟩⟩;have:=h.C8 a b (cB.1 q.1).2.2.2 (cB.1 q.2).2.2.2;omega
 ·rintro⟨h1,h2,h3,h4⟩;refine⟨h1,h2,h3,fun a b q r=>?_,fun a b hb ha=>(h4 a ha b hb).2.1,fun a b hb ha=>(h4 a ha b hb).2.2⟩;have ha:=fC q;have hb:=fC r;rcases Yl a b with e|e|e
  ·exact absurd ⟨cB.2 ⟨h2,hb,ha,r⟩,cB.2 ⟨h2,ha,hb,q⟩⟩ (h4 b hb a e).1
  ·exact e
  ·exact absurd ⟨cB.2 ⟨h2,ha,hb,q⟩,cB.2 ⟨h2,hb,ha,r⟩⟩ (h4 a ha b e).1
theorem TN(w0:W0)(hg:ib w0)(up:List Nat)(hu:di up)(h0:up.length≤4611686018427387904)(S:St):aa Tryz.prog w0 61 [ec up] S (fun d S'=>d=dB (pB (kA up))∧S'=S):=by
 refine bW [] mx Tryz.func61 rfl rfl (by kernel_rfl) ?_;simp(maxDischargeDepth:=12) (maxSteps:=1000000) -implicitDefEqProofs only[Tryz.ntmps61,go_sem,Nat.reduceAdd,Nat.reduceSub,Nat.reduceMul,Nat.reduceLeDiff,Nat.reduceEqDiff,Nat.reduceGT,Nat.reduceBEq,reduceCtorEq,↓reduceIte,Int.reduceToNat,Int.reduceLE,Int.reduceLT,Int.reduceNe,Int.reduceEq];refine⟨fun h hp=>by have:=hp.pos;omega,fun h1=>⟨fun h hp=>by have:=hp.le;omega,fun h2=>ao (Og _ up hu (by omega) _) ?_⟩⟩;have hl:up.length≤64:=by omega
 simp(maxDischargeDepth:=12) (maxSteps:=1000000) -implicitDefEqProofs only[go_sem,Nat.reduceAdd,Nat.reduceSub,Nat.reduceMul,Nat.reduceLeDiff,Nat.reduceEqDiff,Nat.reduceGT,Nat.reduceBEq,reduceCtorEq,↓reduceIte,Int.reduceToNat,Int.reduceLE,Int.reduceLT,Int.reduceNe,Int.reduceEq];refine ao (NF _ (eC up) up (by rw[oM];omega) _) ?_;simp(maxDischargeDepth:=12) (maxSteps:=1000000) -implicitDefEqProofs only[go_sem,Nat.reduceAdd,Nat.reduceSub,Nat.reduceMul,Nat.reduceLeDiff,Nat.reduceEqDiff,Nat.reduceGT,Nat.reduceBEq,reduceCtorEq,↓reduceIte,Int.reduceToNat,Int.reduceLE,Int.reduceLT,Int.reduceNe,Int.reduceEq];refine⟨fun hne hp=>hne (so hp.cl),fun heq=>?_⟩;have hcl:=qR.1 (Xp.1 heq);refine aX [] up.length [0,21,22] (fun a=>[(22,dI a)]) (fun _=>S) (fun a=>∀a',a'<a→∀b,b<a'→(¬(cS up a' b=true∧cS up b a'=true))∧qh up a' b) mx (by kernel_rfl) ?_ ?_
 ·simp(maxDischargeDepth:=12) (maxSteps:=1000000) -implicitDefEqProofs only[go_sem,Nat.reduceAdd,Nat.reduceSub,Nat.reduceMul,Nat.reduceLeDiff,Nat.reduceEqDiff,Nat.reduceGT,Nat.reduceBEq,reduceCtorEq,↓reduceIte,Int.reduceToNat,Int.reduceLE,Int.reduceLT,Int.reduceNe,Int.reduceEq];intro a' ha';omega
 ·intro a ha hA;simp(maxDischargeDepth:=12) (maxSteps:=1000000) -implicitDefEqProofs only[go_sem,Nat.reduceAdd,Nat.reduceSub,Nat.reduceMul,Nat.reduceLeDiff,Nat.reduceEqDiff,Nat.reduceGT,Nat.reduceBEq,reduceCtorEq,↓reduceIte,Int.reduceToNat,Int.reduceLE,Int.reduceLT,Int.reduceNe,Int.reduceEq];refine⟨fun hla=>?_,fun hge=>?_⟩
  ·refine aX [] a [0,3,21,22,25,26] (fun b=>[(26,dI b)]) (fun _=>S) (fun b=>∀b',b'<b→(¬(cS up a b'=true∧cS up b' a=true))∧qh up a b') mx (by kernel_rfl) ?_ ?_
   ·simp(maxDischargeDepth:=12) (maxSteps:=1000000) -implicitDefEqProofs only[go_sem,Nat.reduceAdd,Nat.reduceSub,Nat.reduceMul,Nat.reduceLeDiff,Nat.reduceEqDiff,Nat.reduceGT,Nat.reduceBEq,reduceCtorEq,↓reduceIte,Int.reduceToNat,Int.reduceLE,Int.reduceLT,Int.reduceNe,Int.reduceEq];intro b' hb';omega
   ·intro b hb hB;simp(maxDischargeDepth:=12) (maxSteps:=1000000) -implicitDefEqProofs only[go_sem,Nat.reduceAdd,Nat.reduceSub,Nat.reduceMul,Nat.reduceLeDiff,Nat.reduceEqDiff,Nat.reduceGT,Nat.reduceBEq,reduceCtorEq,↓reduceIte,Int.reduceToNat,Int.reduceLE,Int.reduceLT,Int.reduceNe,Int.reduceEq];refine⟨fun hlb=>ao (tG _ up hu a b _) ?_,fun hge=>?_⟩
    ·simp(maxDischargeDepth:=12) (maxSteps:=1000000) -implicitDefEqProofs only[go_sem,Nat.reduceAdd,Nat.reduceSub,Nat.reduceMul,Nat.reduceLeDiff,Nat.reduceEqDiff,Nat.reduceGT,Nat.reduceBEq,reduceCtorEq,↓reduceIte,Int.reduceToNat,Int.reduceLE,Int.reduceLT,Int.reduceNe,Int.reduceEq,ed];refine⟨fun p1=>ao (tG _ up hu b a _) ?_,fun p1=>ao (Kz _ hg up hu hl a b hla (by omega) _) ?_⟩
     ·simp(maxDischargeDepth:=12) (maxSteps:=1000000) -implicitDefEqProofs only[go_sem,Nat.reduceAdd,Nat.reduceSub,Nat.reduceMul,Nat.reduceLeDiff,Nat.reduceEqDiff,Nat.reduceGT,Nat.reduceBEq,reduceCtorEq,↓reduceIte,Int.reduceToNat,Int.reduceLE,Int.reduceLT,Int.reduceNe,Int.reduceEq,ed];refine⟨fun p2 hp=>(jc.1 hp |>.2.2.2 a hla b hlb).1 ⟨p1,p2⟩,fun p2=>ao (Kz _ hg up hu hl a b hla (by omega) _) ?_⟩;simp(maxDischargeDepth:=12) (maxSteps:=1000000) -implicitDefEqProofs only[go_sem,Nat.reduceAdd,Nat.reduceSub,Nat.reduceMul,Nat.reduceLeDiff,Nat.reduceEqDiff,Nat.reduceGT,Nat.reduceBEq,reduceCtorEq,↓reduceIte,Int.reduceToNat,Int.reduceLE,Int.reduceLT,Int.reduceNe,Int.reduceEq];refine⟨fun q hp=>(lW hl hla (by omega)).1 q (jc.1 hp |>.2.2.2 a hla b hlb).2.1,fun q=>ao (K1 _ hg up hu hl a b _) ?_⟩;simp(maxDischargeDepth:=12) (maxSteps:=1000000) -implicitDefEqProofs only[go_sem,Nat.reduceAdd,Nat.reduceSub,Nat.reduceMul,Nat.reduceLeDiff,Nat.reduceEqDiff,Nat.reduceGT,Nat.reduceBEq,reduceCtorEq,↓reduceIte,Int.reduceToNat,Int.reduceLE,Int.reduceLT,Int.reduceNe,Int.reduceEq];refine⟨fun q2 hp=>(lQ hl).1 q2 (jc.1 hp |>.2.2.2 a hla b hlb).2.2,fun q2=>⟨hlb,fun b' hb'=>?_,aI (by omega)⟩⟩;by_cases e:b'=b
      ·subst e;exact⟨fun h=>(by rw[p2]at h;cases h.2),Xp.1 fun g=>q ((lW hl hla (by omega)).2 g),Xp.1 fun g=>q2 ((lQ hl).2 g)⟩
      ·exact hB b' (by omega)
     ·skip
      simp(maxDischargeDepth:=12) (maxSteps:=1000000) -implicitDefEqProofs only[go_sem,Nat.reduceAdd,Nat.reduceSub,Nat.reduceMul,Nat.reduceLeDiff,Nat.reduceEqDiff,Nat.reduceGT,Nat.reduceBEq,reduceCtorEq,↓reduceIte,Int.reduceToNat,Int.reduceLE,Int.reduceLT,Int.reduceNe,Int.reduceEq];refine⟨fun q hp=>(lW hl hla (by omega)).1 q (jc.1 hp |>.2.2.2 a hla b hlb).2.1,fun q=>ao (K1 _ hg up hu hl a b _) ?_⟩;simp(maxDischargeDepth:=12) (maxSteps:=1000000) -implicitDefEqProofs only[go_sem,Nat.reduceAdd,Nat.reduceSub,Nat.reduceMul,Nat.reduceLeDiff,Nat.reduceEqDiff,Nat.reduceGT,Nat.reduceBEq,reduceCtorEq,↓reduceIte,Int.reduceToNat,Int.reduceLE,Int.reduceLT,Int.reduceNe,Int.reduceEq];refine⟨fun q2 hp=>(lQ hl).1 q2 (jc.1 hp |>.2.2.2 a hla b hlb).2.2,fun q2=>⟨hlb,fun b' hb'=>?_,aI (by omega)⟩⟩;by_cases e:b'=b
      ·subst e;exact⟨fun h=>(by rw[p1]at h;cases h.1),Xp.1 fun g=>q ((lW hl hla (by omega)).2 g),Xp.1 fun g=>q2 ((lQ hl).2 g)⟩
      ·exact hB b' (by omega)
    ·have e:b=a:=by omega
     subst e;refine⟨hla,fun a' ha'=>?_,aI (by omega)⟩;by_cases e:a'=b
     ·subst e;exact hB
     ·exact hA a' (by omega)
  ·have e:a=up.length:=by omega
   subst e;exact jc.2 ⟨by omega,hl,hcl,hA⟩
end Go.Proofs.YtoepfmhnapedoaaGreatDoor
namespace Grs
structure G where
 a:Int
 f:Int
 t:Int
 deriving DecidableEq
def wE(x y:G):Bool:=decide (x.a<y.a∨(x.a=y.a∧(x.f<y.f∨(x.f=y.f∧x.t<y.t))))
theorem Ju{x y:G}:wE x y=true↔(x.a<y.a∨(x.a=y.a∧(x.f<y.f∨(x.f=y.f∧x.t<y.t)))):=decide_eq_true_iff
theorem CS{x y z:G}(h1:wE x y=true)(h2:wE y z=true):wE x z=true:=by
 rw[Ju]at *;omega
def Up(l:List G):Prop:=l.Pairwise fun x y=>wE x y=true
end Grs
namespace Go.Proofs.YtoepfmhnapedoaaGreatDoor
open Aml Go Lat Grs
@[go_sem] def gD (g:G):DV:= .agg [dI g.a,dI g.f,dI g.t]
@[go_sem] def jN (l:List G):DV:= .sl 3 false (l.map gD)
def pA(x y:Int):Int:=if x<y then -1 else if y<x then 1 else 0
def DK(x y:G):Int:=if wE x y then -1 else if wE y x then 1 else 0
theorem EU{x y:G}:DK x y<0↔wE x y=true:=by
 unfold DK;cases h:wE x y <;>cases h2:wE y x <;>simp
theorem IL(x y:G):DK x y=if pA x.a y.a≠0 then pA x.a y.a else if pA x.f y.f≠0 then pA x.f y.f else pA x.t y.t:=by
 unfold DK pA wE;simp only[decide_eq_true_eq];split <;>(repeat' split) <;>first|rfl|omega
theorem isNaN(w0:W0)(x:Int)(S:St):aa Tryz.prog w0 197 [dI x] S (fun d S'=>d=dB false∧S'=S):=by
 refine bW [] mx Tryz.func197 rfl rfl (by kernel_rfl) ?_;simp(maxDischargeDepth:=12) (maxSteps:=1000000) -implicitDefEqProofs only[Tryz.ntmps197,go_sem,Nat.reduceAdd,Nat.reduceSub,Nat.reduceMul,Nat.reduceLeDiff,Nat.reduceEqDiff,Nat.reduceGT,Nat.reduceBEq,reduceCtorEq,↓reduceIte,Int.reduceToNat,Int.reduceLE,Int.reduceLT,Int.reduceNe,Int.reduceEq]
theorem l8(w0:W0)(x y:Int)(S:St):aa Tryz.prog w0 178 [dI x,dI y] S (fun d S'=>d=dI (pA x y)∧S'=S):=by
 refine bW [] mx Tryz.func178 rfl rfl (by kernel_rfl) ?_;simp(maxDischargeDepth:=12) (maxSteps:=1000000) -implicitDefEqProofs only[Tryz.ntmps178,go_sem,Nat.reduceAdd,Nat.reduceSub,Nat.reduceMul,Nat.reduceLeDiff,Nat.reduceEqDiff,Nat.reduceGT,Nat.reduceBEq,reduceCtorEq,↓reduceIte,Int.reduceToNat,Int.reduceLE,Int.reduceLT,Int.reduceNe,Int.reduceEq];refine ao (isNaN _ x _) ?_;simp(maxDischargeDepth:=12) (maxSteps:=1000000) -implicitDefEqProofs only[go_sem,Nat.reduceAdd,Nat.reduceSub,Nat.reduceMul,Nat.reduceLeDiff,Nat.reduceEqDiff,Nat.reduceGT,Nat.reduceBEq,reduceCtorEq,↓reduceIte,Int.reduceToNat,Int.reduceLE,Int.reduceLT,Int.reduceNe,Int.reduceEq];refine ao (isNaN _ y _) ?_;simp(maxDischargeDepth:=12) (maxSteps:=1000000) -implicitDefEqProofs only[go_sem,Nat.reduceAdd,Nat.reduceSub,Nat.reduceMul,Nat.reduceLeDiff,Nat.reduceEqDiff,Nat.reduceGT,Nat.reduceBEq,reduceCtorEq,↓reduceIte,Int.reduceToNat,Int.reduceLE,Int.reduceLT,Int.reduceNe,Int.reduceEq];unfold pA;refine⟨fun h=>?_,fun h=>⟨fun h2=>?_,fun h2=>?_⟩⟩
 ·rw[if_pos h]
 ·rw[if_neg (by omega),if_pos (by omega)]
 ·rw[if_neg (by omega),if_neg (by omega)]
theorem UW(w0:W0)(x y z:Int)(S:St):aa Tryz.prog w0 177 [.sl 1 false [dI x,dI y,dI z]] S (fun d S'=>d=dI (if x≠0 then x else if y≠0 then y else z)∧S'=S):=by
 refine bW [] mx Tryz.func177 rfl rfl (by kernel_rfl) ?_;simp(maxDischargeDepth:=12) (maxSteps:=1000000) -implicitDefEqProofs only[Tryz.ntmps177,go_sem,Nat.reduceAdd,Nat.reduceSub,Nat.reduceMul,Nat.reduceLeDiff,Nat.reduceEqDiff,Nat.reduceGT,Nat.reduceBEq,reduceCtorEq,↓reduceIte,Int.reduceToNat,Int.reduceLE,Int.reduceLT,Int.reduceNe,Int.reduceEq];refine aX [] 3 [3,6,7,8] (fun a=>[(8,dI a)]) (fun _=>S) (fun a=>(1≤a→x=0)∧(2≤a→y=0)∧(3≤a→z=0)) mx (by kernel_rfl) ?_ ?_
 ·simp(maxDischargeDepth:=12) (maxSteps:=1000000) -implicitDefEqProofs only[go_sem,Nat.reduceAdd,Nat.reduceSub,Nat.reduceMul,Nat.reduceLeDiff,Nat.reduceEqDiff,Nat.reduceGT,Nat.reduceBEq,reduceCtorEq,↓reduceIte,Int.reduceToNat,Int.reduceLE,Int.reduceLT,Int.reduceNe,Int.reduceEq]
 ·intro a ha hA;obtain rfl|rfl|rfl|rfl:a=0∨a=1∨a=2∨a=3:=by omega
  ·simp(maxDischargeDepth:=12) (maxSteps:=1000000) -implicitDefEqProofs only[go_sem,Nat.reduceAdd,Nat.reduceSub,Nat.reduceMul,Nat.reduceLeDiff,Nat.reduceEqDiff,Nat.reduceGT,Nat.reduceBEq,reduceCtorEq,↓reduceIte,Int.reduceToNat,Int.reduceLE,Int.reduceLT,Int.reduceNe,Int.reduceEq];refine⟨fun h=>by rw[if_pos h],fun h=>⟨Xp.1 h,by rfl⟩⟩
  ·simp(maxDischargeDepth:=12) (maxSteps:=1000000) -implicitDefEqProofs only[go_sem,Nat.reduceAdd,Nat.reduceSub,Nat.reduceMul,Nat.reduceLeDiff,Nat.reduceEqDiff,Nat.reduceGT,Nat.reduceBEq,reduceCtorEq,↓reduceIte,Int.reduceToNat,Int.reduceLE,Int.reduceLT,Int.reduceNe,Int.reduceEq];have h0:=hA.1 (by omega);refine⟨fun h=>by rw[if_neg (by omega),if_pos h],fun h=>⟨⟨h0,Xp.1 h⟩,by rfl⟩⟩
  ·simp(maxDischargeDepth:=12) (maxSteps:=1000000) -implicitDefEqProofs only[go_sem,Nat.reduceAdd,Nat.reduceSub,Nat.reduceMul,Nat.reduceLeDiff,Nat.reduceEqDiff,Nat.reduceGT,Nat.reduceBEq,reduceCtorEq,↓reduceIte,Int.reduceToNat,Int.reduceLE,Int.reduceLT,Int.reduceNe,Int.reduceEq];have h0:=hA.1 (by omega);have h1:=hA.2.1 (by omega);refine⟨fun h=>by rw[if_neg (by omega),if_neg (by omega)],fun h=>⟨⟨h0,h1,Xp.1 h⟩,by rfl⟩⟩
  ·simp(maxDischargeDepth:=12) (maxSteps:=1000000) -implicitDefEqProofs only[go_sem,Nat.reduceAdd,Nat.reduceSub,Nat.reduceMul,Nat.reduceLeDiff,Nat.reduceEqDiff,Nat.reduceGT,Nat.reduceBEq,reduceCtorEq,↓reduceIte,Int.reduceToNat,Int.reduceLE,Int.reduceLT,Int.reduceNe,Int.reduceEq];have h0:=hA.1 (by omega);have h1:=hA.2.1 (by omega);have h2:=hA.2.2 (by omega);rw[if_neg (by omega),if_neg (by omega),h2]
theorem Fx(w0:W0)(x y:G)(S:St):aa Tryz.prog w0 149 [gD x,gD y] S (fun d S'=>d=dI (DK x y)∧S'=S):=by
 refine bW [] mx Tryz.func149 rfl rfl (by kernel_rfl) ?_;simp(maxDischargeDepth:=12) (maxSteps:=1000000) -implicitDefEqProofs only[Tryz.ntmps149,go_sem,Nat.reduceAdd,Nat.reduceSub,Nat.reduceMul,Nat.reduceLeDiff,Nat.reduceEqDiff,Nat.reduceGT,Nat.reduceBEq,reduceCtorEq,↓reduceIte,Int.reduceToNat,Int.reduceLE,Int.reduceLT,Int.reduceNe,Int.reduceEq];intro b2 b3;refine eu (l8 _ x.a y.a _) ?_;simp(maxDischargeDepth:=12) (maxSteps:=1000000) -implicitDefEqProofs only[go_sem,Nat.reduceAdd,Nat.reduceSub,Nat.reduceMul,Nat.reduceLeDiff,Nat.reduceEqDiff,Nat.reduceGT,Nat.reduceBEq,reduceCtorEq,↓reduceIte,Int.reduceToNat,Int.reduceLE,Int.reduceLT,Int.reduceNe,Int.reduceEq];refine eu (l8 _ x.f y.f _) ?_;simp(maxDischargeDepth:=12) (maxSteps:=1000000) -implicitDefEqProofs only[go_sem,Nat.reduceAdd,Nat.reduceSub,Nat.reduceMul,Nat.reduceLeDiff,Nat.reduceEqDiff,Nat.reduceGT,Nat.reduceBEq,reduceCtorEq,↓reduceIte,Int.reduceToNat,Int.reduceLE,Int.reduceLT,Int.reduceNe,Int.reduceEq];refine eu (l8 _ x.t y.t _) ?_;simp(maxDischargeDepth:=12) (maxSteps:=1000000) -implicitDefEqProofs only[go_sem,Nat.reduceAdd,Nat.reduceSub,Nat.reduceMul,Nat.reduceLeDiff,Nat.reduceEqDiff,Nat.reduceGT,Nat.reduceBEq,reduceCtorEq,↓reduceIte,Int.reduceToNat,Int.reduceLE,Int.reduceLT,Int.reduceNe,Int.reduceEq];refine eu (UW _ _ _ _ _) ?_ ⟨.full _ _ _,trivial⟩;simp(maxDischargeDepth:=12) (maxSteps:=1000000) -implicitDefEqProofs only[go_sem,Nat.reduceAdd,Nat.reduceSub,Nat.reduceMul,Nat.reduceLeDiff,Nat.reduceEqDiff,Nat.reduceGT,Nat.reduceBEq,reduceCtorEq,↓reduceIte,Int.reduceToNat,Int.reduceLE,Int.reduceLT,Int.reduceNe,Int.reduceEq];rw[IL]
theorem PM(w0:W0)(x y:G)(S:St):aa Tryz.prog w0 114 [gD x,gD y] S (fun d S'=>d=dB (wE x y)∧S'=S):=by
 refine bW [] mx Tryz.func114 rfl rfl (by kernel_rfl) ?_;simp(maxDischargeDepth:=12) (maxSteps:=1000000) -implicitDefEqProofs only[Tryz.ntmps114,go_sem,Nat.reduceAdd,Nat.reduceSub,Nat.reduceMul,Nat.reduceLeDiff,Nat.reduceEqDiff,Nat.reduceGT,Nat.reduceBEq,reduceCtorEq,↓reduceIte,Int.reduceToNat,Int.reduceLE,Int.reduceLT,Int.reduceNe,Int.reduceEq];intro b2 b3;refine ao (Fx _ x y _) ?_;simp(maxDischargeDepth:=12) (maxSteps:=1000000) -implicitDefEqProofs only[go_sem,Nat.reduceAdd,Nat.reduceSub,Nat.reduceMul,Nat.reduceLeDiff,Nat.reduceEqDiff,Nat.reduceGT,Nat.reduceBEq,reduceCtorEq,↓reduceIte,Int.reduceToNat,Int.reduceLE,Int.reduceLT,Int.reduceNe,Int.reduceEq];exact Bool.eq_iff_iff.2 (decide_eq_true_iff.trans EU)
theorem QA(w0:W0)(x y:G)(S:St):aa Tryz.prog w0 104 [gD x,gD y] S (fun d S'=>d=dB (wE x y)∧S'=S):=by
 refine bW [] mx Tryz.func104 rfl rfl (by kernel_rfl) ?_;simp(maxDischargeDepth:=12) (maxSteps:=1000000) -implicitDefEqProofs only[Tryz.ntmps104,go_sem,Nat.reduceAdd,Nat.reduceSub,Nat.reduceMul,Nat.reduceLeDiff,Nat.reduceEqDiff,Nat.reduceGT,Nat.reduceBEq,reduceCtorEq,↓reduceIte,Int.reduceToNat,Int.reduceLE,Int.reduceLT,Int.reduceNe,Int.reduceEq];intro b2 b3;unfold wE;refine⟨fun h=>decide_eq_decide.2 (by omega),fun h=>⟨fun h2=>decide_eq_decide.2 (by omega),fun h2=>decide_eq_decide.2 (by omega)⟩⟩
def xg(up:List Nat)(g:G):Bool:=cR up g.f g.a&&cR up g.t g.a&&!cR up g.f g.t
theorem SL(w0:W0)(up:List Nat)(hu:di up)(g:G)(S:St):aa Tryz.prog w0 113 [ec up,gD g] S (fun d S'=>d=dB (xg up g)∧S'=S):=by
 refine bW [] mx Tryz.func113 rfl rfl (by kernel_rfl) ?_;simp(maxDischargeDepth:=12) (maxSteps:=1000000) -implicitDefEqProofs only[Tryz.ntmps113,go_sem,Nat.reduceAdd,Nat.reduceSub,Nat.reduceMul,Nat.reduceLeDiff,Nat.reduceEqDiff,Nat.reduceGT,Nat.reduceBEq,reduceCtorEq,↓reduceIte,Int.reduceToNat,Int.reduceLE,Int.reduceLT,Int.reduceNe,Int.reduceEq];intro b;unfold xg;refine ao (tG _ up hu g.f g.a _) ?_;simp(maxDischargeDepth:=12) (maxSteps:=1000000) -implicitDefEqProofs only[go_sem,Nat.reduceAdd,Nat.reduceSub,Nat.reduceMul,Nat.reduceLeDiff,Nat.reduceEqDiff,Nat.reduceGT,Nat.reduceBEq,reduceCtorEq,↓reduceIte,Int.reduceToNat,Int.reduceLE,Int.reduceLT,Int.reduceNe,Int.reduceEq];refine⟨fun h=>ao (tG _ up hu g.t g.a _) ?_,fun h=>by rw[h];rfl⟩;simp(maxDischargeDepth:=12) (maxSteps:=1000000) -implicitDefEqProofs only[go_sem,Nat.reduceAdd,Nat.reduceSub,Nat.reduceMul,Nat.reduceLeDiff,Nat.reduceEqDiff,Nat.reduceGT,Nat.reduceBEq,reduceCtorEq,↓reduceIte,Int.reduceToNat,Int.reduceLE,Int.reduceLT,Int.reduceNe,Int.reduceEq];refine⟨fun h2=>ao (tG _ up hu g.f g.t _) ?_,fun h2=>by rw[h,h2];rfl⟩;simp(maxDischargeDepth:=12) (maxSteps:=1000000) -implicitDefEqProofs only[go_sem,Nat.reduceAdd,Nat.reduceSub,Nat.reduceMul,Nat.reduceLeDiff,Nat.reduceEqDiff,Nat.reduceGT,Nat.reduceBEq,reduceCtorEq,↓reduceIte,Int.reduceToNat,Int.reduceLE,Int.reduceLT,Int.reduceNe,Int.reduceEq];rw[h,h2];rfl
theorem Tc(w0:W0)(up:List Nat)(hu:di up)(g:G)(S:St):aa Tryz.prog w0 103 [ec up,gD g] S (fun d S'=>d=dB (xg up g)∧S'=S):=by
 refine bW [] mx Tryz.func103 rfl rfl (by kernel_rfl) ?_;simp(maxDischargeDepth:=12) (maxSteps:=1000000) -implicitDefEqProofs only[Tryz.ntmps103,go_sem,Nat.reduceAdd,Nat.reduceSub,Nat.reduceMul,Nat.reduceLeDiff,Nat.reduceEqDiff,Nat.reduceGT,Nat.reduceBEq,reduceCtorEq,↓reduceIte,Int.reduceToNat,Int.reduceLE,Int.reduceLT,Int.reduceNe,Int.reduceEq];intro b;unfold xg;refine ao (l5 _ up hu g.f g.a _) ?_;simp(maxDischargeDepth:=12) (maxSteps:=1000000) -implicitDefEqProofs only[go_sem,Nat.reduceAdd,Nat.reduceSub,Nat.reduceMul,Nat.reduceLeDiff,Nat.reduceEqDiff,Nat.reduceGT,Nat.reduceBEq,reduceCtorEq,↓reduceIte,Int.reduceToNat,Int.reduceLE,Int.reduceLT,Int.reduceNe,Int.reduceEq];refine⟨fun h=>ao (l5 _ up hu g.t g.a _) ?_,fun h=>by rw[h];rfl⟩;simp(maxDischargeDepth:=12) (maxSteps:=1000000) -implicitDefEqProofs only[go_sem,Nat.reduceAdd,Nat.reduceSub,Nat.reduceMul,Nat.reduceLeDiff,Nat.reduceEqDiff,Nat.reduceGT,Nat.reduceBEq,reduceCtorEq,↓reduceIte,Int.reduceToNat,Int.reduceLE,Int.reduceLT,Int.reduceNe,Int.reduceEq];refine⟨fun h2=>ao (l5 _ up hu g.f g.t _) ?_,fun h2=>by rw[h,h2];rfl⟩;simp(maxDischargeDepth:=12) (maxSteps:=1000000) -implicitDefEqProofs only[go_sem,Nat.reduceAdd,Nat.reduceSub,Nat.reduceMul,Nat.reduceLeDiff,Nat.reduceEqDiff,Nat.reduceGT,Nat.reduceBEq,reduceCtorEq,↓reduceIte,Int.reduceToNat,Int.reduceLE,Int.reduceLT,Int.reduceNe,Int.reduceEq];rw[h,h2];rfl
def HQ(up:List Nat)(l:List G):Prop:=l.length≤64∧(∀g,g∈l→xg up g=true)∧Up l
def OX(up:List Nat)(l:List G)(k:Nat):Prop:=∀i,i<k→(∀g,l[i]? =some g→xg up g=true)∧(∀x y,0<i→l[i-1]? =some x→l[i]? =some y→wE x y=true)
theorem Nf{l:List G}:Up l↔∀i,(h:i+1<l.length)→wE (l[i]'(by omega)) l[i+1]=true:=by
 unfold Up;rw[Yp];constructor
 ·intro h i hi;exact h i (i+1) (by omega) hi (by omega)
 ·intro h i j hi hj hij
  induction j with
  |zero=>omega
  |succ j ih=>
   by_cases e:i=j
   ·subst e;exact h i hj
   ·exact CS (ih (by omega) (by omega)) (h j hj)
theorem oV{up:List Nat}{l:List G}:HQ up l↔l.length≤64∧OX up l l.length:=by
 unfold HQ OX;rw[Nf];constructor
 ·rintro⟨h1,h2,h3⟩;refine⟨h1,fun i hi=>⟨fun g hg=>h2 g (W7 hg),fun x y h0 hx hy=>?_⟩⟩;have:=h3 (i-1) (by omega);obtain⟨q1,e1⟩:=W6.1 hx;obtain⟨q2,e2⟩:=W6.1 hy;simp only[show i-1+1=i from by omega]at this;rw[e1,e2]at this;exact this
 ·rintro⟨h1,h2⟩;refine⟨h1,fun g hg=>?_,fun i hi=>?_⟩
  ·obtain⟨i,hi,e⟩:=Y4.1 hg;exact(h2 i hi).1 g (by rw[W5 hi,e])
  ·exact(h2 (i+1) hi).2 _ _ (by omega) (by rw[Nat.add_sub_cancel];exact W5 (by omega)) (W5 hi)
theorem lO{up:List Nat}{l:List G}{a:Nat}(h:OX up l a)(h1:∀g,l[a]? =some g→xg up g=true)(h2:∀x y,0<a→l[a-1]? =some x→l[a]? =some y→wE x y=true):OX up l (a+1):=fun i hi=>by
 by_cases e:i=a
 ·subst e;exact⟨h1,h2⟩
 ·exact h i (by omega)
theorem VZ(w0:W0)(up:List Nat)(hu:di up)(l:List G)(h0:l.length≤4611686018427387904)(S:St):aa Tryz.prog w0 62 [ec up,jN l] S (fun d S'=>d=dB (pB (HQ up l))∧S'=S):=by
 refine bW [] mx Tryz.func62 rfl rfl (by kernel_rfl) ?_;simp(maxDischargeDepth:=12) (maxSteps:=1000000) -implicitDefEqProofs only[Tryz.ntmps62,go_sem,Nat.reduceAdd,Nat.reduceSub,Nat.reduceMul,Nat.reduceLeDiff,Nat.reduceEqDiff,Nat.reduceGT,Nat.reduceBEq,reduceCtorEq,↓reduceIte,Int.reduceToNat,Int.reduceLE,Int.reduceLT,Int.reduceNe,Int.reduceEq];refine aX [] l.length [0,1,7,8,9] (fun a=>[(9,dI a)]) (fun _=>S) (fun a=>OX up l a) mx (by kernel_rfl) ?_ ?_
 ·simp(maxDischargeDepth:=12) (maxSteps:=1000000) -implicitDefEqProofs only[go_sem,Nat.reduceAdd,Nat.reduceSub,Nat.reduceMul,Nat.reduceLeDiff,Nat.reduceEqDiff,Nat.reduceGT,Nat.reduceBEq,reduceCtorEq,↓reduceIte,Int.reduceToNat,Int.reduceLE,Int.reduceLT,Int.reduceNe,Int.reduceEq];intro a ha;omega
 ·intro a ha hA;simp(maxDischargeDepth:=12) (maxSteps:=1000000) -implicitDefEqProofs only[go_sem,Nat.reduceAdd,Nat.reduceSub,Nat.reduceMul,Nat.reduceLeDiff,Nat.reduceEqDiff,Nat.reduceGT,Nat.reduceBEq,reduceCtorEq,↓reduceIte,Int.reduceToNat,Int.reduceLE,Int.reduceLT,Int.reduceNe,Int.reduceEq];refine⟨fun hla=>⟨hla,fun g hg b=>eu (SL _ up hu g _) ?_⟩,fun hge=>?_⟩
  ·simp(maxDischargeDepth:=12) (maxSteps:=1000000) -implicitDefEqProofs only[go_sem,Nat.reduceAdd,Nat.reduceSub,Nat.reduceMul,Nat.reduceLeDiff,Nat.reduceEqDiff,Nat.reduceGT,Nat.reduceBEq,reduceCtorEq,↓reduceIte,Int.reduceToNat,Int.reduceLE,Int.reduceLT,Int.reduceNe,Int.reduceEq];refine⟨fun q hp=>?_,fun q=>?_⟩
   ·have:=hp.2.1 g (W7 hg);rw[q]at this;cases this
   ·refine⟨fun h0a=>?_,fun h0a=>⟨hla,lO hA (fun g' hg'=>by rw[hg]at hg';cases hg';exact q) (fun x y h=>by omega),aI (by omega)⟩⟩;rw[oD (show -9223372036854775808≤(a:Int)-1 by omega) (by omega)];refine⟨by omega,by omega,fun x hx=>?_⟩;rw[show((a:Int)-1).toNat=a-1 from by omega]at hx;refine eu (PM _ x g _) ?_;simp(maxDischargeDepth:=12) (maxSteps:=1000000) -implicitDefEqProofs only[go_sem,Nat.reduceAdd,Nat.reduceSub,Nat.reduceMul,Nat.reduceLeDiff,Nat.reduceEqDiff,Nat.reduceGT,Nat.reduceBEq,reduceCtorEq,↓reduceIte,Int.reduceToNat,Int.reduceLE,Int.reduceLT,Int.reduceNe,Int.reduceEq];refine⟨fun q2=>⟨hla,lO hA (fun g' hg'=>by rw[hg]at hg';cases hg';exact q) (fun x' y' _ hx' hy'=>by rw[hx]at hx';rw[hg]at hy';cases hx';cases hy';exact q2),aI (by omega)⟩,fun q2 hp=>?_⟩;have:=((oV.1 hp).2 a hla).2 x g (by omega) hx hg;rw[q2]at this;cases this
  ·have e:a=l.length:=by omega
   subst e;rw[oV];exact⟨fun h=>⟨by omega,hA⟩,fun h=>by omega⟩
theorem Vg(w0:W0)(up:List Nat)(hu:di up)(l:List G)(h0:l.length≤4611686018427387904)(S:St):aa Tryz.prog w0 56 [ec up,jN l] S (fun d S'=>d=dB (pB (HQ up l))∧S'=S):=by
 refine bW [] mx Tryz.func56 rfl rfl (by kernel_rfl) ?_;simp(maxDischargeDepth:=12) (maxSteps:=1000000) -implicitDefEqProofs only[Tryz.ntmps56,go_sem,Nat.reduceAdd,Nat.reduceSub,Nat.reduceMul,Nat.reduceLeDiff,Nat.reduceEqDiff,Nat.reduceGT,Nat.reduceBEq,reduceCtorEq,↓reduceIte,Int.reduceToNat,Int.reduceLE,Int.reduceLT,Int.reduceNe,Int.reduceEq];refine⟨fun h hp=>by have:=hp.1;omega,fun hl=>?_⟩;refine aX [] l.length [0,1,5] (fun a=>[(5,dI a)]) (fun _=>S) (fun a=>OX up l a) mx (by kernel_rfl) ?_ ?_
 ·simp(maxDischargeDepth:=12) (maxSteps:=1000000) -implicitDefEqProofs only[go_sem,Nat.reduceAdd,Nat.reduceSub,Nat.reduceMul,Nat.reduceLeDiff,Nat.reduceEqDiff,Nat.reduceGT,Nat.reduceBEq,reduceCtorEq,↓reduceIte,Int.reduceToNat,Int.reduceLE,Int.reduceLT,Int.reduceNe,Int.reduceEq];intro a ha;omega
 ·intro a ha hA;simp(maxDischargeDepth:=12) (maxSteps:=1000000) -implicitDefEqProofs only[go_sem,Nat.reduceAdd,Nat.reduceSub,Nat.reduceMul,Nat.reduceLeDiff,Nat.reduceEqDiff,Nat.reduceGT,Nat.reduceBEq,reduceCtorEq,↓reduceIte,Int.reduceToNat,Int.reduceLE,Int.reduceLT,Int.reduceNe,Int.reduceEq];refine⟨fun hla=>⟨hla,fun g hg=>ao (Tc _ up hu g _) ?_⟩,fun hge=>?_⟩
  ·simp(maxDischargeDepth:=12) (maxSteps:=1000000) -implicitDefEqProofs only[go_sem,Nat.reduceAdd,Nat.reduceSub,Nat.reduceMul,Nat.reduceLeDiff,Nat.reduceEqDiff,Nat.reduceGT,Nat.reduceBEq,reduceCtorEq,↓reduceIte,Int.reduceToNat,Int.reduceLE,Int.reduceLT,Int.reduceNe,Int.reduceEq];refine⟨fun q hp=>?_,fun q=>?_⟩
   ·have:=hp.2.1 g (W7 hg);rw[q]at this;cases this
   ·refine⟨fun h0a=>?_,fun h0a=>⟨hla,lO hA (fun g' hg'=>by rw[hg]at hg';cases hg';exact q) (fun x y h=>by omega),aI (by omega)⟩⟩;rw[oD (show -9223372036854775808≤(a:Int)-1 by omega) (by omega)];refine⟨by omega,by omega,fun x hx=>?_⟩;rw[show((a:Int)-1).toNat=a-1 from by omega]at hx;refine⟨hla,fun y hy=>?_⟩;rw[hg]at hy;cases hy;refine eu (QA _ x g _) ?_;simp(maxDischargeDepth:=12) (maxSteps:=1000000) -implicitDefEqProofs only[go_sem,Nat.reduceAdd,Nat.reduceSub,Nat.reduceMul,Nat.reduceLeDiff,Nat.reduceEqDiff,Nat.reduceGT,Nat.reduceBEq,reduceCtorEq,↓reduceIte,Int.reduceToNat,Int.reduceLE,Int.reduceLT,Int.reduceNe,Int.reduceEq];refine⟨fun q2=>⟨hla,lO hA (fun g' hg'=>by rw[hg]at hg';cases hg';exact q) (fun x' y' _ hx' hy'=>by rw[hx]at hx';rw[hg]at hy';cases hx';cases hy';exact q2),aI (by omega)⟩,fun q2 hp=>?_⟩;have:=((oV.1 hp).2 a hla).2 x g (by omega) hx hg;rw[q2]at this;cases this
  ·have e:a=l.length:=by omega
   subst e;exact oV.2 ⟨by omega,hA⟩
end Go.Proofs.YtoepfmhnapedoaaGreatDoor
namespace Go.Proofs.YtoepfmhnapedoaaGreatDoor
open Aml Go Lat Grs Rn
def pK(c:Nat):Bool:=decide ((97≤c∧c≤122)∨(65≤c∧c≤90)∨128≤c)
theorem Jq(w0:W0)(c:Nat)(S:St):aa Tryz.prog w0 115 [.v (.int .i32 (c:Int))] S (fun d S'=>d=dB (pK c)∧S'=S):=by
 refine bW [] mx Tryz.func115 rfl rfl (by kernel_rfl) ?_;simp(maxDischargeDepth:=12) (maxSteps:=1000000) -implicitDefEqProofs only[Tryz.ntmps115,go_sem,Nat.reduceAdd,Nat.reduceSub,Nat.reduceMul,Nat.reduceLeDiff,Nat.reduceEqDiff,Nat.reduceGT,Nat.reduceBEq,reduceCtorEq,↓reduceIte,Int.reduceToNat,Int.reduceLE,Int.reduceLT,Int.reduceNe,Int.reduceEq];unfold pK
 (repeat' first|refine⟨?_,?_⟩|intro _) <;>first|exact(decide_eq_true (by omega)).symm|exact decide_eq_decide.2 (by omega)
theorem IW(w0:W0)(c:Nat)(S:St):aa Tryz.prog w0 105 [.v (.int .i32 (c:Int))] S (fun d S'=>d=dB (pK c)∧S'=S):=by
 refine bW [] mx Tryz.func105 rfl rfl (by kernel_rfl) ?_;simp(maxDischargeDepth:=12) (maxSteps:=1000000) -implicitDefEqProofs only[Tryz.ntmps105,go_sem,Nat.reduceAdd,Nat.reduceSub,Nat.reduceMul,Nat.reduceLeDiff,Nat.reduceEqDiff,Nat.reduceGT,Nat.reduceBEq,reduceCtorEq,↓reduceIte,Int.reduceToNat,Int.reduceLE,Int.reduceLT,Int.reduceNe,Int.reduceEq];unfold pK
 (repeat' first|refine⟨?_,?_⟩|intro _) <;>first|exact(decide_eq_true (by omega)).symm|exact decide_eq_decide.2 (by omega)
structure gZ(l:List UInt8):Prop where
 ND:∀r,r∈bu l→pK r.1=true
 whole:whole l
 pos:1≤(bu l).length
 le:(bu l).length≤12
theorem wm(l:List UInt8):Lib.validD l=true↔whole l:=by
 induction l using qt with
 |h0=>exact⟨fun _ r hr=>(by cases hr),fun _=>rfl⟩
 |h1 l hne ih=>
  rw[Lib.validD_step l hne,qj hne,←ih];by_cases h:(Lib.decodeL l).1=65533∧(Lib.decodeL l).2=1
  ·rw[if_pos h];exact⟨fun q=>(by cases q),fun q=>absurd h q.1⟩
  ·rw[if_neg h];exact⟨fun q=>⟨h,q⟩,fun q=>q.2⟩
def rl(c:Nat):Nat:=if c<128 then 1 else if c<2048 then 2 else if c<65536 then 3 else 4
def HF(l:List (Nat×List UInt8)):Nat:=(l.map fun r=>rl r.1).sum
theorem Ps(l:List UInt8)(hne:l≠[]):(dl l).2≤rl (dl l).1∧((dl l).2=rl (dl l).1↔ve (dl l)):=by
 have k0:=(l.getD 0 0).toNat_lt;unfold dl;rw[Lib.decodeL_N];unfold ve rl;rcases Lib.decodeN_shape l.length (l.getD 0 0).toNat (l.getD 1 0).toNat (l.getD 2 0).toNat (l.getD 3 0).toNat with⟨c,e⟩|⟨c1,c2,c3,cv,e⟩|⟨c1,c2,c3,c4,cv,cs,e⟩|⟨c1,c2,c3,c4,c5,cv,cw,e⟩|e
 all_goals rw[e];dsimp only
 ·rw[if_pos c];omega
 ·rw[if_neg (by omega),if_pos (by omega)];omega
 ·rw[if_neg (by omega),if_neg (by omega),if_pos (by omega)];omega
 ·rw[if_neg (by omega),if_neg (by omega),if_neg (by omega)];omega
 ·decide
theorem CA(l:List UInt8):l.length≤HF (bu l)∧(HF (bu l)=l.length↔whole l):=by
 induction l using qt with
 |h0=>exact⟨Xa _,⟨fun _ r hr=>(by cases hr),fun _=>rfl⟩⟩
 |h1 l hne ih=>
  have hle:=Lib.decodeL_le l hne;have h1:=Ps l hne;change (dl l).2≤l.length at hle;rw[gn hne,qj hne];unfold HF at ih ⊢;rw[Xy,Yx];rw[XY]at ih;rw[←ih.2,←h1.2];dsimp only;omega
theorem qx{L:List UInt8}{k:Nat}(h:k<L.length):bu (L.drop k)=((dl (L.drop k)).1,(L.drop k).take (dl (L.drop k)).2)::bu (L.drop (k+(dl (L.drop k)).2)):=by
 have hne:L.drop k≠[]:=by intro e;have:=congrArg List.length e;rw[XY]at this;simp at this;omega
 rw[gn hne,Yj]
theorem Ha{L:List UInt8}{k:Nat}(h:k<L.length):1≤(dl (L.drop k)).2∧k+(dl (L.drop k)).2≤L.length:=by
 have hne:L.drop k≠[]:=by intro e;have:=congrArg List.length e;rw[XY]at this;simp at this;omega
 have h1:=qD (L.drop k);have h2:=Lib.decodeL_le _ hne;rw[XY]at h2;exact⟨h1,by unfold dl;omega⟩
theorem mY{L:List UInt8}{k:Nat}(h:L.length≤k):bu (L.drop k)=[]:=by rw[List.drop_of_length_le h];rfl
theorem KV(c:Nat):rl c≤4:=by unfold rl;(repeat' split) <;>omega
theorem MV(l:List (Nat×List UInt8)):HF l≤4*l.length:=by
 induction l with
 |nil=>exact Xa _
 |cons r l ih=>
  have:=KV r.1;unfold HF at ih ⊢;rw[Xy,Yx,Xi];omega
theorem N3(w0:W0)(s:ByteArray)(hs:s.size≤1048576)(S:St):aa Tryz.prog w0 106 [dS s] S (fun d S'=>d=dB (pB (whole s.data.toList))∧S'=S):=by
 refine bW [] mx Tryz.func106 rfl rfl (by kernel_rfl) ?_;simp(maxDischargeDepth:=12) (maxSteps:=1000000) -implicitDefEqProofs only[Tryz.ntmps106,go_sem,Nat.reduceAdd,Nat.reduceSub,Nat.reduceMul,Nat.reduceLeDiff,Nat.reduceEqDiff,Nat.reduceGT,Nat.reduceBEq,reduceCtorEq,↓reduceIte,Int.reduceToNat,Int.reduceLE,Int.reduceLT,Int.reduceNe,Int.reduceEq];intro li;refine fc [] [0,3,7] (σ:=Nat×List (Nat×List UInt8)) (fun p=>[(3,dI (HF p.2))]) (fun p=>⟨S.box,(li.n,.xo (.si s p.1))::S.acc⟩) (fun p=>p.1≤s.size∧p.2++bu (s.data.toList.drop p.1)=bu s.data.toList) (fun p=>s.size-p.1) (0,[]) mx (by kernel_rfl) ⟨⟨Xl _,rfl⟩,?_⟩ fun p hp=>?_
 ·simp(maxDischargeDepth:=12) (maxSteps:=1000000) -implicitDefEqProofs only[go_sem,Nat.reduceAdd,Nat.reduceSub,Nat.reduceMul,Nat.reduceLeDiff,Nat.reduceEqDiff,Nat.reduceGT,Nat.reduceBEq,reduceCtorEq,↓reduceIte,Int.reduceToNat,Int.reduceLE,Int.reduceLT,Int.reduceNe,Int.reduceEq];exact .refl _
 ·obtain⟨k,pre⟩:=p;obtain⟨hk1,hpre⟩:=hp;dsimp only at hk1 hpre;simp(maxDischargeDepth:=12) (maxSteps:=1000000) -implicitDefEqProofs only[go_sem,Nat.reduceAdd,Nat.reduceSub,Nat.reduceMul,Nat.reduceLeDiff,Nat.reduceEqDiff,Nat.reduceGT,Nat.reduceBEq,reduceCtorEq,↓reduceIte,Int.reduceToNat,Int.reduceLE,Int.reduceLT,Int.reduceNe,Int.reduceEq];have hsz:=fS s;have hrl:=mz s.data.toList
  have hrp:pre.length≤s.size:=by
   have:=congrArg List.length hpre;rw[Xj]at this;omega
  have hr4:HF pre≤4*pre.length:=MV pre;rw[qJ s k];refine⟨fun hk=>?_,fun hk=>?_⟩
  ·rw[mY (by omega),Yo]at hpre;rw[hpre,←(CA _).2];rfl
  ·have h1:=qx (L:=s.data.toList) (k:=k) (by omega);have h2:=Ha (L:=s.data.toList) (k:=k) (by omega);generalize hD:dl (s.data.toList.drop k)=D at h1 h2;change Lib.decodeL _=D at hD;rw[hD];obtain⟨c,n⟩:=D;dsimp only at h1 h2 ⊢
   have go:∀m:Nat,m=rl c→∃s':Nat×List (Nat×List UInt8),
    (s'.fst≤s.size∧s'.snd++bu (List.drop s'.fst s.data.toList)=bu s.data.toList)∧
     s.size-s'.fst<s.size-k∧
      IntKind.i64.wrap ((HF pre:Int)+(m:Int))=(HF s'.snd:Int)∧
       Aml.Sub {box:=S.box,acc:=(li.n,Ob.xo (XO.si s s'.fst))::S.acc}
        {box:=S.box,acc:=(li.n,Ob.xo (XO.si s (k+n)))::S.acc}:=by
    rintro _ rfl;refine⟨(k+n,pre++[(c,(s.data.toList.drop k).take n)]),⟨by dsimp only;omega,?_⟩,by dsimp only;omega,?_,.refl _⟩
    ·dsimp only;rw[YN,List.singleton_append,←h1];exact hpre
    ·have hle:=KV c;rw[oD (by omega) (by omega)];unfold HF;rw[Xw,List.sum_append];simp
   unfold rl at go;refine⟨fun q=>?_,fun q=>⟨fun q2=>?_,fun q2=>⟨fun q3=>?_,fun q3=>?_⟩⟩⟩
   ·exact go 1 (by rw[if_pos (by omega)])
   ·exact go 2 (by rw[if_neg (by omega),if_pos (by omega)])
   ·exact go 3 (by rw[if_neg (by omega),if_neg (by omega),if_pos (by omega)])
   ·exact go 4 (by rw[if_neg (by omega),if_neg (by omega),if_neg (by omega)])
theorem wj{l:List UInt8}(h:∀r,r∈bu l→pK r.1=true):gZ l↔whole l∧1≤(bu l).length∧(bu l).length≤12:=⟨fun q=>⟨q.whole,q.pos,q.le⟩,fun q=>⟨h,q.1,q.2.1,q.2.2⟩⟩
theorem D7{l:List UInt8}(h:∀r,r∈bu l→pK r.1=true):(Lib.validD l=true→
 (((bu l).length:Int)≥1→(((bu l).length:Int)≤12↔gZ l))∧(¬((bu l).length:Int)≥1→¬gZ l))∧
 (Lib.validD l=false→¬gZ l):=by
 rw[wj h,←wm];refine⟨fun q=>⟨fun q2=>⟨fun q3=>⟨q,by omega,by omega⟩,fun q3=>by omega⟩,fun q2 q3=>by omega⟩,fun q q3=>by rw[q]at q3;cases q3.1⟩
theorem QT(w0:W0)(hk:KU w0)(s:ByteArray)(hs:s.size≤1048576)(S:St):aa Tryz.prog w0 63 [dS s] S (fun d S'=>d=dB (pB (gZ s.data.toList))∧S'=S):=by
 refine bW [] mx Tryz.func63 rfl rfl (by kernel_rfl) ?_;simp(maxDischargeDepth:=12) (maxSteps:=1000000) -implicitDefEqProofs only[Tryz.ntmps63,go_sem,Nat.reduceAdd,Nat.reduceSub,Nat.reduceMul,Nat.reduceLeDiff,Nat.reduceEqDiff,Nat.reduceGT,Nat.reduceBEq,reduceCtorEq,↓reduceIte,Int.reduceToNat,Int.reduceLE,Int.reduceLT,Int.reduceNe,Int.reduceEq];intro li;refine fc [] [0,3,7] (σ:=Nat×List (Nat×List UInt8)) (fun p=>[(3,dI p.2.length)]) (fun p=>⟨S.box,(li.n,.xo (.si s p.1))::S.acc⟩) (fun p=>p.1≤s.size∧p.2++bu (s.data.toList.drop p.1)=bu s.data.toList∧∀r,r∈p.2→pK r.1=true) (fun p=>s.size-p.1) (0,[]) mx (by kernel_rfl) ⟨⟨Xl _,rfl,fun r hr=>by cases hr⟩,?_⟩ fun p hp=>?_
 ·simp(maxDischargeDepth:=12) (maxSteps:=1000000) -implicitDefEqProofs only[go_sem,Nat.reduceAdd,Nat.reduceSub,Nat.reduceMul,Nat.reduceLeDiff,Nat.reduceEqDiff,Nat.reduceGT,Nat.reduceBEq,reduceCtorEq,↓reduceIte,Int.reduceToNat,Int.reduceLE,Int.reduceLT,Int.reduceNe,Int.reduceEq]
 ·obtain⟨k,pre⟩:=p;obtain⟨hk1,hpre,hlet⟩:=hp;dsimp only at hk1 hpre hlet;have hsz:=fS s;simp(maxDischargeDepth:=12) (maxSteps:=1000000) -implicitDefEqProofs only[go_sem,Nat.reduceAdd,Nat.reduceSub,Nat.reduceMul,Nat.reduceLeDiff,Nat.reduceEqDiff,Nat.reduceGT,Nat.reduceBEq,reduceCtorEq,↓reduceIte,Int.reduceToNat,Int.reduceLE,Int.reduceLT,Int.reduceNe,Int.reduceEq];rw[qJ s k];have hrl:=mz s.data.toList
  have hrp:pre.length≤s.size:=by
   have:=congrArg List.length hpre;rw[Xj]at this;omega
  refine⟨fun hk'=>?_,fun hk'=>?_⟩
  ·rw[mY (by omega),Yo]at hpre;rw[hpre]at hlet ⊢;refine ao (L5 _ hk s hs _) ?_;simp(maxDischargeDepth:=12) (maxSteps:=1000000) -implicitDefEqProofs only[go_sem,Nat.reduceAdd,Nat.reduceSub,Nat.reduceMul,Nat.reduceLeDiff,Nat.reduceEqDiff,Nat.reduceGT,Nat.reduceBEq,reduceCtorEq,↓reduceIte,Int.reduceToNat,Int.reduceLE,Int.reduceLT,Int.reduceNe,Int.reduceEq];exact D7 hlet
  ·have h1:=qx (L:=s.data.toList) (k:=k) (by omega);have h2:=Ha (L:=s.data.toList) (k:=k) (by omega);generalize hD:dl (s.data.toList.drop k)=D at h1 h2;change Lib.decodeL _=D at hD;rw[hD];obtain⟨c,n⟩:=D;dsimp only at h1 h2 ⊢;refine ao (Jq _ c _) ?_;simp(maxDischargeDepth:=12) (maxSteps:=1000000) -implicitDefEqProofs only[go_sem,Nat.reduceAdd,Nat.reduceSub,Nat.reduceMul,Nat.reduceLeDiff,Nat.reduceEqDiff,Nat.reduceGT,Nat.reduceBEq,reduceCtorEq,↓reduceIte,Int.reduceToNat,Int.reduceLE,Int.reduceLT,Int.reduceNe,Int.reduceEq];refine⟨fun q=>⟨(k+n,pre++[(c,(s.data.toList.drop k).take n)]),⟨by dsimp only;omega,?_,?_⟩,by dsimp only;omega,?_,.refl _⟩,fun q hN=>?_⟩
   ·dsimp only;rw[YN,List.singleton_append,←h1];exact hpre
   ·intro r hr;rcases Xh.1 hr with hr|hr
    ·exact hlet r hr
    ·rw[Xg.1 hr];exact q
   ·rw[oD (by omega) (by omega)];simp
   ·have:=hN.ND (c,(s.data.toList.drop k).take n) (by rw[←hpre,h1];simp);rw[q]at this;cases this
theorem A6{l:List UInt8}(h:∀r,r∈bu l→pK r.1=true):(whole l→
 (((bu l).length:Int)≥1→(((bu l).length:Int)≤12↔gZ l))∧(¬((bu l).length:Int)≥1→¬gZ l))∧
 (¬whole l→¬gZ l):=by
 rw[wj h];refine⟨fun q=>⟨fun q2=>⟨fun q3=>⟨q,by omega,by omega⟩,fun q3=>by omega⟩,fun q2 q3=>by omega⟩,fun q q3=>q q3.1⟩
theorem Pk(w0:W0)(s:ByteArray)(hs:s.size≤1048576)(S:St):aa Tryz.prog w0 57 [dS s] S (fun d S'=>d=dB (pB (gZ s.data.toList))∧S'=S):=by
 refine bW [] mx Tryz.func57 rfl rfl (by kernel_rfl) ?_;simp(maxDischargeDepth:=12) (maxSteps:=1000000) -implicitDefEqProofs only[Tryz.ntmps57,go_sem,Nat.reduceAdd,Nat.reduceSub,Nat.reduceMul,Nat.reduceLeDiff,Nat.reduceEqDiff,Nat.reduceGT,Nat.reduceBEq,reduceCtorEq,↓reduceIte,Int.reduceToNat,Int.reduceLE,Int.reduceLT,Int.reduceNe,Int.reduceEq];intro li;refine fc [] [0,3,8] (σ:=Nat×List (Nat×List UInt8)) (fun p=>[(3,dI p.2.length)]) (fun p=>⟨S.box,(li.n,.xo (.si s p.1))::S.acc⟩) (fun p=>p.1≤s.size∧p.2++bu (s.data.toList.drop p.1)=bu s.data.toList∧∀r,r∈p.2→pK r.1=true) (fun p=>s.size-p.1) (0,[]) mx (by kernel_rfl) ⟨⟨Xl _,rfl,fun r hr=>by cases hr⟩,?_⟩ fun p hp=>?_
 ·simp(maxDischargeDepth:=12) (maxSteps:=1000000) -implicitDefEqProofs only[go_sem,Nat.reduceAdd,Nat.reduceSub,Nat.reduceMul,Nat.reduceLeDiff,Nat.reduceEqDiff,Nat.reduceGT,Nat.reduceBEq,reduceCtorEq,↓reduceIte,Int.reduceToNat,Int.reduceLE,Int.reduceLT,Int.reduceNe,Int.reduceEq]
 ·obtain⟨k,pre⟩:=p;obtain⟨hk1,hpre,hlet⟩:=hp;dsimp only at hk1 hpre hlet;have hsz:=fS s;simp(maxDischargeDepth:=12) (maxSteps:=1000000) -implicitDefEqProofs only[go_sem,Nat.reduceAdd,Nat.reduceSub,Nat.reduceMul,Nat.reduceLeDiff,Nat.reduceEqDiff,Nat.reduceGT,Nat.reduceBEq,reduceCtorEq,↓reduceIte,Int.reduceToNat,Int.reduceLE,Int.reduceLT,Int.reduceNe,Int.reduceEq];rw[qJ s k];have hrl:=mz s.data.toList
  have hrp:pre.length≤s.size:=by
   have:=congrArg List.length hpre;rw[Xj]at this;omega
  refine⟨fun hk'=>?_,fun hk'=>?_⟩
  ·rw[mY (by omega),Yo]at hpre;rw[hpre]at hlet ⊢;refine ao (N3 _ s hs _) ?_;simp(maxDischargeDepth:=12) (maxSteps:=1000000) -implicitDefEqProofs only[go_sem,Nat.reduceAdd,Nat.reduceSub,Nat.reduceMul,Nat.reduceLeDiff,Nat.reduceEqDiff,Nat.reduceGT,Nat.reduceBEq,reduceCtorEq,↓reduceIte,Int.reduceToNat,Int.reduceLE,Int.reduceLT,Int.reduceNe,Int.reduceEq];exact A6 hlet
  ·have h1:=qx (L:=s.data.toList) (k:=k) (by omega);have h2:=Ha (L:=s.data.toList) (k:=k) (by omega);generalize hD:dl (s.data.toList.drop k)=D at h1 h2;change Lib.decodeL _=D at hD;rw[hD];obtain⟨c,n⟩:=D;dsimp only at h1 h2 ⊢;refine ao (IW _ c _) ?_;simp(maxDischargeDepth:=12) (maxSteps:=1000000) -implicitDefEqProofs only[go_sem,Nat.reduceAdd,Nat.reduceSub,Nat.reduceMul,Nat.reduceLeDiff,Nat.reduceEqDiff,Nat.reduceGT,Nat.reduceBEq,reduceCtorEq,↓reduceIte,Int.reduceToNat,Int.reduceLE,Int.reduceLT,Int.reduceNe,Int.reduceEq];refine⟨fun q=>⟨(k+n,pre++[(c,(s.data.toList.drop k).take n)]),⟨by dsimp only;omega,?_,?_⟩,by dsimp only;omega,?_,.refl _⟩,fun q hN=>?_⟩
   ·dsimp only;rw[YN,List.singleton_append,←h1];exact hpre
   ·intro r hr;rcases Xh.1 hr with hr|hr
    ·exact hlet r hr
    ·rw[Xg.1 hr];exact q
   ·rw[oD (by omega) (by omega)];simp
   ·have:=hN.ND (c,(s.data.toList.drop k).take n) (by rw[←hpre,h1];simp);rw[q]at this;cases this
attribute [go_sem] dV
def kR(l:List (List UInt8))(s:List UInt8):Int:=if s∈l then((l.idxOf s:Nat):Int)else -1
theorem rK{l:List (List UInt8)}{s:List UInt8}:kR l s<0↔s∉l:=by
 unfold kR;split <;>simp_all <;>omega
theorem zI{l:List (List UInt8)}{s:List UInt8}{k:Nat}(h0:s∉l.take k)(h:l[k]? =some s):kR l s=(k:Int):=by
 unfold kR;obtain⟨hk,e⟩:=W6.1 h;rw[if_pos (W7 h)];have h1:l=l.take k++s::l.drop (k+1):=by rw[←e,←List.drop_eq_getElem_cons hk,YX]
 have:l.idxOf s=k:=by
  rw[h1,List.idxOf_append,if_neg h0,List.idxOf_cons_self,XT];omega
 rw[this]
theorem uS{l:List (List UInt8)}{s:List UInt8}(h:s∉l):kR l s= -1:=by unfold kR;rw[if_neg h]
theorem u7{l:List (List UInt8)}{s x:List UInt8}{k:Nat}(h0:s∉l.take k)(hx:l[k]? =some x)(hne:¬s=x):s∉l.take (k+1):=by
 rw[XZ,hx];intro hm;rcases Xh.1 hm with hm|hm
 ·exact h0 hm
 ·simp only[YQ,Xg]at hm;exact hne hm
theorem Mk(w0:W0)(l:List (List UInt8))(s:List UInt8)(hl:l.length≤4611686018427387904)(S:St):aa Tryz.prog w0 117 [.sl 1 false (aA l),dS (tx s)] S (fun d S'=>d=dI (kR l s)∧S'=S):=by
 refine bW [] mx Tryz.func117 rfl rfl (by kernel_rfl) ?_;simp(maxDischargeDepth:=12) (maxSteps:=1000000) -implicitDefEqProofs only[Tryz.ntmps117,go_sem,Nat.reduceAdd,Nat.reduceSub,Nat.reduceMul,Nat.reduceLeDiff,Nat.reduceEqDiff,Nat.reduceGT,Nat.reduceBEq,reduceCtorEq,↓reduceIte,Int.reduceToNat,Int.reduceLE,Int.reduceLT,Int.reduceNe,Int.reduceEq];refine aX [] l.length [0,1,7,8] (fun a=>[(8,dI a)]) (fun _=>S) (fun a=>s∉l.take a) mx (by kernel_rfl) ?_ ?_
 ·simp(maxDischargeDepth:=12) (maxSteps:=1000000) -implicitDefEqProofs only[go_sem,Nat.reduceAdd,Nat.reduceSub,Nat.reduceMul,Nat.reduceLeDiff,Nat.reduceEqDiff,Nat.reduceGT,Nat.reduceBEq,reduceCtorEq,↓reduceIte,Int.reduceToNat,Int.reduceLE,Int.reduceLT,Int.reduceNe,Int.reduceEq];exact Yv
 ·intro a ha hA;simp(maxDischargeDepth:=12) (maxSteps:=1000000) -implicitDefEqProofs only[go_sem,Nat.reduceAdd,Nat.reduceSub,Nat.reduceMul,Nat.reduceLeDiff,Nat.reduceEqDiff,Nat.reduceGT,Nat.reduceBEq,reduceCtorEq,↓reduceIte,Int.reduceToNat,Int.reduceLE,Int.reduceLT,Int.reduceNe,Int.reduceEq];refine⟨fun hla=>⟨hla,fun x hx=>⟨fun e=>(zI hA (e▸hx)).symm,fun e=>⟨hla,u7 hA hx e,aI (by omega)⟩⟩⟩,fun hge=>?_⟩;rw[XF (by omega)]at hA;exact(uS hA).symm
theorem Q3(w0:W0)(l:List (List UInt8))(s:List UInt8)(hl:l.length≤4611686018427387904)(S:St):aa Tryz.prog w0 58 [.sl 1 false (aA l),dS (tx s)] S (fun d S'=>d=dI (kR l s)∧S'=S):=by
 refine bW [] mx Tryz.func58 rfl rfl (by kernel_rfl) ?_;simp(maxDischargeDepth:=12) (maxSteps:=1000000) -implicitDefEqProofs only[Tryz.ntmps58,go_sem,Nat.reduceAdd,Nat.reduceSub,Nat.reduceMul,Nat.reduceLeDiff,Nat.reduceEqDiff,Nat.reduceGT,Nat.reduceBEq,reduceCtorEq,↓reduceIte,Int.reduceToNat,Int.reduceLE,Int.reduceLT,Int.reduceNe,Int.reduceEq];refine aX [] l.length [0,1,5] (fun a=>[(5,dI a)]) (fun _=>S) (fun a=>s∉l.take a) mx (by kernel_rfl) ?_ ?_
 ·simp(maxDischargeDepth:=12) (maxSteps:=1000000) -implicitDefEqProofs only[go_sem,Nat.reduceAdd,Nat.reduceSub,Nat.reduceMul,Nat.reduceLeDiff,Nat.reduceEqDiff,Nat.reduceGT,Nat.reduceBEq,reduceCtorEq,↓reduceIte,Int.reduceToNat,Int.reduceLE,Int.reduceLT,Int.reduceNe,Int.reduceEq];exact Yv
 ·intro a ha hA;simp(maxDischargeDepth:=12) (maxSteps:=1000000) -implicitDefEqProofs only[go_sem,Nat.reduceAdd,Nat.reduceSub,Nat.reduceMul,Nat.reduceLeDiff,Nat.reduceEqDiff,Nat.reduceGT,Nat.reduceBEq,reduceCtorEq,↓reduceIte,Int.reduceToNat,Int.reduceLE,Int.reduceLT,Int.reduceNe,Int.reduceEq];refine⟨fun hla=>⟨hla,fun x hx=>⟨fun e=>(zI hA (e▸hx)).symm,fun e=>⟨hla,u7 hA hx (fun q=>e q.symm),aI (by omega)⟩⟩⟩,fun hge=>?_⟩;rw[XF (by omega)]at hA;exact(uS hA).symm
theorem BZ(w0:W0)(l:List (List UInt8))(s:List UInt8)(hl:l.length≤4611686018427387904)(S:St):aa Tryz.prog w0 65 [.sl 1 false (aA l),dS (tx s)] S (fun d S'=>d=dB (decide (s∈l))∧S'=S):=by
 refine bW [] mx Tryz.func65 rfl rfl (by kernel_rfl) ?_;simp(maxDischargeDepth:=12) (maxSteps:=1000000) -implicitDefEqProofs only[Tryz.ntmps65,go_sem,Nat.reduceAdd,Nat.reduceSub,Nat.reduceMul,Nat.reduceLeDiff,Nat.reduceEqDiff,Nat.reduceGT,Nat.reduceBEq,reduceCtorEq,↓reduceIte,Int.reduceToNat,Int.reduceLE,Int.reduceLT,Int.reduceNe,Int.reduceEq];refine ao (Mk _ l s hl _) ?_;simp(maxDischargeDepth:=12) (maxSteps:=1000000) -implicitDefEqProofs only[go_sem,Nat.reduceAdd,Nat.reduceSub,Nat.reduceMul,Nat.reduceLeDiff,Nat.reduceEqDiff,Nat.reduceGT,Nat.reduceBEq,reduceCtorEq,↓reduceIte,Int.reduceToNat,Int.reduceLE,Int.reduceLT,Int.reduceNe,Int.reduceEq];have:=rK (l:=l) (s:=s);by_cases h:s∈l
 ·exact⟨fun _=>h,fun _=>Int.not_lt.1 fun q=>this.1 q h⟩
 ·exact⟨fun q=>by have:=this.2 h;omega,fun q=>absurd q h⟩
theorem Oh(w0:W0)(n:Int)(S:St):aa Tryz.prog w0 64 [dI n] S (fun d S'=>d=dB (decide (4≤n∧n≤1000))∧S'=S):=by
 refine bW [] mx Tryz.func64 rfl rfl (by kernel_rfl) ?_;simp(maxDischargeDepth:=12) (maxSteps:=1000000) -implicitDefEqProofs only[Tryz.ntmps64,go_sem,Nat.reduceAdd,Nat.reduceSub,Nat.reduceMul,Nat.reduceLeDiff,Nat.reduceEqDiff,Nat.reduceGT,Nat.reduceBEq,reduceCtorEq,↓reduceIte,Int.reduceToNat,Int.reduceLE,Int.reduceLT,Int.reduceNe,Int.reduceEq];refine⟨fun h=>⟨fun q=>⟨h,q⟩,fun q=>q.2⟩,fun h q=>h q.1⟩
structure Cf where
 nm:List (List UInt8)
 up:List Nat
 qu:List Int
 gr:List G
@[go_sem] def lN (l:List Int):DV:= .sl 1 false (l.map dI)
@[go_sem] def QU (c:Cf):DV:= .agg [.sl 1 false (aA c.nm),ec c.up,lN c.qu,jN c.gr]
structure KZ(c:Cf):Prop where
 JF:c.nm.length=c.up.length
 L6:c.qu.length=c.up.length
 GG:kA c.up
 RP:HQ c.up c.gr
 name:∀s,s∈c.nm→gZ s
 quo:∀n,n∈c.qu→4≤n∧n≤1000
 uniq:c.nm.Nodup
structure Bm(c:Cf):Prop where
 Tx:c.nm.length≤1048576
 TU:∀s,s∈c.nm→s.length≤1048576
 Tg:c.up.length≤1048576
 Bj:di c.up
 Sm:c.qu.length≤1048576
 RN:c.gr.length≤1048576
def HB(c:Cf)(k:Nat):Prop:=∀i,i<k→∀s n,c.nm[i]? =some s→c.qu[i]? =some n→gZ s∧(4≤n∧n≤1000)∧s∉c.nm.take i
theorem z7{c:Cf}(h1:c.nm.length=c.up.length)(h2:c.qu.length=c.up.length):KZ c↔kA c.up∧HQ c.up c.gr∧HB c c.nm.length:=by
 constructor
 ·intro h;refine⟨h.GG,h.RP,fun i hi s n hs hn=>⟨h.name s (W7 hs),h.quo n (W7 hn),fun hm=>?_⟩⟩;obtain⟨j,hj,e⟩:=Y4.1 hm;rw[XT]at hj;rw[List.getElem_take]at e;obtain⟨hi',e'⟩:=W6.1 hs;have:=Yp.1 h.uniq j i (by omega) hi' (by omega);exact this (by rw[e,e'])
 ·rintro⟨a1,a2,a3⟩;have key:∀i,(hi:i<c.nm.length)→gZ (c.nm[i])∧(4≤c.qu[i]'(by omega)∧c.qu[i]'(by omega)≤1000)∧c.nm[i]∉c.nm.take i:=fun i hi=>a3 i hi _ _ (W5 hi) (W5 (by omega));refine⟨h1,h2,a1,a2,fun s hs=>?_,fun n hn=>?_,?_⟩
  ·obtain⟨i,hi,rfl⟩:=Y4.1 hs;exact(key i hi).1
  ·obtain⟨i,hi,rfl⟩:=Y4.1 hn;exact(key i (by omega)).2.1
  ·refine Yp.2 fun i j hi hj hij e=>(key j hj).2.2 ?_;rw[←e];exact Y4.2 ⟨i,by rw[XT];omega,by rw[List.getElem_take]⟩
theorem vk{c:Cf}{k:Nat}{s:List UInt8}{n:Int}(h:HB c k)(hs:c.nm[k]? =some s)(hn:c.qu[k]? =some n)(h1:gZ s)(h2:4≤n∧n≤1000)(h3:s∉c.nm.take k):HB c (k+1):=fun i hi s' n' hs' hn'=>by
 by_cases e:i=k
 ·subst e;rw[hs]at hs';rw[hn]at hn';cases hs';cases hn';exact⟨h1,h2,h3⟩
 ·exact h i (by omega) s' n' hs' hn'
theorem KJ{c:Cf}(h2:c.qu.length=c.up.length)(h1:c.nm.length=c.up.length){k:Nat}(hk:k<c.nm.length):∃n,c.qu[k]? =some n:=⟨_,W5 (by omega)⟩
theorem NK(w0:W0)(hg:ib w0)(hk:KU w0)(c:Cf)(hc:Bm c)(S:St):aa Tryz.prog w0 26 [QU c] S (fun d S'=>d=dB (pB (KZ c))∧S'=S):=by
 have h1:=hc.Tx;have h2:=hc.Tg;have h3:=hc.Sm;have h4:=hc.RN;refine bW [] mx Tryz.func26 rfl rfl (by kernel_rfl) ?_;simp(maxDischargeDepth:=12) (maxSteps:=1000000) -implicitDefEqProofs only[Tryz.ntmps26,go_sem,Nat.reduceAdd,Nat.reduceSub,Nat.reduceMul,Nat.reduceLeDiff,Nat.reduceEqDiff,Nat.reduceGT,Nat.reduceBEq,reduceCtorEq,↓reduceIte,Int.reduceToNat,Int.reduceLE,Int.reduceLT,Int.reduceNe,Int.reduceEq];intro b;refine⟨fun h hp=>h hp.JF,fun e1=>⟨fun h hp=>h hp.L6,fun e2=>?_⟩⟩;have e1:=Xp.1 e1;have e2:=Xp.1 e2;refine ao (TN _ hg c.up hc.Bj (by omega) _) ?_;simp(maxDischargeDepth:=12) (maxSteps:=1000000) -implicitDefEqProofs only[go_sem,Nat.reduceAdd,Nat.reduceSub,Nat.reduceMul,Nat.reduceLeDiff,Nat.reduceEqDiff,Nat.reduceGT,Nat.reduceBEq,reduceCtorEq,↓reduceIte,Int.reduceToNat,Int.reduceLE,Int.reduceLT,Int.reduceNe,Int.reduceEq];refine⟨fun hL hp=>hL hp.GG,fun hL=>ao (VZ _ c.up hc.Bj c.gr (by omega) _) ?_⟩;simp(maxDischargeDepth:=12) (maxSteps:=1000000) -implicitDefEqProofs only[go_sem,Nat.reduceAdd,Nat.reduceSub,Nat.reduceMul,Nat.reduceLeDiff,Nat.reduceEqDiff,Nat.reduceGT,Nat.reduceBEq,reduceCtorEq,↓reduceIte,Int.reduceToNat,Int.reduceLE,Int.reduceLT,Int.reduceNe,Int.reduceEq];refine⟨fun hG hp=>hG hp.RP,fun hG=>?_⟩;rw[z7 e1 e2];refine aX [] c.nm.length [1,36,37,38] (fun a=>[(38,dI a)]) (fun _=>⟨(b.n,[.sl 1 false (aA c.nm),ec c.up,lN c.qu,jN c.gr])::S.box,S.acc⟩) (fun a=>HB c a) mx (by kernel_rfl) ?_ ?_
 ·simp(maxDischargeDepth:=12) (maxSteps:=1000000) -implicitDefEqProofs only[go_sem,Nat.reduceAdd,Nat.reduceSub,Nat.reduceMul,Nat.reduceLeDiff,Nat.reduceEqDiff,Nat.reduceGT,Nat.reduceBEq,reduceCtorEq,↓reduceIte,Int.reduceToNat,Int.reduceLE,Int.reduceLT,Int.reduceNe,Int.reduceEq];intro i hi;omega
 ·intro a ha hA;simp(maxDischargeDepth:=12) (maxSteps:=1000000) -implicitDefEqProofs only[go_sem,Nat.reduceAdd,Nat.reduceSub,Nat.reduceMul,Nat.reduceLeDiff,Nat.reduceEqDiff,Nat.reduceGT,Nat.reduceBEq,reduceCtorEq,↓reduceIte,Int.reduceToNat,Int.reduceLE,Int.reduceLT,Int.reduceNe,Int.reduceEq];refine⟨fun hla=>⟨hla,fun s hs=>?_⟩,fun hge=>?_⟩
  ·refine Exists.elim (KJ e2 e1 hla) fun n hn=>?_;have hsl:=hc.TU s (W7 hs);refine ao (QT _ hk (tx s) (by rw[dP];exact hsl) _) ?_;simp(maxDischargeDepth:=12) (maxSteps:=1000000) -implicitDefEqProofs only[go_sem,Nat.reduceAdd,Nat.reduceSub,Nat.reduceMul,Nat.reduceLeDiff,Nat.reduceEqDiff,Nat.reduceGT,Nat.reduceBEq,reduceCtorEq,↓reduceIte,Int.reduceToNat,Int.reduceLE,Int.reduceLT,Int.reduceNe,Int.reduceEq];refine⟨fun q hp=>q (hp.2.2 a hla s n hs hn).1,fun q=>⟨by omega,fun n' hn'=>?_⟩⟩;rw[hn]at hn';cases hn';refine ao (Oh _ n _) ?_;simp(maxDischargeDepth:=12) (maxSteps:=1000000) -implicitDefEqProofs only[go_sem,Nat.reduceAdd,Nat.reduceSub,Nat.reduceMul,Nat.reduceLeDiff,Nat.reduceEqDiff,Nat.reduceGT,Nat.reduceBEq,reduceCtorEq,↓reduceIte,Int.reduceToNat,Int.reduceLE,Int.reduceLT,Int.reduceNe,Int.reduceEq];refine⟨fun q2 hp=>q2 (hp.2.2 a hla s n hs hn).2.1,fun q2=>⟨by omega,?_⟩⟩;refine ao (BZ _ (c.nm.take a) s (by rw[XT];omega) _) ?_;simp(maxDischargeDepth:=12) (maxSteps:=1000000) -implicitDefEqProofs only[go_sem,Nat.reduceAdd,Nat.reduceSub,Nat.reduceMul,Nat.reduceLeDiff,Nat.reduceEqDiff,Nat.reduceGT,Nat.reduceBEq,reduceCtorEq,↓reduceIte,Int.reduceToNat,Int.reduceLE,Int.reduceLT,Int.reduceNe,Int.reduceEq];have z1:s∈List.take a c.nm→¬(kA c.up∧HQ c.up c.gr∧HB c c.nm.length):=fun q3 hp=>(hp.2.2 a hla s n hs hn).2.2 q3;have z2:¬s∈List.take a c.nm→HB c (a+1):=fun q3=>vk hA hs hn (Xp.1 q) (Xp.1 q2) q3;exact⟨z1,fun q3=>⟨hla,z2 q3,aI (show a<4611686018427387905 by omega)⟩⟩
  ·have e:a=c.nm.length:=by omega
   subst e;exact⟨Xp.1 hL,Xp.1 hG,hA⟩
theorem MN(w0:W0)(c:Cf)(hc:Bm c)(S:St):aa Tryz.prog w0 19 [QU c] S (fun d S'=>d=dB (pB (KZ c))∧S'=S):=by
 have h1:=hc.Tx;have h2:=hc.Tg;have h3:=hc.Sm;have h4:=hc.RN;refine bW [] mx Tryz.func19 rfl rfl (by kernel_rfl) ?_;simp(maxDischargeDepth:=12) (maxSteps:=1000000) -implicitDefEqProofs only[Tryz.ntmps19,go_sem,Nat.reduceAdd,Nat.reduceSub,Nat.reduceMul,Nat.reduceLeDiff,Nat.reduceEqDiff,Nat.reduceGT,Nat.reduceBEq,reduceCtorEq,↓reduceIte,Int.reduceToNat,Int.reduceLE,Int.reduceLT,Int.reduceNe,Int.reduceEq];intro b;refine⟨fun h hp=>h hp.JF,fun e1=>⟨fun h hp=>h (by rw[hp.JF,hp.L6]),fun e2=>?_⟩⟩;have e1:=Xp.1 e1;have e2:c.qu.length=c.up.length:=by rw[←Xp.1 e2,e1]
 refine ao (Sx _ c.up hc.Bj (by omega) _) ?_;simp(maxDischargeDepth:=12) (maxSteps:=1000000) -implicitDefEqProofs only[go_sem,Nat.reduceAdd,Nat.reduceSub,Nat.reduceMul,Nat.reduceLeDiff,Nat.reduceEqDiff,Nat.reduceGT,Nat.reduceBEq,reduceCtorEq,↓reduceIte,Int.reduceToNat,Int.reduceLE,Int.reduceLT,Int.reduceNe,Int.reduceEq];refine⟨fun hL hp=>hL hp.GG,fun hL=>ao (Vg _ c.up hc.Bj c.gr (by omega) _) ?_⟩;simp(maxDischargeDepth:=12) (maxSteps:=1000000) -implicitDefEqProofs only[go_sem,Nat.reduceAdd,Nat.reduceSub,Nat.reduceMul,Nat.reduceLeDiff,Nat.reduceEqDiff,Nat.reduceGT,Nat.reduceBEq,reduceCtorEq,↓reduceIte,Int.reduceToNat,Int.reduceLE,Int.reduceLT,Int.reduceNe,Int.reduceEq];refine⟨fun hG hp=>hG hp.RP,fun hG=>?_⟩;rw[z7 e1 e2];refine aX [] c.nm.length [1,3] (fun a=>[(3,dI a)]) (fun _=>⟨(b.n,[.sl 1 false (aA c.nm),ec c.up,lN c.qu,jN c.gr])::S.box,S.acc⟩) (fun a=>HB c a) mx (by kernel_rfl) ?_ ?_
 ·simp(maxDischargeDepth:=12) (maxSteps:=1000000) -implicitDefEqProofs only[go_sem,Nat.reduceAdd,Nat.reduceSub,Nat.reduceMul,Nat.reduceLeDiff,Nat.reduceEqDiff,Nat.reduceGT,Nat.reduceBEq,reduceCtorEq,↓reduceIte,Int.reduceToNat,Int.reduceLE,Int.reduceLT,Int.reduceNe,Int.reduceEq];intro i hi;omega
 ·intro a ha hA;simp(maxDischargeDepth:=12) (maxSteps:=1000000) -implicitDefEqProofs only[go_sem,Nat.reduceAdd,Nat.reduceSub,Nat.reduceMul,Nat.reduceLeDiff,Nat.reduceEqDiff,Nat.reduceGT,Nat.reduceBEq,reduceCtorEq,↓reduceIte,Int.reduceToNat,Int.reduceLE,Int.reduceLT,Int.reduceNe,Int.reduceEq];refine⟨fun hla=>⟨hla,fun s hs=>?_⟩,fun hge=>?_⟩
  ·refine Exists.elim (KJ e2 e1 hla) fun n hn=>?_;have hsl:=hc.TU s (W7 hs);refine ao (Pk _ (tx s) (by rw[dP];exact hsl) _) ?_;simp(maxDischargeDepth:=12) (maxSteps:=1000000) -implicitDefEqProofs only[go_sem,Nat.reduceAdd,Nat.reduceSub,Nat.reduceMul,Nat.reduceLeDiff,Nat.reduceEqDiff,Nat.reduceGT,Nat.reduceBEq,reduceCtorEq,↓reduceIte,Int.reduceToNat,Int.reduceLE,Int.reduceLT,Int.reduceNe,Int.reduceEq];have K:=fun hp:kA c.up∧HQ c.up c.gr∧HB c c.nm.length=>hp.2.2 a hla s n hs hn;refine⟨fun q hp=>q (K hp).1,fun q=>⟨by omega,fun n' hn'=>?_⟩⟩;obtain rfl:n=n':=XG (hn.symm.trans hn');refine⟨fun q2 hp=>by have:=(K hp).2.1;omega,fun q2=>⟨by omega,fun n' hn'=>?_⟩⟩;obtain rfl:n=n':=XG (hn.symm.trans hn');refine⟨fun q3 hp=>by have:=(K hp).2.1;omega,fun q3=>⟨by omega,by omega,fun s' hs'=>?_⟩⟩;obtain rfl:s=s':=XG (hs.symm.trans hs');refine eu (Q3 _ (c.nm.take a) s (by rw[XT];omega) _) ?_;simp(maxDischargeDepth:=12) (maxSteps:=1000000) -implicitDefEqProofs only[go_sem,Nat.reduceAdd,Nat.reduceSub,Nat.reduceMul,Nat.reduceLeDiff,Nat.reduceEqDiff,Nat.reduceGT,Nat.reduceBEq,reduceCtorEq,↓reduceIte,Int.reduceToNat,Int.reduceLE,Int.reduceLT,Int.reduceNe,Int.reduceEq];have fn:=rK (l:=c.nm.take a) (s:=s);have z1:kR (List.take a c.nm) s≥0→¬(kA c.up∧HQ c.up c.gr∧HB c c.nm.length):=fun q4 hp=>(K hp).2.2 (Xp.1 fun g=>by have:=fn.2 g;omega);have z2:¬kR (List.take a c.nm) s≥0→HB c (a+1):=fun q4=>vk hA hs hn (Xp.1 q) (by omega) (fn.1 (by omega));exact⟨z1,fun q4=>⟨hla,z2 q4,aI (show a<4611686018427387905 by omega)⟩⟩
  ·have e:a=c.nm.length:=by omega
   subst e;exact⟨Xp.1 hL,Xp.1 hG,hA⟩
end Go.Proofs.YtoepfmhnapedoaaGreatDoor
namespace Go.Proofs.YtoepfmhnapedoaaGreatDoor
open Aml Go Rn Lat Grs
structure bp where
 kind:Int
 level:Int
 aC:Int
 snap:Int
 bucket:List UInt8
 key:List UInt8
 value:List UInt8
 label:Int
 dQ:Int
 n:Int
 ba:List (List UInt8)
@[go_sem] def bp.ds (o:bp):List DV:=[dI o.kind,dI o.level,dI o.aC,dI o.snap,dS (tx o.bucket),dS (tx o.key),dS (tx o.value),dI o.label,dI o.dQ,dI o.n,.sl 1 false (aA o.ba)]
@[go_sem] def AU (o:bp):DV:= .agg [dI o.kind,dI o.level,dI o.aC,dI o.snap,dS (tx o.bucket),dS (tx o.key),dS (tx o.value),dI o.label,dI o.dQ,dI o.n,.sl 1 false (aA o.ba)]
def mu(w0:W0)(S:St)(e:Int):Prop:=∀T,Has S T→w0.pq (.im 33 (dI e)) T
theorem aB(w0:W0)(b:Bool)(e:Int)(S:St)(hq:b=false→mu w0 S e):aa Tryz.prog w0 33 [dB b,dI e] S (fun d S'=>b=true∧d= .cQ []∧S'=S):=by
 refine kj [] mx Tryz.func33 rfl rfl (by kernel_rfl) ?_;simp(maxDischargeDepth:=12) (maxSteps:=1000000) -implicitDefEqProofs only[Tryz.ntmps33,go_sem,Nat.reduceAdd,Nat.reduceSub,Nat.reduceMul,Nat.reduceLeDiff,Nat.reduceEqDiff,Nat.reduceGT,Nat.reduceBEq,reduceCtorEq,↓reduceIte,Int.reduceToNat,Int.reduceLE,Int.reduceLT,Int.reduceNe,Int.reduceEq];exact fun h=>hq h S (.refl S)
theorem KH(w0:W0)(s:List UInt8)(m:Int)(S:St):aa Tryz.prog w0 121 [dS (tx s),dI m] S (fun d S'=>d=dB (decide (s≠[]∧(s.length:Int)≤m))∧S'=S):=by
 refine bW [] mx Tryz.func121 rfl rfl (by kernel_rfl) ?_;simp(maxDischargeDepth:=12) (maxSteps:=1000000) -implicitDefEqProofs only[Tryz.ntmps121,go_sem,Nat.reduceAdd,Nat.reduceSub,Nat.reduceMul,Nat.reduceLeDiff,Nat.reduceEqDiff,Nat.reduceGT,Nat.reduceBEq,reduceCtorEq,↓reduceIte,Int.reduceToNat,Int.reduceLE,Int.reduceLT,Int.reduceNe,Int.reduceEq];rw[dP];exact⟨fun h=>⟨fun q=>⟨h,q⟩,fun q=>q.2⟩,fun h q=>h q.1⟩
@[go_sem] def Dm (c:Cf) (ls:List Nat) (t sn:Nat):List DV:=[.sl 1 false (aA c.nm),ec c.up,lN c.qu,jN c.gr,.sl 1 false (ls.map bz),bz t,.mp sn]
@[go_sem] def qS (m own:Nat) (o:bp) (full:Bool):List DV:=[bz m,dI o.kind,dI o.level,dI o.aC,dI o.snap,dS (tx o.bucket),dS (tx o.key),dS (tx o.value),dI o.label,dI o.dQ,dI o.n,.sl 1 false (aA o.ba),dB full,bz own]
@[go_sem] def lK (b:Nat) (au:DV) (has:Int) (dr:DV):List DV:=[.mp b,au,dI has,dr]
def yU(ls:List Nat)(x:Int):Option Nat:=if 0≤x then ls[x.toNat]? else none
theorem sJ(w0:W0){S:St}{w m own:Nat}{o:bp}{full:Bool}{b:Nat}{au dr:DV}{has:Int}(hw:lk S.box w=some (qS m own o full))(hl:lk S.box own=some (lK b au has dr)):
 aa Tryz.prog w0 118 [bz w] S (fun d S'=>d=dB (decide (has=o.aC))∧S'=S):=by
 refine bW [] mx Tryz.func118 rfl rfl (by kernel_rfl) ?_;simp(maxDischargeDepth:=12) (maxSteps:=1000000) -implicitDefEqProofs only[Tryz.ntmps118,go_sem,Nat.reduceAdd,Nat.reduceSub,Nat.reduceMul,Nat.reduceLeDiff,Nat.reduceEqDiff,Nat.reduceGT,Nat.reduceBEq,reduceCtorEq,↓reduceIte,Int.reduceToNat,Int.reduceLE,Int.reduceLT,Int.reduceNe,Int.reduceEq,hw,hl]
theorem dR(w0:W0){S:St}{w m own:Nat}{o:bp}{full:Bool}(hw:lk S.box w=some (qS m own o full)):
 aa Tryz.prog w0 38 [bz w] S (fun d S'=>d=yZ o.level o.aC∧S'=S):=by
 refine bW [] mx Tryz.func38 rfl rfl (by kernel_rfl) ?_;simp(maxDischargeDepth:=12) (maxSteps:=1000000) -implicitDefEqProofs only[Tryz.ntmps38,go_sem,Nat.reduceAdd,Nat.reduceSub,Nat.reduceMul,Nat.reduceLeDiff,Nat.reduceEqDiff,Nat.reduceGT,Nat.reduceBEq,reduceCtorEq,↓reduceIte,Int.reduceToNat,Int.reduceLE,Int.reduceLT,Int.reduceNe,Int.reduceEq,hw]
theorem nw(w0:W0){S:St}{w m own:Nat}{o:bp}{full:Bool}{c:Cf}{ls:List Nat}{t sn:Nat}(hw:lk S.box w=some (qS m own o full))(hm:lk S.box m=some (Dm c ls t sn))(hu:di c.up)(x:Int):
 aa Tryz.prog w0 131 [bz w,dI x] S (fun d S'=>d=dB (cR c.up x o.level)∧S'=S):=by
 refine bW [] mx Tryz.func131 rfl rfl (by kernel_rfl) ?_;simp(maxDischargeDepth:=12) (maxSteps:=1000000) -implicitDefEqProofs only[Tryz.ntmps131,go_sem,Nat.reduceAdd,Nat.reduceSub,Nat.reduceMul,Nat.reduceLeDiff,Nat.reduceEqDiff,Nat.reduceGT,Nat.reduceBEq,reduceCtorEq,↓reduceIte,Int.reduceToNat,Int.reduceLE,Int.reduceLT,Int.reduceNe,Int.reduceEq,hw,hm];refine eu (tG _ c.up hu x o.level _) ?_;simp(maxDischargeDepth:=12) (maxSteps:=1000000) -implicitDefEqProofs only[go_sem,Nat.reduceAdd,Nat.reduceSub,Nat.reduceMul,Nat.reduceLeDiff,Nat.reduceEqDiff,Nat.reduceGT,Nat.reduceBEq,reduceCtorEq,↓reduceIte,Int.reduceToNat,Int.reduceLE,Int.reduceLT,Int.reduceNe,Int.reduceEq]
theorem ofM(w0:W0){S:St}{m:Nat}{c:Cf}{ls:List Nat}{t sn:Nat}(hm:lk S.box m=some (Dm c ls t sn))(x:Int):
 aa Tryz.prog w0 51 [bz m,dI x] S (fun d S'=>d=vD (yU ls x)∧S'=S):=by
 refine bW [] mx Tryz.func51 rfl rfl (by kernel_rfl) ?_;simp(maxDischargeDepth:=12) (maxSteps:=1000000) -implicitDefEqProofs only[Tryz.ntmps51,go_sem,Nat.reduceAdd,Nat.reduceSub,Nat.reduceMul,Nat.reduceLeDiff,Nat.reduceEqDiff,Nat.reduceGT,Nat.reduceBEq,reduceCtorEq,↓reduceIte,Int.reduceToNat,Int.reduceLE,Int.reduceLT,Int.reduceNe,Int.reduceEq,hm];unfold yU;refine⟨fun h=>?_,fun h=>⟨fun h2=>?_,fun h2=>⟨by omega,by omega,fun a ha=>?_⟩⟩⟩
 ·rw[if_neg (by omega)];exact .refl _
 ·rw[if_pos (by omega),Xe (by omega)];exact .refl _
 ·rw[if_pos (by omega),ha];exact .refl _
theorem mf(w0:W0){S:St}{l N:Nat}{ids:List UInt8→Option Nat}{F:List UInt8→Option (List UInt8→Option (List UInt8))}(h:BM S l N ids F)(n:List UInt8)(hq:ids n=none→mu w0 S 32):
 aa Tryz.prog w0 122 [.mp l,dS (tx n)] S (fun d S'=>∃i,ids n=some i∧d= .mp i∧S'=S):=by
 obtain⟨es,c,h1,h2,h3⟩:=h.top;have h3:=h3 n;unfold kT at h3
 cases hi:ids n with
 |none=>
  rw[hi]at h3;refine kj [] mx Tryz.func122 rfl rfl (by kernel_rfl) ?_;simp(maxDischargeDepth:=12) (maxSteps:=1000000) -implicitDefEqProofs only[Tryz.ntmps122,go_sem,Nat.reduceAdd,Nat.reduceSub,Nat.reduceMul,Nat.reduceLeDiff,Nat.reduceEqDiff,Nat.reduceGT,Nat.reduceBEq,reduceCtorEq,↓reduceIte,Int.reduceToNat,Int.reduceLE,Int.reduceLT,Int.reduceNe,Int.reduceEq,h1,h3];refine an (aB w0 false 32 _ fun _=>hq hi) ?_;rintro _ _ ⟨h,_⟩;cases h
 |some i=>
  rw[hi]at h3;refine kj [] mx Tryz.func122 rfl rfl (by kernel_rfl) ?_;simp(maxDischargeDepth:=12) (maxSteps:=1000000) -implicitDefEqProofs only[Tryz.ntmps122,go_sem,Nat.reduceAdd,Nat.reduceSub,Nat.reduceMul,Nat.reduceLeDiff,Nat.reduceEqDiff,Nat.reduceGT,Nat.reduceBEq,reduceCtorEq,↓reduceIte,Int.reduceToNat,Int.reduceLE,Int.reduceLT,Int.reduceNe,Int.reduceEq,h1,h3];refine an (aB w0 true 32 _ fun h=>by cases h) ?_;rintro _ _ ⟨_,rfl,rfl⟩;simp(maxDischargeDepth:=12) (maxSteps:=1000000) -implicitDefEqProofs only[go_sem,Nat.reduceAdd,Nat.reduceSub,Nat.reduceMul,Nat.reduceLeDiff,Nat.reduceEqDiff,Nat.reduceGT,Nat.reduceBEq,reduceCtorEq,↓reduceIte,Int.reduceToNat,Int.reduceLE,Int.reduceLT,Int.reduceNe,Int.reduceEq];exact⟨i,rfl,rfl⟩
def Dd:List (List UInt8):=[[111,112,101,110],[99,108,111,115,101],[98,101,103,105,110],[99,111,109,109,105,116],[114,111,108,108,98,97,99,107],[109,97,107,101],[100,114,111,112],[112,117,116],[100,101,108,101,116,101],[103,101,116],[115,99,97,110],[115,110,97,112],[117,110,115,110,97,112],[99,111,117,110,116],[97,117,100,105,116],[100,101,99,108,97,115,115,105,102,121],[99,114,97,115,104]]
def BC(k:Int):List UInt8:=if 0≤k∧k<17 then Dd.getD k.toNat []else []
def ru:List Value:=Dd.map fun l=> .string (tx l)
def nW(w0:W0):Prop:=mE w0 0 ru
theorem zJ(k:Int)(h0:0≤k)(h1:k<17):ru[k.toNat]? =some (.string (tx (BC k))):=by
 unfold BC ru;have hk2:k.toNat<Dd.length:=by show k.toNat<17;omega
 rw[if_pos ⟨h0,h1⟩,Xd,W5 hk2,Xs,W5 hk2];rfl
theorem L1(k:Int)(h0:0≤k)(h1:k<17):ru.drop (k.toNat*1)= .string (tx (BC k))::ru.drop (k.toNat+1):=by
 obtain⟨h,e⟩:=W6.1 (zJ k h0 h1);rw[YP,List.drop_eq_getElem_cons h,e]
theorem M5(k:Int):BC k≠[]↔0≤k∧k<17:=by
 unfold BC;by_cases h:0≤k∧k<17
 ·rw[if_pos h];refine⟨fun _=>h,fun _=>?_⟩;have key:∀i:Fin 17,Dd.getD i.val []≠[]:=by decide
  exact key ⟨k.toNat,by omega⟩
 ·rw[if_neg h];exact⟨fun q=>absurd rfl q,fun q=>absurd q h⟩
theorem MO(w0:W0)(hg:nW w0)(k:Int)(S:St):aa Tryz.prog w0 66 [dI k] S (fun d S'=>d=dS (tx (BC k))∧S'=S):=by
 have hG:=ql hg;refine bW [] mx Tryz.func66 rfl rfl (by kernel_rfl) ?_;simp(maxDischargeDepth:=12) (maxSteps:=1000000) -implicitDefEqProofs only[Tryz.ntmps66,go_sem,Nat.reduceAdd,Nat.reduceSub,Nat.reduceMul,Nat.reduceLeDiff,Nat.reduceEqDiff,Nat.reduceGT,Nat.reduceBEq,reduceCtorEq,↓reduceIte,Int.reduceToNat,Int.reduceLE,Int.reduceLT,Int.reduceNe,Int.reduceEq,hG];have e0:∀h:¬(0≤k∧k<17),tx (BC k)=⟨#[]⟩:=by intro h;unfold BC;rw[if_neg h];rfl
 refine⟨fun h=>?_,fun h=>⟨fun h2=>?_,fun h2=>?_⟩⟩
 ·rw[e0 (by omega)]
 ·rw[e0 (by omega)]
 ·have hl:ru.length=17:=rfl;refine⟨by omega,by omega,by omega,?_⟩;rw[L1 k (by omega) (by omega)];simp(maxDischargeDepth:=12) (maxSteps:=1000000) -implicitDefEqProofs only[go_sem,Nat.reduceAdd,Nat.reduceSub,Nat.reduceMul,Nat.reduceLeDiff,Nat.reduceEqDiff,Nat.reduceGT,Nat.reduceBEq,reduceCtorEq,↓reduceIte,Int.reduceToNat,Int.reduceLE,Int.reduceLT,Int.reduceNe,Int.reduceEq]
theorem Nl(w0:W0)(k:Int)(S:St):aa Tryz.prog w0 59 [dI k] S (fun d S'=>d=dS (tx (BC k))∧S'=S):=by
 have hn:aa Tryz.prog w0 107 [] S (fun d S'=>d= .sl 1 true (ru.map DV.v)∧S'=S):=by
  refine bW [] mx Tryz.func107 rfl rfl (by kernel_rfl) ?_;simp(maxDischargeDepth:=12) (maxSteps:=1000000) -implicitDefEqProofs only[Tryz.ntmps107,go_sem,Nat.reduceAdd,Nat.reduceSub,Nat.reduceMul,Nat.reduceLeDiff,Nat.reduceEqDiff,Nat.reduceGT,Nat.reduceBEq,reduceCtorEq,↓reduceIte,Int.reduceToNat,Int.reduceLE,Int.reduceLT,Int.reduceNe,Int.reduceEq];exact .refl _
 have e0:∀h:¬(0≤k∧k<17),tx (BC k)=⟨#[]⟩:=by intro h;unfold BC;rw[if_neg h];rfl
 have hl:(ru.map DV.v).length=17:=rfl;refine bW [] mx Tryz.func59 rfl rfl (by kernel_rfl) ?_;simp(maxDischargeDepth:=12) (maxSteps:=1000000) -implicitDefEqProofs only[Tryz.ntmps59,go_sem,Nat.reduceAdd,Nat.reduceSub,Nat.reduceMul,Nat.reduceLeDiff,Nat.reduceEqDiff,Nat.reduceGT,Nat.reduceBEq,reduceCtorEq,↓reduceIte,Int.reduceToNat,Int.reduceLE,Int.reduceLT,Int.reduceNe,Int.reduceEq];refine ao hn ?_;simp(maxDischargeDepth:=12) (maxSteps:=1000000) -implicitDefEqProofs only[go_sem,Nat.reduceAdd,Nat.reduceSub,Nat.reduceMul,Nat.reduceLeDiff,Nat.reduceEqDiff,Nat.reduceGT,Nat.reduceBEq,reduceCtorEq,↓reduceIte,Int.reduceToNat,Int.reduceLE,Int.reduceLT,Int.reduceNe,Int.reduceEq,hl];refine⟨fun h=>by rw[e0 (by omega)],fun h=>⟨fun h2=>by rw[e0 (by omega)],fun h2=>⟨by omega,by omega,fun a ha=>?_⟩⟩⟩;rw[zJ k (by omega) (by omega)]at ha;cases ha;exact .refl _
def pX(n:Int)(o:bp):Bool:=decide ((0≤o.kind∧o.kind<17)∧(o.kind=16∨(0≤o.level∧o.level<n)))
theorem rU(n:Int)(o:bp):(¬BC o.kind=[]→(o.kind=16→true=pX n o)∧(¬o.kind=16→(o.level≥0→decide (o.level<n)=pX n o)∧(¬o.level≥0→false=pX n o)))∧(¬¬BC o.kind=[]→false=pX n o):=by
 unfold pX;have h:=M5 o.kind;refine⟨fun h1=>⟨fun h2=>?_,fun h2=>⟨fun h3=>?_,fun h3=>?_⟩⟩,fun h1=>?_⟩
 ·have:=h.1 h1;exact(decide_eq_true ⟨this,.inl h2⟩).symm
 ·have:=h.1 h1;exact decide_eq_decide.2 ⟨fun q=>⟨this,.inr ⟨h3,q⟩⟩,fun q=>q.2.elim (fun e=>absurd e h2) fun e=>e.2⟩
 ·exact(decide_eq_false fun q=>q.2.elim (fun e=>h2 e) fun e=>h3 e.1).symm
 ·exact(decide_eq_false fun q=>h1 fun e=>(h.2 q.1) e).symm
theorem Om(w0:W0)(hg:nW w0)(n:Int)(o:bp)(S:St):aa Tryz.prog w0 34 [dI n,AU o] S (fun d S'=>d=dB (pX n o)∧S'=S):=by
 refine bW [] mx Tryz.func34 rfl rfl (by kernel_rfl) ?_;simp(maxDischargeDepth:=12) (maxSteps:=1000000) -implicitDefEqProofs only[Tryz.ntmps34,go_sem,Nat.reduceAdd,Nat.reduceSub,Nat.reduceMul,Nat.reduceLeDiff,Nat.reduceEqDiff,Nat.reduceGT,Nat.reduceBEq,reduceCtorEq,↓reduceIte,Int.reduceToNat,Int.reduceLE,Int.reduceLT,Int.reduceNe,Int.reduceEq];intro b;refine ao (MO _ hg o.kind _) ?_;simp(maxDischargeDepth:=12) (maxSteps:=1000000) -implicitDefEqProofs only[go_sem,Nat.reduceAdd,Nat.reduceSub,Nat.reduceMul,Nat.reduceLeDiff,Nat.reduceEqDiff,Nat.reduceGT,Nat.reduceBEq,reduceCtorEq,↓reduceIte,Int.reduceToNat,Int.reduceLE,Int.reduceLT,Int.reduceNe,Int.reduceEq];exact rU n o
theorem Ka(w0:W0)(n:Int)(o:bp)(S:St):aa Tryz.prog w0 20 [dI n,AU o] S (fun d S'=>d=dB (pX n o)∧S'=S):=by
 refine bW [] mx Tryz.func20 rfl rfl (by kernel_rfl) ?_;simp(maxDischargeDepth:=12) (maxSteps:=1000000) -implicitDefEqProofs only[Tryz.ntmps20,go_sem,Nat.reduceAdd,Nat.reduceSub,Nat.reduceMul,Nat.reduceLeDiff,Nat.reduceEqDiff,Nat.reduceGT,Nat.reduceBEq,reduceCtorEq,↓reduceIte,Int.reduceToNat,Int.reduceLE,Int.reduceLT,Int.reduceNe,Int.reduceEq];intro b;refine ao (Nl _ o.kind _) ?_;simp(maxDischargeDepth:=12) (maxSteps:=1000000) -implicitDefEqProofs only[go_sem,Nat.reduceAdd,Nat.reduceSub,Nat.reduceMul,Nat.reduceLeDiff,Nat.reduceEqDiff,Nat.reduceGT,Nat.reduceBEq,reduceCtorEq,↓reduceIte,Int.reduceToNat,Int.reduceLE,Int.reduceLT,Int.reduceNe,Int.reduceEq];exact rU n o
def iI(up:List Nat)(o:bp)(x:Int):Bool:=decide (o.kind=16)||cR up o.level x
theorem zw(w0:W0)(up:List Nat)(hu:di up)(o:bp)(x:Int)(S:St):aa Tryz.prog w0 21 [ec up,AU o,dI x] S (fun d S'=>d=dB (iI up o x)∧S'=S):=by
 refine bW [] mx Tryz.func21 rfl rfl (by kernel_rfl) ?_;simp(maxDischargeDepth:=12) (maxSteps:=1000000) -implicitDefEqProofs only[Tryz.ntmps21,go_sem,Nat.reduceAdd,Nat.reduceSub,Nat.reduceMul,Nat.reduceLeDiff,Nat.reduceEqDiff,Nat.reduceGT,Nat.reduceBEq,reduceCtorEq,↓reduceIte,Int.reduceToNat,Int.reduceLE,Int.reduceLT,Int.reduceNe,Int.reduceEq];intro b;unfold iI;refine⟨fun h=>by rw[decide_eq_true h];rfl,fun h=>?_⟩;rw[decide_eq_false h];refine ao (l5 _ up hu o.level x _) ?_;simp(maxDischargeDepth:=12) (maxSteps:=1000000) -implicitDefEqProofs only[go_sem,Nat.reduceAdd,Nat.reduceSub,Nat.reduceMul,Nat.reduceLeDiff,Nat.reduceEqDiff,Nat.reduceGT,Nat.reduceBEq,reduceCtorEq,↓reduceIte,Int.reduceToNat,Int.reduceLE,Int.reduceLT,Int.reduceNe,Int.reduceEq]
def nL(up:List Nat)(x:Int)(l:List (List UInt8))(i:Nat):List (List UInt8):=(List.range i).map fun j:Nat=>if cR up (j:Int) x then l.getD j []else []
theorem x7(up:List Nat)(x:Int)(l:List (List UInt8))(i:Nat):nL up x l (i+1)=nL up x l i++[if cR up (i:Int) x then l.getD i []else []]:=by
 unfold nL;rw[YZ,Xw];rfl
theorem mR(up:List Nat)(x:Int)(l:List (List UInt8))(i:Nat):(nL up x l i).length=i:=by unfold nL;simp
def df(up:List Nat)(o:bp)(x:Int):bp:=if o.kind=16 then(if cR up o.level x then{o with ba:=nL up x o.ba o.ba.length}else{o with ba:=nL up x o.ba o.ba.length,level:=0,aC:=0,n:=0})else o
theorem Gm(w0:W0)(up:List Nat)(hu:di up)(o:bp)(hk:o.ba.length≤1048576)(x:Int)(S:St):aa Tryz.prog w0 23 [ec up,AU o,dI x] S (fun d S'=>d=AU (df up o x)∧S'=S):=by
 by_cases h16:o.kind=16
 ·have e16:(o.kind=16)=True:=eq_true h16;refine bW [] mx Tryz.func23 rfl rfl (by kernel_rfl) ?_;simp(maxDischargeDepth:=12) (maxSteps:=1000000) -implicitDefEqProofs only[Tryz.ntmps23,go_sem,Nat.reduceAdd,Nat.reduceSub,Nat.reduceMul,Nat.reduceLeDiff,Nat.reduceEqDiff,Nat.reduceGT,Nat.reduceBEq,reduceCtorEq,↓reduceIte,Int.reduceToNat,Int.reduceLE,Int.reduceLT,Int.reduceNe,Int.reduceEq,e16];intro b b6;have eb:=aw b6 b.n (by simp(maxDischargeDepth:=12) (maxSteps:=1000000) -implicitDefEqProofs only[go_sem,Nat.reduceAdd,Nat.reduceSub,Nat.reduceMul,Nat.reduceLeDiff,Nat.reduceEqDiff,Nat.reduceGT,Nat.reduceBEq,reduceCtorEq,↓reduceIte,Int.reduceToNat,Int.reduceLE,Int.reduceLT,Int.reduceNe,Int.reduceEq]);refine nB 7 1 rfl (by omega) fun ln=>?_;have hm8:maxLen=9223372036854775807:=rfl;refine aX [] o.ba.length [0,2,4,6,7,8] (fun i=>[(7,.acc ln.n i),(8,dI i)]) (fun i=>⟨(b6.n,[dI 0,dI 0,dI 0,dI 0,dS ByteArray.empty,dS ByteArray.empty,dS ByteArray.empty,dI 0,dI 0,dI 0,.sl 0 true []])::(b.n,o.ds)::S.box,(ln.n,.arr 1 (aA (nL up x o.ba i)))::S.acc⟩) (fun _=>True) mx (by kernel_rfl) ?_ ?_
  ·simp(maxDischargeDepth:=12) (maxSteps:=1000000) -implicitDefEqProofs only[go_sem,Nat.reduceAdd,Nat.reduceSub,Nat.reduceMul,Nat.reduceLeDiff,Nat.reduceEqDiff,Nat.reduceGT,Nat.reduceBEq,reduceCtorEq,↓reduceIte,Int.reduceToNat,Int.reduceLE,Int.reduceLT,Int.reduceNe,Int.reduceEq,eb];exact .refl _
  ·intro i hi _;by_cases hil:i<o.ba.length
   ·have e1:IntKind.i64.wrap ((i:Int)+1)=((i+1:Nat):Int):=aI (by omega);have hx:o.ba[i]? =some o.ba[i]:=W5 hil;have hg:o.ba.getD i []=o.ba[i]:=by rw[Xs,hx];rfl
    have hks:=x7 up x o.ba i;rw[hg]at hks;have hkl:=mR up x o.ba i;generalize o.ba[i]=y at hx hks;simp(maxDischargeDepth:=12) (maxSteps:=1000000) -implicitDefEqProofs only[go_sem,Nat.reduceAdd,Nat.reduceSub,Nat.reduceMul,Nat.reduceLeDiff,Nat.reduceEqDiff,Nat.reduceGT,Nat.reduceBEq,reduceCtorEq,↓reduceIte,Int.reduceToNat,Int.reduceLE,Int.reduceLT,Int.reduceNe,Int.reduceEq,eb,hx,e1];refine⟨fun _=>ao (l5 _ up hu (i:Int) x _) ?_,fun h=>absurd hil h⟩
    cases hle:cR up (i:Int) x with
    |true=>
     rw[hle,if_pos rfl]at hks;simp(maxDischargeDepth:=12) (maxSteps:=1000000) -implicitDefEqProofs only[go_sem,Nat.reduceAdd,Nat.reduceSub,Nat.reduceMul,Nat.reduceLeDiff,Nat.reduceEqDiff,Nat.reduceGT,Nat.reduceBEq,reduceCtorEq,↓reduceIte,Int.reduceToNat,Int.reduceLE,Int.reduceLT,Int.reduceNe,Int.reduceEq,eb,hx,e1,hkl];refine⟨hil,by omega,by omega,hil,?_⟩;rw[hks,Xw];exact .refl _
    |false=>
     rw[hle,if_neg (by simp)]at hks;simp(maxDischargeDepth:=12) (maxSteps:=1000000) -implicitDefEqProofs only[go_sem,Nat.reduceAdd,Nat.reduceSub,Nat.reduceMul,Nat.reduceLeDiff,Nat.reduceEqDiff,Nat.reduceGT,Nat.reduceBEq,reduceCtorEq,↓reduceIte,Int.reduceToNat,Int.reduceLE,Int.reduceLT,Int.reduceNe,Int.reduceEq,eb,hx,e1,hkl];refine⟨by omega,by omega,hil,?_⟩;rw[hks,Xw];exact .refl _
   ·have hie:i=o.ba.length:=by omega
    simp(maxDischargeDepth:=12) (maxSteps:=1000000) -implicitDefEqProofs only[go_sem,Nat.reduceAdd,Nat.reduceSub,Nat.reduceMul,Nat.reduceLeDiff,Nat.reduceEqDiff,Nat.reduceGT,Nat.reduceBEq,reduceCtorEq,↓reduceIte,Int.reduceToNat,Int.reduceLE,Int.reduceLT,Int.reduceNe,Int.reduceEq,eb];refine⟨fun h=>absurd h hil,fun _=>?_⟩;refine ao (l5 _ up hu o.level x _) ?_;unfold df;rw[if_pos h16]
    cases hle:cR up o.level x with
    |true=>
     rw[if_pos rfl];simp(maxDischargeDepth:=12) (maxSteps:=1000000) -implicitDefEqProofs only[go_sem,Nat.reduceAdd,Nat.reduceSub,Nat.reduceMul,Nat.reduceLeDiff,Nat.reduceEqDiff,Nat.reduceGT,Nat.reduceBEq,reduceCtorEq,↓reduceIte,Int.reduceToNat,Int.reduceLE,Int.reduceLT,Int.reduceNe,Int.reduceEq,eb];rw[hie];exact⟨mR _ _ _ _,.refl _⟩
    |false=>
     rw[if_neg (by simp)];simp(maxDischargeDepth:=12) (maxSteps:=1000000) -implicitDefEqProofs only[go_sem,Nat.reduceAdd,Nat.reduceSub,Nat.reduceMul,Nat.reduceLeDiff,Nat.reduceEqDiff,Nat.reduceGT,Nat.reduceBEq,reduceCtorEq,↓reduceIte,Int.reduceToNat,Int.reduceLE,Int.reduceLT,Int.reduceNe,Int.reduceEq,eb];rw[hie];exact⟨mR _ _ _ _,.refl _⟩
 ·have e16:(o.kind=16)=False:=eq_false h16;unfold df;rw[if_neg h16];refine bW [] mx Tryz.func23 rfl rfl (by kernel_rfl) ?_;simp(maxDischargeDepth:=12) (maxSteps:=1000000) -implicitDefEqProofs only[Tryz.ntmps23,go_sem,Nat.reduceAdd,Nat.reduceSub,Nat.reduceMul,Nat.reduceLeDiff,Nat.reduceEqDiff,Nat.reduceGT,Nat.reduceBEq,reduceCtorEq,↓reduceIte,Int.reduceToNat,Int.reduceLE,Int.reduceLT,Int.reduceNe,Int.reduceEq,e16]
structure iq where
 key:List UInt8
 vU:Int
 val:List UInt8
@[go_sem] def qT (r:iq):DV:= .agg [dS (tx r.key),dI r.vU,dS (tx r.val)]
noncomputable def iD(x:Int)(n:List UInt8)(f:List UInt8→Option (List UInt8)):List iq:=(cL f).map fun k=>⟨n++[47]++k,x,(f k).getD []⟩
noncomputable def nY(x:Int)(F:List UInt8→Option (List UInt8→Option (List UInt8))):List iq:=(cL F).flatMap fun n=>iD x n ((F n).getD fun _=>none)
noncomputable def lZ(x:Int)(F:List UInt8→Option (List UInt8→Option (List UInt8)))(i:Nat):List iq:=((cL F).take i).flatMap fun n=>iD x n ((F n).getD fun _=>none)
theorem By(x:Int){F:List UInt8→Option (List UInt8→Option (List UInt8))}{i:Nat}{n:List UInt8}(h:(cL F)[i]? =some n):lZ x F (i+1)=lZ x F i++iD x n ((F n).getD fun _=>none):=by
 unfold lZ;rw[XZ,h,List.flatMap_append];simp
theorem yL{α:Type}{l:List α}{i:Nat}{x:α}(h:l[i]? =some x):l.take (i+1)=l.take i++[x]:=by rw[XZ,h];rfl
theorem oF{α:Type}{f:List UInt8→Option α}{k:List UInt8}(h:k∈cL f):f k≠none:=by
 unfold cL at h;split at h
 ·rename_i hx;have:=(Y9 _ _).mem_iff.1 h;exact(hx.choose_spec.2 k).1 this
 ·cases h
theorem Q4{S:St}{l N:Nat}{ids:List UInt8→Option Nat}{F:List UInt8→Option (List UInt8→Option (List UInt8))}(h:BM S l N ids F){i:Nat}{n:List UInt8}(hx:(cL F)[i]? =some n):∃id f,ids n=some id∧F n=some f:=by
 have h1:=oF (W7 hx);obtain⟨f,hf⟩:=XD.1 h1;obtain⟨id,hi⟩:=XD.1 (fun q=>h1 ((h.some_ n).1 q));exact⟨id,f,hi,hf⟩
theorem Dq(w0:W0){S:St}{m:Nat}{c:Cf}{ls:List Nat}{t sn:Nat}(hm:lk S.box m=some (Dm c ls t sn))(x:Int){b lb:Nat}{au dr:DV}{has:Int}(hx:yU ls x=some b)(hl:lk S.box b=some (lK lb au has dr))
 {N:Nat} {ids:List UInt8→Option Nat} {F:List UInt8→Option (List UInt8→Option (List UInt8))} (h:BM S lb N ids F) (hN:N≤10000) (hz:∀n f k v,F n=some f→f k=some v→n.length≤1000∧k.length≤1000):
 aa Tryz.prog w0 17 [bz m,dI x] S (fun d S'=>d= .sl 3 false ((nY x F).map qT)∧S'=S):=by
 refine bW [] mx Tryz.func17 rfl rfl (by kernel_rfl) ?_;simp(maxDischargeDepth:=12) (maxSteps:=1000000) -implicitDefEqProofs only[Tryz.ntmps17,go_sem,Nat.reduceAdd,Nat.reduceSub,Nat.reduceMul,Nat.reduceLeDiff,Nat.reduceEqDiff,Nat.reduceGT,Nat.reduceBEq,reduceCtorEq,↓reduceIte,Int.reduceToNat,Int.reduceLE,Int.reduceLT,Int.reduceNe,Int.reduceEq];refine ao (ofM w0 hm x) ?_;rw[hx];unfold vD;simp(maxDischargeDepth:=12) (maxSteps:=1000000) -implicitDefEqProofs only[go_sem,Nat.reduceAdd,Nat.reduceSub,Nat.reduceMul,Nat.reduceLeDiff,Nat.reduceEqDiff,Nat.reduceGT,Nat.reduceBEq,reduceCtorEq,↓reduceIte,Int.reduceToNat,Int.reduceLE,Int.reduceLT,Int.reduceNe,Int.reduceEq,hl];refine an (I2 w0 S) ?_;rintro _ _ ⟨bk,rfl,rfl⟩;simp(maxDischargeDepth:=12) (maxSteps:=1000000) -implicitDefEqProofs only[go_sem,Nat.reduceAdd,Nat.reduceSub,Nat.reduceMul,Nat.reduceLeDiff,Nat.reduceEqDiff,Nat.reduceGT,Nat.reduceBEq,reduceCtorEq,↓reduceIte,Int.reduceToNat,Int.reduceLE,Int.reduceLT,Int.reduceNe,Int.reduceEq];have h':BM ⟨(bk.n,[.mp lb])::S.box,S.acc⟩ lb N ids F:=h.mono fun c x _ hc=>hc;refine an (MU w0 (b:=bk.n) (by simp[lk]) h' (by omega)) ?_;rintro _ _ ⟨r,rfl,hkl,rfl⟩;simp(maxDischargeDepth:=12) (maxSteps:=1000000) -implicitDefEqProofs only[go_sem,Nat.reduceAdd,Nat.reduceSub,Nat.reduceMul,Nat.reduceLeDiff,Nat.reduceEqDiff,Nat.reduceGT,Nat.reduceBEq,reduceCtorEq,↓reduceIte,Int.reduceToNat,Int.reduceLE,Int.reduceLT,Int.reduceNe,Int.reduceEq];refine nB 6 3 rfl (by omega) fun ln=>?_;have hlr:=aw ln r.n (by simp(maxDischargeDepth:=12) (maxSteps:=1000000) -implicitDefEqProofs only[go_sem,Nat.reduceAdd,Nat.reduceSub,Nat.reduceMul,Nat.reduceLeDiff,Nat.reduceEqDiff,Nat.reduceGT,Nat.reduceBEq,reduceCtorEq,↓reduceIte,Int.reduceToNat,Int.reduceLE,Int.reduceLT,Int.reduceNe,Int.reduceEq]);obtain⟨es,c1,h1,h2,h3⟩:=h.top;have hr1:(r.n=ln.n)=False:=by rw[←hlr];exact propext eq_comm
 refine aX [] (cL F).length [1,5,6,21,22,23] (fun i=>[(6,.acc ln.n (lZ x F i).length),(21,.acc r.n (cL F).length),(22,dI (cL F).length),(23,dI i)]) (fun i=>⟨(bk.n,[.mp lb])::S.box,(ln.n,.arr 3 ((lZ x F i).map qT))::(r.n,.arr 1 ((cL F).map eY))::S.acc⟩) (fun i=>(lZ x F i).length≤i*N) mx (by kernel_rfl) ?_ ?_
 ·have e0:lZ x F 0=[]:=rfl;simp(maxDischargeDepth:=12) (maxSteps:=1000000) -implicitDefEqProofs only[go_sem,Nat.reduceAdd,Nat.reduceSub,Nat.reduceMul,Nat.reduceLeDiff,Nat.reduceEqDiff,Nat.reduceGT,Nat.reduceBEq,reduceCtorEq,↓reduceIte,Int.reduceToNat,Int.reduceLE,Int.reduceLT,Int.reduceNe,Int.reduceEq];rw[e0];exact⟨by simp,.refl _,.refl _⟩
 ·intro i hi hen;by_cases hil:i<(cL F).length
  ·have e1:IntKind.i64.wrap ((i:Int)+1)=((i+1:Nat):Int):=aI (by omega);have hx:(cL F)[i]? =some (cL F)[i]:=W5 hil;have hks:=By x hx;generalize (cL F)[i]=n at hx hks;obtain⟨id,f,g1,g2⟩:=Q4 h hx;have h3n:=h3 n;rw[g1]at h3n;unfold kT at h3n;have hlrr:((cL F).map eY)[i]? =some (eY n):=by rw[Xd,hx];rfl
   have hiN:i*N≤10000*10000:=Nat.mul_le_mul (by omega) hN;have hrS:lk S.acc r.n=none:=ak r
   have hlS:lk S.acc ln.n=none:=by
    have q:=ak ln;simp only[lk]at q;rw[if_neg (fun e=>by rw[hr1]at e;exact e)]at q;exact q
   obtain⟨esi,ci,i1,i2,i3⟩:=h.low n id f g1 g2;have hr2:(r.n=id)=False:=eq_false fun e=>by rw[e,i1]at hrS;cases hrS
   have hl2:(ln.n=id)=False:=eq_false fun e=>by rw[e,i1]at hlS;cases hlS
   have hr3:(r.n=lb)=False:=eq_false fun e=>by rw[e,h1]at hrS;cases hrS
   have hl3:(ln.n=lb)=False:=eq_false fun e=>by rw[e,h1]at hlS;cases hlS
   have hke:(F n).getD (fun _=>none)=f:=by rw[g2];rfl
   rw[hke]at hks;simp(maxDischargeDepth:=12) (maxSteps:=1000000) -implicitDefEqProofs only[go_sem,Nat.reduceAdd,Nat.reduceSub,Nat.reduceMul,Nat.reduceLeDiff,Nat.reduceEqDiff,Nat.reduceGT,Nat.reduceBEq,reduceCtorEq,↓reduceIte,Int.reduceToNat,Int.reduceLE,Int.reduceLT,Int.reduceNe,Int.reduceEq,hx,e1,hr1,hlr,hl,h1,h3n];refine⟨fun _=>⟨hil,hil,?_⟩,fun h=>absurd hil h⟩;refine an (zB w0 _) ?_;rintro _ _ ⟨b2,rfl,rfl⟩;simp(maxDischargeDepth:=12) (maxSteps:=1000000) -implicitDefEqProofs only[go_sem,Nat.reduceAdd,Nat.reduceSub,Nat.reduceMul,Nat.reduceLeDiff,Nat.reduceEqDiff,Nat.reduceGT,Nat.reduceBEq,reduceCtorEq,↓reduceIte,Int.reduceToNat,Int.reduceLE,Int.reduceLT,Int.reduceNe,Int.reduceEq];have hIM:IM ⟨(b2.n,[.mp id])::(bk.n,[.mp lb])::S.box,(ln.n,.arr 3 ((lZ x F i).map qT))::(r.n,.arr 1 ((cL F).map eY))::S.acc⟩ id N f:=⟨esi,ci,by simp(maxDischargeDepth:=12) (maxSteps:=1000000) -implicitDefEqProofs only[go_sem,Nat.reduceAdd,Nat.reduceSub,Nat.reduceMul,Nat.reduceLeDiff,Nat.reduceEqDiff,Nat.reduceGT,Nat.reduceBEq,reduceCtorEq,↓reduceIte,Int.reduceToNat,Int.reduceLE,Int.reduceLT,Int.reduceNe,Int.reduceEq,hr2,hl2,i1],i2,i3⟩;refine an (Ev w0 (b:=b2.n) (by simp[lk]) hIM (by omega)) ?_;rintro _ _ ⟨r2,rfl,hkf,rfl⟩;simp(maxDischargeDepth:=12) (maxSteps:=1000000) -implicitDefEqProofs only[go_sem,Nat.reduceAdd,Nat.reduceSub,Nat.reduceMul,Nat.reduceLeDiff,Nat.reduceEqDiff,Nat.reduceGT,Nat.reduceBEq,reduceCtorEq,↓reduceIte,Int.reduceToNat,Int.reduceLE,Int.reduceLT,Int.reduceNe,Int.reduceEq];have hil2:(iD x n f).length=(cL f).length:=by unfold iD;simp
   have r2l:(r2.n=ln.n)=False:=aw r2 ln.n (by simp(maxDischargeDepth:=12) (maxSteps:=1000000) -implicitDefEqProofs only[go_sem,Nat.reduceAdd,Nat.reduceSub,Nat.reduceMul,Nat.reduceLeDiff,Nat.reduceEqDiff,Nat.reduceGT,Nat.reduceBEq,reduceCtorEq,↓reduceIte,Int.reduceToNat,Int.reduceLE,Int.reduceLT,Int.reduceNe,Int.reduceEq]);have r2r:(r2.n=r.n)=False:=aw r2 r.n (by simp(maxDischargeDepth:=12) (maxSteps:=1000000) -implicitDefEqProofs only[go_sem,Nat.reduceAdd,Nat.reduceSub,Nat.reduceMul,Nat.reduceLeDiff,Nat.reduceEqDiff,Nat.reduceGT,Nat.reduceBEq,reduceCtorEq,↓reduceIte,Int.reduceToNat,Int.reduceLE,Int.reduceLT,Int.reduceNe,Int.reduceEq,hlr]);have r2l':(ln.n=r2.n)=False:=by rw[←r2l];exact propext eq_comm
   have r2r':(r.n=r2.n)=False:=by rw[←r2r];exact propext eq_comm
   have hr2S:lk S.acc r2.n=none:=by
    have q:=ak r2;simp only[lk]at q;rw[if_neg (fun e=>by rw[r2l']at e;exact e),if_neg (fun e=>by rw[r2r']at e;exact e)]at q;exact q
   have q2:(r2.n=id)=False:=eq_false fun e=>by rw[e,i1]at hr2S;cases hr2S
   have q3:(r2.n=lb)=False:=eq_false fun e=>by rw[e,h1]at hr2S;cases hr2S
   refine aX [] (cL f).length [1,5,6,8,21,22,23,34,35,36] (fun j=>[(6,.acc ln.n (lZ x F i++(iD x n f).take j).length),(34,.acc r2.n (cL f).length),(35,dI (cL f).length),(36,dI j)]) (fun j=>⟨(b2.n,[.mp id])::(bk.n,[.mp lb])::S.box,(r2.n,.arr 1 ((cL f).map eY))::(ln.n,.arr 3 ((lZ x F i++(iD x n f).take j).map qT))::(r.n,.arr 1 ((cL F).map eY))::S.acc⟩) (fun _=>True) mx (by kernel_rfl) ?_ ?_
   ·simp(maxDischargeDepth:=12) (maxSteps:=1000000) -implicitDefEqProofs only[go_sem,Nat.reduceAdd,Nat.reduceSub,Nat.reduceMul,Nat.reduceLeDiff,Nat.reduceEqDiff,Nat.reduceGT,Nat.reduceBEq,reduceCtorEq,↓reduceIte,Int.reduceToNat,Int.reduceLE,Int.reduceLT,Int.reduceNe,Int.reduceEq,r2l,r2r,r2l',r2r']
   ·intro j hj _;by_cases hjl:j<(cL f).length
    ·have e2:IntKind.i64.wrap ((j:Int)+1)=((j+1:Nat):Int):=aI (by omega);have hy:(cL f)[j]? =some (cL f)[j]:=W5 hjl;generalize (cL f)[j]=k at hy;obtain⟨v,hv⟩:=XD.1 (oF (W7 hy));have i3k:=i3 k;rw[hv]at i3k;unfold kT at i3k;obtain⟨z1,z2⟩:=hz n f k v g2 hv;have het:(iD x n f)[j]? =some ⟨n++[47]++k,x,v⟩:=by unfold iD;rw[Xd,hy,XB,hv];rfl
     have hts:=yL het;have hLn:(lZ x F i++(iD x n f).take j).length≤100010000:=by rw[Xj,XT];omega
     have hcat:tx n++⟨#[47]⟩++tx k=tx (n++[47]++k):=by
      refine Hk ?_;have h2:(⟨#[47]⟩:ByteArray).data.toList=[47]:=rfl;simp only[Ea,dV,h2]
     have hm8:maxLen=9223372036854775807:=rfl;simp(maxDischargeDepth:=12) (maxSteps:=1000000) -implicitDefEqProofs only[go_sem,Nat.reduceAdd,Nat.reduceSub,Nat.reduceMul,Nat.reduceLeDiff,Nat.reduceEqDiff,Nat.reduceGT,Nat.reduceBEq,reduceCtorEq,↓reduceIte,Int.reduceToNat,Int.reduceLE,Int.reduceLT,Int.reduceNe,Int.reduceEq,hy,e2,r2l,r2r,r2l',r2r',hl,h1,h3n,hr2,hl2,hr3,hl3,q2,q3,i1,i3k,dP,hcat];have hmin:min j (iD x n f).length=j:=by omega
     have hmin':min (j+1) (iD x n f).length=j+1:=by omega
     rw[hmin,hmin'];refine⟨fun _=>⟨hjl,hjl,by omega,by omega,by omega,by omega,hjl,.refl _,?_⟩,fun h=>absurd hjl h⟩;rw[hts,←YN,Xw (l₁:=lZ x F i++(iD x n f).take j)];exact .refl _
    ·have hjt:(iD x n f).take j=iD x n f:=XF (by omega);rw[hjt,←hks];simp(maxDischargeDepth:=12) (maxSteps:=1000000) -implicitDefEqProofs only[go_sem,Nat.reduceAdd,Nat.reduceSub,Nat.reduceMul,Nat.reduceLeDiff,Nat.reduceEqDiff,Nat.reduceGT,Nat.reduceBEq,reduceCtorEq,↓reduceIte,Int.reduceToNat,Int.reduceLE,Int.reduceLT,Int.reduceNe,Int.reduceEq,e1,r2l,r2r,r2l',r2r'];refine⟨fun h=>absurd h hjl,fun _=>⟨hil,?_⟩⟩;rw[hks,Xj,hil2,X1];omega
  ·have hie:lZ x F i=nY x F:=by unfold lZ nY;rw[XF (by omega)]
   simp(maxDischargeDepth:=12) (maxSteps:=1000000) -implicitDefEqProofs only[go_sem,Nat.reduceAdd,Nat.reduceSub,Nat.reduceMul,Nat.reduceLeDiff,Nat.reduceEqDiff,Nat.reduceGT,Nat.reduceBEq,reduceCtorEq,↓reduceIte,Int.reduceToNat,Int.reduceLE,Int.reduceLT,Int.reduceNe,Int.reduceEq,hr1,hlr];refine⟨fun h=>absurd h hil,fun _=>?_⟩;rw[hie];exact .refl _
@[go_sem] def HJ:DV:= .agg [dI 0,dI 0,.sl 0 true [],dI 0,dI 0,dI 0,dI 0,.sl 0 true []]
theorem Oq{A B C:St}(h:Has A B)(k:Has B C):Has A C:=⟨fun c x q=>k.box c x (h.box c x q),fun c x q=>k.acc c x (h.acc c x q)⟩
theorem mu.to{w0:W0}{S T:St}{e:Int}(h:mu w0 S e)(k:Has S T):mu w0 T e:=fun U q=>h U (Oq k q)
theorem Ba(w0:W0){S:St}{w m own b:Nat}{o:bp}{full:Bool}{au dr:DV}{has:Int}(hw:lk S.box w=some (qS m own o full))(hl:lk S.box own=some (lK b au has dr))(hq:has≠o.aC→mu w0 S 35):
 aa Tryz.prog w0 72 [bz w] S (fun d S'=>has=o.aC∧d=HJ∧S'=⟨up S.box own (lK b au 0 dr),S.acc⟩):=by
 refine mv [] mx Tryz.func72 rfl rfl (by kernel_rfl) ?_;simp(maxDischargeDepth:=12) (maxSteps:=1000000) -implicitDefEqProofs only[Tryz.ntmps72,go_sem,Nat.reduceAdd,Nat.reduceSub,Nat.reduceMul,Nat.reduceLeDiff,Nat.reduceEqDiff,Nat.reduceGT,Nat.reduceBEq,reduceCtorEq,↓reduceIte,Int.reduceToNat,Int.reduceLE,Int.reduceLT,Int.reduceNe,Int.reduceEq];intro b2;have e1:=bB b2 hw;have e2:=bB b2 hl;have hH:∀ds,Has S ⟨(b2.n,ds)::S.box,S.acc⟩:=fun ds=>(Has.refl S).aP b2 ds rfl;refine an (sJ w0 (w:=w) (own:=own) (m:=m) (o:=o) (full:=full) (b:=b) (au:=au) (dr:=dr) (has:=has) (by simp(maxDischargeDepth:=12) (maxSteps:=1000000) -implicitDefEqProofs only[go_sem,Nat.reduceAdd,Nat.reduceSub,Nat.reduceMul,Nat.reduceLeDiff,Nat.reduceEqDiff,Nat.reduceGT,Nat.reduceBEq,reduceCtorEq,↓reduceIte,Int.reduceToNat,Int.reduceLE,Int.reduceLT,Int.reduceNe,Int.reduceEq,e1,hw]) (by simp(maxDischargeDepth:=12) (maxSteps:=1000000) -implicitDefEqProofs only[go_sem,Nat.reduceAdd,Nat.reduceSub,Nat.reduceMul,Nat.reduceLeDiff,Nat.reduceEqDiff,Nat.reduceGT,Nat.reduceBEq,reduceCtorEq,↓reduceIte,Int.reduceToNat,Int.reduceLE,Int.reduceLT,Int.reduceNe,Int.reduceEq,e2,hl])) ?_;rintro _ _ ⟨rfl,rfl⟩;by_cases hh:has=o.aC
 ·rw[decide_eq_true hh];simp(maxDischargeDepth:=12) (maxSteps:=1000000) -implicitDefEqProofs only[go_sem,Nat.reduceAdd,Nat.reduceSub,Nat.reduceMul,Nat.reduceLeDiff,Nat.reduceEqDiff,Nat.reduceGT,Nat.reduceBEq,reduceCtorEq,↓reduceIte,Int.reduceToNat,Int.reduceLE,Int.reduceLT,Int.reduceNe,Int.reduceEq];refine an (aB w0 true 35 _ (fun h=>by cases h)) ?_;rintro _ _ ⟨_,rfl,rfl⟩;simp(maxDischargeDepth:=12) (maxSteps:=1000000) -implicitDefEqProofs only[go_sem,Nat.reduceAdd,Nat.reduceSub,Nat.reduceMul,Nat.reduceLeDiff,Nat.reduceEqDiff,Nat.reduceGT,Nat.reduceBEq,reduceCtorEq,↓reduceIte,Int.reduceToNat,Int.reduceLE,Int.reduceLT,Int.reduceNe,Int.reduceEq,e1,e2,hw,hl];exact⟨_,_,.refl _,(Sub.refl _).aP,hh,rfl,rfl⟩
 ·rw[decide_eq_false hh];simp(maxDischargeDepth:=12) (maxSteps:=1000000) -implicitDefEqProofs only[go_sem,Nat.reduceAdd,Nat.reduceSub,Nat.reduceMul,Nat.reduceLeDiff,Nat.reduceEqDiff,Nat.reduceGT,Nat.reduceBEq,reduceCtorEq,↓reduceIte,Int.reduceToNat,Int.reduceLE,Int.reduceLT,Int.reduceNe,Int.reduceEq];refine an (aB w0 false 35 _ (fun _=>(hq hh).to (hH _))) ?_;rintro _ _ ⟨q,_⟩;cases q
theorem Je(w0:W0){S:St}{w m own b d:Nat}{o:bp}{full:Bool}{au dr:DV}{has:Int}(hw:lk S.box w=some (qS m own o full))(hl:lk S.box own=some (lK b au has dr))(hdr:has=o.aC→dr= .mp d)(hne:(own=w)=False)(hq:has≠o.aC→mu w0 S 35):
 aa Tryz.prog w0 71 [bz w] S (fun d' S'=>has=o.aC∧d'=HJ∧S'=⟨up S.box own (lK d au 0 (.mp d)),S.acc⟩):=by
 refine mv [] mx Tryz.func71 rfl rfl (by kernel_rfl) ?_;simp(maxDischargeDepth:=12) (maxSteps:=1000000) -implicitDefEqProofs only[Tryz.ntmps71,go_sem,Nat.reduceAdd,Nat.reduceSub,Nat.reduceMul,Nat.reduceLeDiff,Nat.reduceEqDiff,Nat.reduceGT,Nat.reduceBEq,reduceCtorEq,↓reduceIte,Int.reduceToNat,Int.reduceLE,Int.reduceLT,Int.reduceNe,Int.reduceEq];intro b2;have e1:=bB b2 hw;have e2:=bB b2 hl;have hH:∀ds,Has S ⟨(b2.n,ds)::S.box,S.acc⟩:=fun ds=>(Has.refl S).aP b2 ds rfl;refine an (sJ w0 (w:=w) (own:=own) (m:=m) (o:=o) (full:=full) (b:=b) (au:=au) (dr:=dr) (has:=has) (by simp(maxDischargeDepth:=12) (maxSteps:=1000000) -implicitDefEqProofs only[go_sem,Nat.reduceAdd,Nat.reduceSub,Nat.reduceMul,Nat.reduceLeDiff,Nat.reduceEqDiff,Nat.reduceGT,Nat.reduceBEq,reduceCtorEq,↓reduceIte,Int.reduceToNat,Int.reduceLE,Int.reduceLT,Int.reduceNe,Int.reduceEq,e1,hw]) (by simp(maxDischargeDepth:=12) (maxSteps:=1000000) -implicitDefEqProofs only[go_sem,Nat.reduceAdd,Nat.reduceSub,Nat.reduceMul,Nat.reduceLeDiff,Nat.reduceEqDiff,Nat.reduceGT,Nat.reduceBEq,reduceCtorEq,↓reduceIte,Int.reduceToNat,Int.reduceLE,Int.reduceLT,Int.reduceNe,Int.reduceEq,e2,hl])) ?_;rintro _ _ ⟨rfl,rfl⟩;by_cases hh:has=o.aC
 ·cases hdr hh;rw[decide_eq_true hh];simp(maxDischargeDepth:=12) (maxSteps:=1000000) -implicitDefEqProofs only[go_sem,Nat.reduceAdd,Nat.reduceSub,Nat.reduceMul,Nat.reduceLeDiff,Nat.reduceEqDiff,Nat.reduceGT,Nat.reduceBEq,reduceCtorEq,↓reduceIte,Int.reduceToNat,Int.reduceLE,Int.reduceLT,Int.reduceNe,Int.reduceEq];refine an (aB w0 true 35 _ (fun h=>by cases h)) ?_;rintro _ _ ⟨_,rfl,rfl⟩;simp(maxDischargeDepth:=12) (maxSteps:=1000000) -implicitDefEqProofs only[go_sem,Nat.reduceAdd,Nat.reduceSub,Nat.reduceMul,Nat.reduceLeDiff,Nat.reduceEqDiff,Nat.reduceGT,Nat.reduceBEq,reduceCtorEq,↓reduceIte,Int.reduceToNat,Int.reduceLE,Int.reduceLT,Int.reduceNe,Int.reduceEq,e1,e2,hw,hl,hne];exact⟨_,_,.refl _,(Sub.refl _).aP,hh,rfl,rfl⟩
 ·rw[decide_eq_false hh];simp(maxDischargeDepth:=12) (maxSteps:=1000000) -implicitDefEqProofs only[go_sem,Nat.reduceAdd,Nat.reduceSub,Nat.reduceMul,Nat.reduceLeDiff,Nat.reduceEqDiff,Nat.reduceGT,Nat.reduceBEq,reduceCtorEq,↓reduceIte,Int.reduceToNat,Int.reduceLE,Int.reduceLT,Int.reduceNe,Int.reduceEq];refine an (aB w0 false 35 _ (fun _=>(hq hh).to (hH _))) ?_;rintro _ _ ⟨q,_⟩;cases q
theorem O9(w0:W0){S:St}{w m own b d N:Nat}{o:bp}{full:Bool}{au dr:DV}{has:Int}{ids:List UInt8→Option Nat}{F:List UInt8→Option (List UInt8→Option (List UInt8))}(hw:lk S.box w=some (qS m own o full))(hl:lk S.box own=some (lK b au has dr))(hdr:has=o.aC→dr= .mp d∧BM S d N ids F)
 (q1:has≠o.aC→mu w0 S 35) (q2:has=o.aC→¬(o.key≠[]∧(o.key.length:Int)≤16∧o.value.length≤400)→mu w0 S 34) (q3:has=o.aC→(o.key≠[]∧(o.key.length:Int)≤16∧o.value.length≤400)→ids o.bucket=none→mu w0 S 32) (q4:has=o.aC→(o.key≠[]∧(o.key.length:Int)≤16∧o.value.length≤400)→ids o.bucket≠none→full=true→mu w0 S 37):
 aa Tryz.prog w0 75 [bz w] S (fun d' S'=>has=o.aC∧(o.key≠[]∧(o.key.length:Int)≤16∧o.value.length≤400)∧full=false∧∃i es c,ids o.bucket=some i∧lk S.acc i=some (.xo (.mp .str es c))∧d'=HJ∧S'=⟨S.box,up S.acc i (.xo (.mp .str (cX es c (kT o.key) (eY o.value)) (eV es c (kT o.key))))⟩):=by
 refine mv [3] mx Tryz.func75 rfl rfl (by kernel_rfl) ?_;simp(maxDischargeDepth:=12) (maxSteps:=1000000) -implicitDefEqProofs only[Tryz.ntmps75,go_sem,Nat.reduceAdd,Nat.reduceSub,Nat.reduceMul,Nat.reduceLeDiff,Nat.reduceEqDiff,Nat.reduceGT,Nat.reduceBEq,reduceCtorEq,↓reduceIte,Int.reduceToNat,Int.reduceLE,Int.reduceLT,Int.reduceNe,Int.reduceEq];intro b2;have e1:=bB b2 hw;have e2:=bB b2 hl;have hH:∀ds,Has S ⟨(b2.n,ds)::S.box,S.acc⟩:=fun ds=>(Has.refl S).aP b2 ds rfl;refine an (sJ w0 (w:=w) (own:=own) (m:=m) (o:=o) (full:=full) (b:=b) (au:=au) (dr:=dr) (has:=has) (by simp(maxDischargeDepth:=12) (maxSteps:=1000000) -implicitDefEqProofs only[go_sem,Nat.reduceAdd,Nat.reduceSub,Nat.reduceMul,Nat.reduceLeDiff,Nat.reduceEqDiff,Nat.reduceGT,Nat.reduceBEq,reduceCtorEq,↓reduceIte,Int.reduceToNat,Int.reduceLE,Int.reduceLT,Int.reduceNe,Int.reduceEq,e1,hw]) (by simp(maxDischargeDepth:=12) (maxSteps:=1000000) -implicitDefEqProofs only[go_sem,Nat.reduceAdd,Nat.reduceSub,Nat.reduceMul,Nat.reduceLeDiff,Nat.reduceEqDiff,Nat.reduceGT,Nat.reduceBEq,reduceCtorEq,↓reduceIte,Int.reduceToNat,Int.reduceLE,Int.reduceLT,Int.reduceNe,Int.reduceEq,e2,hl])) ?_;rintro _ _ ⟨rfl,rfl⟩;by_cases hh:has=o.aC
 ·obtain⟨hdr1,hB⟩:=hdr hh;cases hdr1;rw[decide_eq_true hh];simp(maxDischargeDepth:=12) (maxSteps:=1000000) -implicitDefEqProofs only[go_sem,Nat.reduceAdd,Nat.reduceSub,Nat.reduceMul,Nat.reduceLeDiff,Nat.reduceEqDiff,Nat.reduceGT,Nat.reduceBEq,reduceCtorEq,↓reduceIte,Int.reduceToNat,Int.reduceLE,Int.reduceLT,Int.reduceNe,Int.reduceEq];refine an (aB w0 true 35 _ (fun h=>by cases h)) ?_;rintro _ _ ⟨_,rfl,rfl⟩;simp(maxDischargeDepth:=12) (maxSteps:=1000000) -implicitDefEqProofs only[go_sem,Nat.reduceAdd,Nat.reduceSub,Nat.reduceMul,Nat.reduceLeDiff,Nat.reduceEqDiff,Nat.reduceGT,Nat.reduceBEq,reduceCtorEq,↓reduceIte,Int.reduceToNat,Int.reduceLE,Int.reduceLT,Int.reduceNe,Int.reduceEq,e1,e2,hw,hl];refine ao (KH w0 o.key 16 _) ?_;simp(maxDischargeDepth:=12) (maxSteps:=1000000) -implicitDefEqProofs only[go_sem,Nat.reduceAdd,Nat.reduceSub,Nat.reduceMul,Nat.reduceLeDiff,Nat.reduceEqDiff,Nat.reduceGT,Nat.reduceBEq,reduceCtorEq,↓reduceIte,Int.reduceToNat,Int.reduceLE,Int.reduceLT,Int.reduceNe,Int.reduceEq,e1,e2,hw,hl];by_cases hk:¬o.key=[]∧(o.key.length:Int)≤16
  ·refine⟨fun _ _=>?_,fun h=>absurd hk h⟩;by_cases hv:o.value.length≤400
   ·have hd:decide (((tx o.value).size:Int)≤400)=true:=decide_eq_true (by rw[dP];omega);rw[hd];refine an (aB w0 true 34 _ (fun h=>by cases h)) ?_;rintro _ _ ⟨_,rfl,rfl⟩;simp(maxDischargeDepth:=12) (maxSteps:=1000000) -implicitDefEqProofs only[go_sem,Nat.reduceAdd,Nat.reduceSub,Nat.reduceMul,Nat.reduceLeDiff,Nat.reduceEqDiff,Nat.reduceGT,Nat.reduceBEq,reduceCtorEq,↓reduceIte,Int.reduceToNat,Int.reduceLE,Int.reduceLT,Int.reduceNe,Int.reduceEq,e1,e2,hw,hl];refine Y.iR [] [12] [0,1,2,7,8,9,10,3,4,5,6,11,12,13] mx (by kernel_rfl) ?_;simp(maxDischargeDepth:=12) (maxSteps:=1000000) -implicitDefEqProofs only[go_sem,Nat.reduceAdd,Nat.reduceSub,Nat.reduceMul,Nat.reduceLeDiff,Nat.reduceEqDiff,Nat.reduceGT,Nat.reduceBEq,reduceCtorEq,↓reduceIte,Int.reduceToNat,Int.reduceLE,Int.reduceLT,Int.reduceNe,Int.reduceEq,e1,e2,hw,hl];have hB':BM ⟨(b2.n,[dI 0,dI 0,.sl 0 true [],dI 0,dI 0,dI 0,dI 0,.sl 0 true []])::S.box,S.acc⟩ d N ids F:=hB.mono fun c x _ hc=>hc;refine an (mf w0 hB' o.bucket fun h=>(q3 hh ⟨hk.1,hk.2,hv⟩ h).to (hH _)) ?_;rintro _ _ ⟨i,hi,rfl,rfl⟩;obtain⟨f,hf⟩:=XD.1 (fun q=>by rw[(hB.some_ o.bucket).2 q]at hi;cases hi);obtain⟨es,c,g1,g2,g3⟩:=hB.low o.bucket i f hi hf;simp(maxDischargeDepth:=12) (maxSteps:=1000000) -implicitDefEqProofs only[go_sem,Nat.reduceAdd,Nat.reduceSub,Nat.reduceMul,Nat.reduceLeDiff,Nat.reduceEqDiff,Nat.reduceGT,Nat.reduceBEq,reduceCtorEq,↓reduceIte,Int.reduceToNat,Int.reduceLE,Int.reduceLT,Int.reduceNe,Int.reduceEq,e1,e2,hw,hl]
    cases full with
    |true=>
     simp(maxDischargeDepth:=12) (maxSteps:=1000000) -implicitDefEqProofs only[go_sem,Nat.reduceAdd,Nat.reduceSub,Nat.reduceMul,Nat.reduceLeDiff,Nat.reduceEqDiff,Nat.reduceGT,Nat.reduceBEq,reduceCtorEq,↓reduceIte,Int.reduceToNat,Int.reduceLE,Int.reduceLT,Int.reduceNe,Int.reduceEq,e1,e2,hw,hl];refine an (aB w0 false 37 _ (fun _=>(q4 hh ⟨hk.1,hk.2,hv⟩ (by rw[hi];simp) rfl).to (hH _))) ?_;rintro _ _ ⟨q,_⟩;cases q
    |false=>
     simp(maxDischargeDepth:=12) (maxSteps:=1000000) -implicitDefEqProofs only[go_sem,Nat.reduceAdd,Nat.reduceSub,Nat.reduceMul,Nat.reduceLeDiff,Nat.reduceEqDiff,Nat.reduceGT,Nat.reduceBEq,reduceCtorEq,↓reduceIte,Int.reduceToNat,Int.reduceLE,Int.reduceLT,Int.reduceNe,Int.reduceEq,e1,e2,hw,hl];refine an (aB w0 true 37 _ (fun h=>by cases h)) ?_;rintro _ _ ⟨_,rfl,rfl⟩;simp(maxDischargeDepth:=12) (maxSteps:=1000000) -implicitDefEqProofs only[go_sem,Nat.reduceAdd,Nat.reduceSub,Nat.reduceMul,Nat.reduceLeDiff,Nat.reduceEqDiff,Nat.reduceGT,Nat.reduceBEq,reduceCtorEq,↓reduceIte,Int.reduceToNat,Int.reduceLE,Int.reduceLT,Int.reduceNe,Int.reduceEq,e1,e2,hw,hl,g1];exact⟨_,_,.refl _,(Sub.refl _).aP,hh,⟨hk.1,hk.2,hv⟩,i,es,c,hi,g1,rfl,rfl⟩
   ·have hd:decide (((tx o.value).size:Int)≤400)=false:=decide_eq_false (by rw[dP];omega);rw[hd];refine an (aB w0 false 34 _ (fun _=>(q2 hh fun h=>hv h.2.2).to (hH _))) ?_;rintro _ _ ⟨q,_⟩;cases q
  ·refine⟨fun h h'=>absurd ⟨h,h'⟩ hk,fun _=>?_⟩;refine an (aB w0 false 34 _ (fun _=>(q2 hh fun h=>hk ⟨h.1,h.2.1⟩).to (hH _))) ?_;rintro _ _ ⟨q,_⟩;cases q
 ·rw[decide_eq_false hh];simp(maxDischargeDepth:=12) (maxSteps:=1000000) -implicitDefEqProofs only[go_sem,Nat.reduceAdd,Nat.reduceSub,Nat.reduceMul,Nat.reduceLeDiff,Nat.reduceEqDiff,Nat.reduceGT,Nat.reduceBEq,reduceCtorEq,↓reduceIte,Int.reduceToNat,Int.reduceLE,Int.reduceLT,Int.reduceNe,Int.reduceEq];refine an (aB w0 false 35 _ (fun _=>(q1 hh).to (hH _))) ?_;rintro _ _ ⟨q,_⟩;cases q
theorem Pv(w0:W0){S:St}{w m own b d N:Nat}{o:bp}{full:Bool}{au dr:DV}{has:Int}{ids:List UInt8→Option Nat}{F:List UInt8→Option (List UInt8→Option (List UInt8))}(hw:lk S.box w=some (qS m own o full))(hl:lk S.box own=some (lK b au has dr))(hdr:has=o.aC→dr= .mp d∧BM S d N ids F)
 (q1:has≠o.aC→mu w0 S 35) (q3:has=o.aC→ids o.bucket=none→mu w0 S 32) (q4:has=o.aC→ids o.bucket≠none→full=true→mu w0 S 37):
 aa Tryz.prog w0 74 [bz w] S (fun d' S'=>has=o.aC∧full=false∧∃i es c,ids o.bucket=some i∧lk S.acc d=some (.xo (.mp .str es c))∧d'=HJ∧S'=⟨S.box,up S.acc d (.xo (.mp .str (ig es (kT o.bucket)) c))⟩):=by
 refine mv [2] mx Tryz.func74 rfl rfl (by kernel_rfl) ?_;simp(maxDischargeDepth:=12) (maxSteps:=1000000) -implicitDefEqProofs only[Tryz.ntmps74,go_sem,Nat.reduceAdd,Nat.reduceSub,Nat.reduceMul,Nat.reduceLeDiff,Nat.reduceEqDiff,Nat.reduceGT,Nat.reduceBEq,reduceCtorEq,↓reduceIte,Int.reduceToNat,Int.reduceLE,Int.reduceLT,Int.reduceNe,Int.reduceEq];intro b2;have e1:=bB b2 hw;have e2:=bB b2 hl;have hH:∀ds,Has S ⟨(b2.n,ds)::S.box,S.acc⟩:=fun ds=>(Has.refl S).aP b2 ds rfl;refine an (sJ w0 (w:=w) (own:=own) (m:=m) (o:=o) (full:=full) (b:=b) (au:=au) (dr:=dr) (has:=has) (by simp(maxDischargeDepth:=12) (maxSteps:=1000000) -implicitDefEqProofs only[go_sem,Nat.reduceAdd,Nat.reduceSub,Nat.reduceMul,Nat.reduceLeDiff,Nat.reduceEqDiff,Nat.reduceGT,Nat.reduceBEq,reduceCtorEq,↓reduceIte,Int.reduceToNat,Int.reduceLE,Int.reduceLT,Int.reduceNe,Int.reduceEq,e1,hw]) (by simp(maxDischargeDepth:=12) (maxSteps:=1000000) -implicitDefEqProofs only[go_sem,Nat.reduceAdd,Nat.reduceSub,Nat.reduceMul,Nat.reduceLeDiff,Nat.reduceEqDiff,Nat.reduceGT,Nat.reduceBEq,reduceCtorEq,↓reduceIte,Int.reduceToNat,Int.reduceLE,Int.reduceLT,Int.reduceNe,Int.reduceEq,e2,hl])) ?_;rintro _ _ ⟨rfl,rfl⟩;by_cases hh:has=o.aC
 case neg=>
  rw[decide_eq_false hh];simp(maxDischargeDepth:=12) (maxSteps:=1000000) -implicitDefEqProofs only[go_sem,Nat.reduceAdd,Nat.reduceSub,Nat.reduceMul,Nat.reduceLeDiff,Nat.reduceEqDiff,Nat.reduceGT,Nat.reduceBEq,reduceCtorEq,↓reduceIte,Int.reduceToNat,Int.reduceLE,Int.reduceLT,Int.reduceNe,Int.reduceEq];refine an (aB w0 false 35 _ (fun _=>(q1 hh).to (hH _))) ?_;rintro _ _ ⟨q,_⟩;cases q
 obtain⟨hdr1,hB⟩:=hdr hh;cases hdr1;rw[decide_eq_true hh];simp(maxDischargeDepth:=12) (maxSteps:=1000000) -implicitDefEqProofs only[go_sem,Nat.reduceAdd,Nat.reduceSub,Nat.reduceMul,Nat.reduceLeDiff,Nat.reduceEqDiff,Nat.reduceGT,Nat.reduceBEq,reduceCtorEq,↓reduceIte,Int.reduceToNat,Int.reduceLE,Int.reduceLT,Int.reduceNe,Int.reduceEq];refine an (aB w0 true 35 _ (fun h=>by cases h)) ?_;rintro _ _ ⟨_,rfl,rfl⟩;simp(maxDischargeDepth:=12) (maxSteps:=1000000) -implicitDefEqProofs only[go_sem,Nat.reduceAdd,Nat.reduceSub,Nat.reduceMul,Nat.reduceLeDiff,Nat.reduceEqDiff,Nat.reduceGT,Nat.reduceBEq,reduceCtorEq,↓reduceIte,Int.reduceToNat,Int.reduceLE,Int.reduceLT,Int.reduceNe,Int.reduceEq,e1,e2,hw,hl];refine Y.iR [] [12] [0,1,2,7,8,9,10,3,4,5,6,11,12] mx (by kernel_rfl) ?_;simp(maxDischargeDepth:=12) (maxSteps:=1000000) -implicitDefEqProofs only[go_sem,Nat.reduceAdd,Nat.reduceSub,Nat.reduceMul,Nat.reduceLeDiff,Nat.reduceEqDiff,Nat.reduceGT,Nat.reduceBEq,reduceCtorEq,↓reduceIte,Int.reduceToNat,Int.reduceLE,Int.reduceLT,Int.reduceNe,Int.reduceEq,e1,e2,hw,hl];have hB':BM ⟨(b2.n,[dI 0,dI 0,.sl 0 true [],dI 0,dI 0,dI 0,dI 0,.sl 0 true []])::S.box,S.acc⟩ d N ids F:=hB.mono fun c x _ hc=>hc;refine an (mf w0 hB' o.bucket fun h=>(q3 hh h).to (hH _)) ?_;rintro _ _ ⟨i,hi,rfl,rfl⟩;obtain⟨f,hf⟩:=XD.1 (fun q=>by rw[(hB.some_ o.bucket).2 q]at hi;cases hi);obtain⟨es,c,g1,g2,g3⟩:=hB.low o.bucket i f hi hf;obtain⟨et,ct,t1,t2,t3⟩:=hB.top;simp(maxDischargeDepth:=12) (maxSteps:=1000000) -implicitDefEqProofs only[go_sem,Nat.reduceAdd,Nat.reduceSub,Nat.reduceMul,Nat.reduceLeDiff,Nat.reduceEqDiff,Nat.reduceGT,Nat.reduceBEq,reduceCtorEq,↓reduceIte,Int.reduceToNat,Int.reduceLE,Int.reduceLT,Int.reduceNe,Int.reduceEq,e1,e2,hw,hl,t1]
 cases full with
 |true=>
  simp(maxDischargeDepth:=12) (maxSteps:=1000000) -implicitDefEqProofs only[go_sem,Nat.reduceAdd,Nat.reduceSub,Nat.reduceMul,Nat.reduceLeDiff,Nat.reduceEqDiff,Nat.reduceGT,Nat.reduceBEq,reduceCtorEq,↓reduceIte,Int.reduceToNat,Int.reduceLE,Int.reduceLT,Int.reduceNe,Int.reduceEq,e1,e2,hw,hl,t1];refine an (aB w0 false 37 _ (fun _=>(q4 hh (by rw[hi];simp) rfl).to (hH _))) ?_;rintro _ _ ⟨q,_⟩;cases q
 |false=>
  simp(maxDischargeDepth:=12) (maxSteps:=1000000) -implicitDefEqProofs only[go_sem,Nat.reduceAdd,Nat.reduceSub,Nat.reduceMul,Nat.reduceLeDiff,Nat.reduceEqDiff,Nat.reduceGT,Nat.reduceBEq,reduceCtorEq,↓reduceIte,Int.reduceToNat,Int.reduceLE,Int.reduceLT,Int.reduceNe,Int.reduceEq,e1,e2,hw,hl,t1];refine an (aB w0 true 37 _ (fun h=>by cases h)) ?_;rintro _ _ ⟨_,rfl,rfl⟩;simp(maxDischargeDepth:=12) (maxSteps:=1000000) -implicitDefEqProofs only[go_sem,Nat.reduceAdd,Nat.reduceSub,Nat.reduceMul,Nat.reduceLeDiff,Nat.reduceEqDiff,Nat.reduceGT,Nat.reduceBEq,reduceCtorEq,↓reduceIte,Int.reduceToNat,Int.reduceLE,Int.reduceLT,Int.reduceNe,Int.reduceEq,e1,e2,hw,hl,t1];exact⟨_,_,.refl _,(Sub.refl _).aP,hh,i,et,ct,hi,rfl,rfl,rfl⟩
theorem JP(w0:W0){S:St}{w m own b d N:Nat}{o:bp}{full:Bool}{au dr:DV}{has:Int}{ids:List UInt8→Option Nat}{F:List UInt8→Option (List UInt8→Option (List UInt8))}(hw:lk S.box w=some (qS m own o full))(hl:lk S.box own=some (lK b au has dr))(hdr:has=o.aC→dr= .mp d∧BM S d N ids F)
 (q1:has≠o.aC→mu w0 S 35) (q3:has=o.aC→ids o.bucket=none→mu w0 S 32) (q5:has=o.aC→∀f,F o.bucket=some f→f o.key=none→mu w0 S 33) (q4:has=o.aC→∀f v,F o.bucket=some f→f o.key=some v→full=true→mu w0 S 37):
 aa Tryz.prog w0 76 [bz w] S (fun d' S'=>has=o.aC∧full=false∧∃i es c f v,ids o.bucket=some i∧F o.bucket=some f∧f o.key=some v∧lk S.acc i=some (.xo (.mp .str es c))∧d'=HJ∧S'=⟨S.box,up S.acc i (.xo (.mp .str (ig es (kT o.key)) c))⟩):=by
 refine mv [2] mx Tryz.func76 rfl rfl (by kernel_rfl) ?_;simp(maxDischargeDepth:=12) (maxSteps:=1000000) -implicitDefEqProofs only[Tryz.ntmps76,go_sem,Nat.reduceAdd,Nat.reduceSub,Nat.reduceMul,Nat.reduceLeDiff,Nat.reduceEqDiff,Nat.reduceGT,Nat.reduceBEq,reduceCtorEq,↓reduceIte,Int.reduceToNat,Int.reduceLE,Int.reduceLT,Int.reduceNe,Int.reduceEq];intro b2;have e1:=bB b2 hw;have e2:=bB b2 hl;have hH:∀ds,Has S ⟨(b2.n,ds)::S.box,S.acc⟩:=fun ds=>(Has.refl S).aP b2 ds rfl;refine an (sJ w0 (w:=w) (own:=own) (m:=m) (o:=o) (full:=full) (b:=b) (au:=au) (dr:=dr) (has:=has) (by simp(maxDischargeDepth:=12) (maxSteps:=1000000) -implicitDefEqProofs only[go_sem,Nat.reduceAdd,Nat.reduceSub,Nat.reduceMul,Nat.reduceLeDiff,Nat.reduceEqDiff,Nat.reduceGT,Nat.reduceBEq,reduceCtorEq,↓reduceIte,Int.reduceToNat,Int.reduceLE,Int.reduceLT,Int.reduceNe,Int.reduceEq,e1,hw]) (by simp(maxDischargeDepth:=12) (maxSteps:=1000000) -implicitDefEqProofs only[go_sem,Nat.reduceAdd,Nat.reduceSub,Nat.reduceMul,Nat.reduceLeDiff,Nat.reduceEqDiff,Nat.reduceGT,Nat.reduceBEq,reduceCtorEq,↓reduceIte,Int.reduceToNat,Int.reduceLE,Int.reduceLT,Int.reduceNe,Int.reduceEq,e2,hl])) ?_;rintro _ _ ⟨rfl,rfl⟩;by_cases hh:has=o.aC
 case neg=>
  rw[decide_eq_false hh];simp(maxDischargeDepth:=12) (maxSteps:=1000000) -implicitDefEqProofs only[go_sem,Nat.reduceAdd,Nat.reduceSub,Nat.reduceMul,Nat.reduceLeDiff,Nat.reduceEqDiff,Nat.reduceGT,Nat.reduceBEq,reduceCtorEq,↓reduceIte,Int.reduceToNat,Int.reduceLE,Int.reduceLT,Int.reduceNe,Int.reduceEq];refine an (aB w0 false 35 _ (fun _=>(q1 hh).to (hH _))) ?_;rintro _ _ ⟨q,_⟩;cases q
 obtain⟨hdr1,hB⟩:=hdr hh;cases hdr1;rw[decide_eq_true hh];simp(maxDischargeDepth:=12) (maxSteps:=1000000) -implicitDefEqProofs only[go_sem,Nat.reduceAdd,Nat.reduceSub,Nat.reduceMul,Nat.reduceLeDiff,Nat.reduceEqDiff,Nat.reduceGT,Nat.reduceBEq,reduceCtorEq,↓reduceIte,Int.reduceToNat,Int.reduceLE,Int.reduceLT,Int.reduceNe,Int.reduceEq];refine an (aB w0 true 35 _ (fun h=>by cases h)) ?_;rintro _ _ ⟨_,rfl,rfl⟩;simp(maxDischargeDepth:=12) (maxSteps:=1000000) -implicitDefEqProofs only[go_sem,Nat.reduceAdd,Nat.reduceSub,Nat.reduceMul,Nat.reduceLeDiff,Nat.reduceEqDiff,Nat.reduceGT,Nat.reduceBEq,reduceCtorEq,↓reduceIte,Int.reduceToNat,Int.reduceLE,Int.reduceLT,Int.reduceNe,Int.reduceEq,e1,e2,hw,hl];refine Y.iR [] [12] [0,1,2,7,8,9,10,3,4,5,6,11,12,13] mx (by kernel_rfl) ?_;simp(maxDischargeDepth:=12) (maxSteps:=1000000) -implicitDefEqProofs only[go_sem,Nat.reduceAdd,Nat.reduceSub,Nat.reduceMul,Nat.reduceLeDiff,Nat.reduceEqDiff,Nat.reduceGT,Nat.reduceBEq,reduceCtorEq,↓reduceIte,Int.reduceToNat,Int.reduceLE,Int.reduceLT,Int.reduceNe,Int.reduceEq,e1,e2,hw,hl];have hB':BM ⟨(b2.n,[dI 0,dI 0,.sl 0 true [],dI 0,dI 0,dI 0,dI 0,.sl 0 true []])::S.box,S.acc⟩ d N ids F:=hB.mono fun c x _ hc=>hc;refine an (mf w0 hB' o.bucket fun h=>(q3 hh h).to (hH _)) ?_;rintro _ _ ⟨i,hi,rfl,rfl⟩;obtain⟨f,hf⟩:=XD.1 (fun q=>by rw[(hB.some_ o.bucket).2 q]at hi;cases hi);obtain⟨es,c,g1,g2,g3⟩:=hB.low o.bucket i f hi hf;have g3k:=g3 o.key;unfold kT at g3k
 cases hv:f o.key with
 |none=>
  rw[hv]at g3k;simp(maxDischargeDepth:=12) (maxSteps:=1000000) -implicitDefEqProofs only[go_sem,Nat.reduceAdd,Nat.reduceSub,Nat.reduceMul,Nat.reduceLeDiff,Nat.reduceEqDiff,Nat.reduceGT,Nat.reduceBEq,reduceCtorEq,↓reduceIte,Int.reduceToNat,Int.reduceLE,Int.reduceLT,Int.reduceNe,Int.reduceEq,e1,e2,hw,hl,g1,g3k];refine an (aB w0 false 33 _ (fun _=>(q5 hh f hf hv).to (hH _))) ?_;rintro _ _ ⟨q,_⟩;cases q
 |some v=>
 rw[hv]at g3k;simp(maxDischargeDepth:=12) (maxSteps:=1000000) -implicitDefEqProofs only[go_sem,Nat.reduceAdd,Nat.reduceSub,Nat.reduceMul,Nat.reduceLeDiff,Nat.reduceEqDiff,Nat.reduceGT,Nat.reduceBEq,reduceCtorEq,↓reduceIte,Int.reduceToNat,Int.reduceLE,Int.reduceLT,Int.reduceNe,Int.reduceEq,e1,e2,hw,hl,g1,g3k];refine an (aB w0 true 33 _ (fun h=>by cases h)) ?_;rintro _ _ ⟨_,rfl,rfl⟩;simp(maxDischargeDepth:=12) (maxSteps:=1000000) -implicitDefEqProofs only[go_sem,Nat.reduceAdd,Nat.reduceSub,Nat.reduceMul,Nat.reduceLeDiff,Nat.reduceEqDiff,Nat.reduceGT,Nat.reduceBEq,reduceCtorEq,↓reduceIte,Int.reduceToNat,Int.reduceLE,Int.reduceLT,Int.reduceNe,Int.reduceEq,e1,e2,hw,hl,g1,g3k]
 cases full with
 |true=>
  simp(maxDischargeDepth:=12) (maxSteps:=1000000) -implicitDefEqProofs only[go_sem,Nat.reduceAdd,Nat.reduceSub,Nat.reduceMul,Nat.reduceLeDiff,Nat.reduceEqDiff,Nat.reduceGT,Nat.reduceBEq,reduceCtorEq,↓reduceIte,Int.reduceToNat,Int.reduceLE,Int.reduceLT,Int.reduceNe,Int.reduceEq,e1,e2,hw,hl,g1,g3k];refine an (aB w0 false 37 _ (fun _=>(q4 hh f v hf hv rfl).to (hH _))) ?_;rintro _ _ ⟨q,_⟩;cases q
 |false=>
  simp(maxDischargeDepth:=12) (maxSteps:=1000000) -implicitDefEqProofs only[go_sem,Nat.reduceAdd,Nat.reduceSub,Nat.reduceMul,Nat.reduceLeDiff,Nat.reduceEqDiff,Nat.reduceGT,Nat.reduceBEq,reduceCtorEq,↓reduceIte,Int.reduceToNat,Int.reduceLE,Int.reduceLT,Int.reduceNe,Int.reduceEq,e1,e2,hw,hl,g1,g3k];refine an (aB w0 true 37 _ (fun h=>by cases h)) ?_;rintro _ _ ⟨_,rfl,rfl⟩;simp(maxDischargeDepth:=12) (maxSteps:=1000000) -implicitDefEqProofs only[go_sem,Nat.reduceAdd,Nat.reduceSub,Nat.reduceMul,Nat.reduceLeDiff,Nat.reduceEqDiff,Nat.reduceGT,Nat.reduceBEq,reduceCtorEq,↓reduceIte,Int.reduceToNat,Int.reduceLE,Int.reduceLT,Int.reduceNe,Int.reduceEq,e1,e2,hw,hl,g1,g3k];exact⟨_,_,.refl _,(Sub.refl _).aP,hh,i,es,c,f,v,hi,hf,hv,g1,rfl,rfl⟩
theorem PT(w0:W0){S:St}{w m own b d N:Nat}{o:bp}{full:Bool}{au dr:DV}{has:Int}{ids:List UInt8→Option Nat}{F:List UInt8→Option (List UInt8→Option (List UInt8))}(hw:lk S.box w=some (qS m own o full))(hl:lk S.box own=some (lK b au has dr))(hdr:has=o.aC→dr= .mp d∧BM S d N ids F)
 (q1:has≠o.aC→mu w0 S 35) (q2:has=o.aC→¬(o.bucket≠[]∧(o.bucket.length:Int)≤15)→mu w0 S 34) (q3:has=o.aC→(o.bucket≠[]∧(o.bucket.length:Int)≤15)→ids o.bucket≠none→mu w0 S 38) (q4:has=o.aC→(o.bucket≠[]∧(o.bucket.length:Int)≤15)→ids o.bucket=none→full=true→mu w0 S 37):
 aa Tryz.prog w0 73 [bz w] S (fun d' S'=>has=o.aC∧(o.bucket≠[]∧(o.bucket.length:Int)≤15)∧full=false∧ids o.bucket=none∧∃(l:FN S.acc) (es:List (Value×DV×Nat)) (c:Nat),lk S.acc d=some (.xo (.mp .str es c))∧d'=HJ∧S'=⟨S.box,(l.n,.xo (.mp .str [] 0))::up S.acc d (.xo (.mp .str (cX es c (kT o.bucket) (.mp l.n)) (eV es c (kT o.bucket))))⟩):=by
 refine mv [6] mx Tryz.func73 rfl rfl (by kernel_rfl) ?_;simp(maxDischargeDepth:=12) (maxSteps:=1000000) -implicitDefEqProofs only[Tryz.ntmps73,go_sem,Nat.reduceAdd,Nat.reduceSub,Nat.reduceMul,Nat.reduceLeDiff,Nat.reduceEqDiff,Nat.reduceGT,Nat.reduceBEq,reduceCtorEq,↓reduceIte,Int.reduceToNat,Int.reduceLE,Int.reduceLT,Int.reduceNe,Int.reduceEq];intro b2;have e1:=bB b2 hw;have e2:=bB b2 hl;have hH:∀ds,Has S ⟨(b2.n,ds)::S.box,S.acc⟩:=fun ds=>(Has.refl S).aP b2 ds rfl;refine an (sJ w0 (w:=w) (own:=own) (m:=m) (o:=o) (full:=full) (b:=b) (au:=au) (dr:=dr) (has:=has) (by simp(maxDischargeDepth:=12) (maxSteps:=1000000) -implicitDefEqProofs only[go_sem,Nat.reduceAdd,Nat.reduceSub,Nat.reduceMul,Nat.reduceLeDiff,Nat.reduceEqDiff,Nat.reduceGT,Nat.reduceBEq,reduceCtorEq,↓reduceIte,Int.reduceToNat,Int.reduceLE,Int.reduceLT,Int.reduceNe,Int.reduceEq,e1,hw]) (by simp(maxDischargeDepth:=12) (maxSteps:=1000000) -implicitDefEqProofs only[go_sem,Nat.reduceAdd,Nat.reduceSub,Nat.reduceMul,Nat.reduceLeDiff,Nat.reduceEqDiff,Nat.reduceGT,Nat.reduceBEq,reduceCtorEq,↓reduceIte,Int.reduceToNat,Int.reduceLE,Int.reduceLT,Int.reduceNe,Int.reduceEq,e2,hl])) ?_;rintro _ _ ⟨rfl,rfl⟩;by_cases hh:has=o.aC
 case neg=>
  rw[decide_eq_false hh];simp(maxDischargeDepth:=12) (maxSteps:=1000000) -implicitDefEqProofs only[go_sem,Nat.reduceAdd,Nat.reduceSub,Nat.reduceMul,Nat.reduceLeDiff,Nat.reduceEqDiff,Nat.reduceGT,Nat.reduceBEq,reduceCtorEq,↓reduceIte,Int.reduceToNat,Int.reduceLE,Int.reduceLT,Int.reduceNe,Int.reduceEq];refine an (aB w0 false 35 _ (fun _=>(q1 hh).to (hH _))) ?_;rintro _ _ ⟨q,_⟩;cases q
 obtain⟨hdr1,hB⟩:=hdr hh;cases hdr1;rw[decide_eq_true hh];simp(maxDischargeDepth:=12) (maxSteps:=1000000) -implicitDefEqProofs only[go_sem,Nat.reduceAdd,Nat.reduceSub,Nat.reduceMul,Nat.reduceLeDiff,Nat.reduceEqDiff,Nat.reduceGT,Nat.reduceBEq,reduceCtorEq,↓reduceIte,Int.reduceToNat,Int.reduceLE,Int.reduceLT,Int.reduceNe,Int.reduceEq];refine an (aB w0 true 35 _ (fun h=>by cases h)) ?_;rintro _ _ ⟨_,rfl,rfl⟩;simp(maxDischargeDepth:=12) (maxSteps:=1000000) -implicitDefEqProofs only[go_sem,Nat.reduceAdd,Nat.reduceSub,Nat.reduceMul,Nat.reduceLeDiff,Nat.reduceEqDiff,Nat.reduceGT,Nat.reduceBEq,reduceCtorEq,↓reduceIte,Int.reduceToNat,Int.reduceLE,Int.reduceLT,Int.reduceNe,Int.reduceEq,e1,e2,hw,hl];refine ao (KH w0 o.bucket 15 _) ?_;by_cases hk:o.bucket≠[]∧(o.bucket.length:Int)≤15
 case neg=>
  rw[decide_eq_false hk];simp(maxDischargeDepth:=12) (maxSteps:=1000000) -implicitDefEqProofs only[go_sem,Nat.reduceAdd,Nat.reduceSub,Nat.reduceMul,Nat.reduceLeDiff,Nat.reduceEqDiff,Nat.reduceGT,Nat.reduceBEq,reduceCtorEq,↓reduceIte,Int.reduceToNat,Int.reduceLE,Int.reduceLT,Int.reduceNe,Int.reduceEq];refine an (aB w0 false 34 _ (fun _=>(q2 hh hk).to (hH _))) ?_;rintro _ _ ⟨q,_⟩;cases q
 rw[decide_eq_true hk];simp(maxDischargeDepth:=12) (maxSteps:=1000000) -implicitDefEqProofs only[go_sem,Nat.reduceAdd,Nat.reduceSub,Nat.reduceMul,Nat.reduceLeDiff,Nat.reduceEqDiff,Nat.reduceGT,Nat.reduceBEq,reduceCtorEq,↓reduceIte,Int.reduceToNat,Int.reduceLE,Int.reduceLT,Int.reduceNe,Int.reduceEq];refine an (aB w0 true 34 _ (fun h=>by cases h)) ?_;rintro _ _ ⟨_,rfl,rfl⟩;obtain⟨et,ct,t1,t2,t3⟩:=hB.top;have t3n:=t3 o.bucket;unfold kT at t3n
 cases hi:ids o.bucket with
 |some i=>
  rw[hi]at t3n;simp(maxDischargeDepth:=12) (maxSteps:=1000000) -implicitDefEqProofs only[go_sem,Nat.reduceAdd,Nat.reduceSub,Nat.reduceMul,Nat.reduceLeDiff,Nat.reduceEqDiff,Nat.reduceGT,Nat.reduceBEq,reduceCtorEq,↓reduceIte,Int.reduceToNat,Int.reduceLE,Int.reduceLT,Int.reduceNe,Int.reduceEq,e1,e2,hw,hl,t1,t3n];refine an (aB w0 false 38 _ (fun _=>(q3 hh hk (by rw[hi];simp)).to (hH _))) ?_;rintro _ _ ⟨q,_⟩;cases q
 |none=>
 rw[hi]at t3n;simp(maxDischargeDepth:=12) (maxSteps:=1000000) -implicitDefEqProofs only[go_sem,Nat.reduceAdd,Nat.reduceSub,Nat.reduceMul,Nat.reduceLeDiff,Nat.reduceEqDiff,Nat.reduceGT,Nat.reduceBEq,reduceCtorEq,↓reduceIte,Int.reduceToNat,Int.reduceLE,Int.reduceLT,Int.reduceNe,Int.reduceEq,e1,e2,hw,hl,t1,t3n];refine an (aB w0 true 38 _ (fun h=>by cases h)) ?_;rintro _ _ ⟨_,rfl,rfl⟩
 cases full with
 |true=>
  simp(maxDischargeDepth:=12) (maxSteps:=1000000) -implicitDefEqProofs only[go_sem,Nat.reduceAdd,Nat.reduceSub,Nat.reduceMul,Nat.reduceLeDiff,Nat.reduceEqDiff,Nat.reduceGT,Nat.reduceBEq,reduceCtorEq,↓reduceIte,Int.reduceToNat,Int.reduceLE,Int.reduceLT,Int.reduceNe,Int.reduceEq,e1,e2,hw,hl];refine an (aB w0 false 37 _ (fun _=>(q4 hh hk hi rfl).to (hH _))) ?_;rintro _ _ ⟨q,_⟩;cases q
 |false=>
  simp(maxDischargeDepth:=12) (maxSteps:=1000000) -implicitDefEqProofs only[go_sem,Nat.reduceAdd,Nat.reduceSub,Nat.reduceMul,Nat.reduceLeDiff,Nat.reduceEqDiff,Nat.reduceGT,Nat.reduceBEq,reduceCtorEq,↓reduceIte,Int.reduceToNat,Int.reduceLE,Int.reduceLT,Int.reduceNe,Int.reduceEq,e1,e2,hw,hl];refine an (aB w0 true 37 _ (fun h=>by cases h)) ?_;rintro _ _ ⟨_,rfl,rfl⟩;simp(maxDischargeDepth:=12) (maxSteps:=1000000) -implicitDefEqProofs only[go_sem,Nat.reduceAdd,Nat.reduceSub,Nat.reduceMul,Nat.reduceLeDiff,Nat.reduceEqDiff,Nat.reduceGT,Nat.reduceBEq,reduceCtorEq,↓reduceIte,Int.reduceToNat,Int.reduceLE,Int.reduceLT,Int.reduceNe,Int.reduceEq,e1,e2,hw,hl];refine Y.iR [12] [13] [0,1,2,7,8,9,10,3,4,5,6,11,12,13] mx (by kernel_rfl) ?_;simp(maxDischargeDepth:=12) (maxSteps:=1000000) -implicitDefEqProofs only[go_sem,Nat.reduceAdd,Nat.reduceSub,Nat.reduceMul,Nat.reduceLeDiff,Nat.reduceEqDiff,Nat.reduceGT,Nat.reduceBEq,reduceCtorEq,↓reduceIte,Int.reduceToNat,Int.reduceLE,Int.reduceLT,Int.reduceNe,Int.reduceEq,e1,e2,hw,hl,t1];exact fun l=>⟨_,_,.refl _,(Sub.refl _).aP,hh,hk,l,et,ct,rfl,rfl,rfl⟩
theorem NU(w0:W0){S:St}{w m own b N:Nat}{o:bp}{full:Bool}{au dr:DV}{has:Int}{ids:List UInt8→Option Nat}{F:List UInt8→Option (List UInt8→Option (List UInt8))}(hw:lk S.box w=some (qS m own o full))(hl:lk S.box own=some (lK b au has dr))(hne:(own=w)=False)(hB:BM S b N ids F)(hN:N≤1048576)
 (q1:has≠0→mu w0 S 36):
 aa Tryz.prog w0 70 [bz w] S (fun d' S'=>has=0∧∃l ids',d'=HJ∧BM S' l N ids' F∧S'.box=up S.box own (lK b au o.aC (.mp l))∧(∀c x,lk S.acc c=some x→lk S'.acc c=some x)∧lk S.acc l=none∧∀n i,ids' n=some i→lk S.acc i=none):=by
 refine mv [2] mx Tryz.func70 rfl rfl (by kernel_rfl) ?_;simp(maxDischargeDepth:=12) (maxSteps:=1000000) -implicitDefEqProofs only[Tryz.ntmps70,go_sem,Nat.reduceAdd,Nat.reduceSub,Nat.reduceMul,Nat.reduceLeDiff,Nat.reduceEqDiff,Nat.reduceGT,Nat.reduceBEq,reduceCtorEq,↓reduceIte,Int.reduceToNat,Int.reduceLE,Int.reduceLT,Int.reduceNe,Int.reduceEq];intro b2;have e1:=bB b2 hw;have e2:=bB b2 hl;have hH:∀ds,Has S ⟨(b2.n,ds)::S.box,S.acc⟩:=fun ds=>(Has.refl S).aP b2 ds rfl;simp(maxDischargeDepth:=12) (maxSteps:=1000000) -implicitDefEqProofs only[go_sem,Nat.reduceAdd,Nat.reduceSub,Nat.reduceMul,Nat.reduceLeDiff,Nat.reduceEqDiff,Nat.reduceGT,Nat.reduceBEq,reduceCtorEq,↓reduceIte,Int.reduceToNat,Int.reduceLE,Int.reduceLT,Int.reduceNe,Int.reduceEq,e1,e2,hw,hl];by_cases h0:has=0
 case neg=>
  rw[decide_eq_false h0];refine an (aB w0 false 36 _ (fun _=>(q1 h0).to (hH _))) ?_;rintro _ _ ⟨q,_⟩;cases q
 rw[decide_eq_true h0];refine an (aB w0 true 36 _ (fun h=>by cases h)) ?_;rintro _ _ ⟨_,rfl,rfl⟩;simp(maxDischargeDepth:=12) (maxSteps:=1000000) -implicitDefEqProofs only[go_sem,Nat.reduceAdd,Nat.reduceSub,Nat.reduceMul,Nat.reduceLeDiff,Nat.reduceEqDiff,Nat.reduceGT,Nat.reduceBEq,reduceCtorEq,↓reduceIte,Int.reduceToNat,Int.reduceLE,Int.reduceLT,Int.reduceNe,Int.reduceEq,e1,e2,hw,hl];have hB':BM ⟨(b2.n,[dI 0,dI 0,.sl 0 true [],dI 0,dI 0,dI 0,dI 0,.sl 0 true []])::S.box,S.acc⟩ b N ids F:=hB.mono fun c x _ hc=>hc;refine Y.iR [20] [23,26] [0,1,2,4,5,6,8,9,10,11,13,14,15,3,7,12,16,17,18,19,20,21,22,23,24,25,26] mx (by kernel_rfl) ?_;simp(maxDischargeDepth:=12) (maxSteps:=1000000) -implicitDefEqProofs only[go_sem,Nat.reduceAdd,Nat.reduceSub,Nat.reduceMul,Nat.reduceLeDiff,Nat.reduceEqDiff,Nat.reduceGT,Nat.reduceBEq,reduceCtorEq,↓reduceIte,Int.reduceToNat,Int.reduceLE,Int.reduceLT,Int.reduceNe,Int.reduceEq,e1,e2,hw,hl];refine an (De w0 hB' hN) ?_;rintro _ T ⟨l,ids',rfl,hB2,hbx,hac,hl0,hid⟩;obtain⟨Tb,Ta⟩:=T;simp only at hbx;subst hbx;simp(maxDischargeDepth:=12) (maxSteps:=1000000) -implicitDefEqProofs only[go_sem,Nat.reduceAdd,Nat.reduceSub,Nat.reduceMul,Nat.reduceLeDiff,Nat.reduceEqDiff,Nat.reduceGT,Nat.reduceBEq,reduceCtorEq,↓reduceIte,Int.reduceToNat,Int.reduceLE,Int.reduceLT,Int.reduceNe,Int.reduceEq,e1,e2,hw,hl,hne];exact⟨⟨fun _ _ h=>h,hac⟩,_,⟨_,Ta⟩,.refl _,(Sub.refl _).aP,h0,l,ids',rfl,hB2.mono fun c x _ hc=>hc,rfl,hac,hl0,hid⟩
abbrev ir:=List UInt8→Option (List UInt8→Option (List UInt8))
theorem IM.le{S:St}{l N M:Nat}{f:List UInt8→Option (List UInt8)}(h:IM S l N f)(k:N≤M):IM S l M f:=by
 obtain⟨es,c,h1,h2,h3⟩:=h;exact⟨es,c,h1,by omega,h3⟩
theorem GN{S:St}{l N:Nat}{f:List UInt8→Option (List UInt8)}(h:IM S l N f){es:List (Value×DV×Nat)}{c:Nat}(g:lk S.acc l=some (.xo (.mp .str es c))):es.length≤N∧∀k,aJ es (kT k)=(f k).map eY:=by
 obtain⟨es',c',h1,h2,h3⟩:=h;rw[g]at h1;cases h1;exact⟨h2,h3⟩
theorem Dl{S:St}{l N:Nat}{ids:List UInt8→Option Nat}{F:ir}(h:BM S l N ids F){es:List (Value×DV×Nat)}{c:Nat}(g:lk S.acc l=some (.xo (.mp .str es c))):es.length≤N∧∀k,aJ es (kT k)=(ids k).map DV.mp:=by
 obtain⟨es',c',h1,h2,h3⟩:=h.top;rw[g]at h1;cases h1;exact⟨h2,h3⟩
def fM(F:ir)(n:List UInt8)(f:List UInt8→Option (List UInt8)):ir:=fun m=>if m=n then some f else F m
theorem D2{S:St}{d N M:Nat}{ids:List UInt8→Option Nat}{F:ir}(h:BM S d N ids F)(hNM:N≤M){n:List UInt8}{i:Nat}(hi:ids n=some i){o:Ob}{f:List UInt8→Option (List UInt8)}(hn:IM ⟨S.box,up S.acc i o⟩ i M f):BM ⟨S.box,up S.acc i o⟩ d M ids (fM F n f) where
 top:=by
  obtain⟨es,c,h1,h2,h3⟩:=h.top;exact⟨es,c,by show lk (up S.acc i o) d=_;rw[ab (h.ne n i hi)];exact h1,by omega,h3⟩
 some_:=fun m=>by
  unfold fM;by_cases e:m=n
  ·rw[if_pos e,e,hi];simp
  ·rw[if_neg e];exact h.some_ m
 low:=fun m j g q1 q2=>by
  unfold fM at q2;by_cases e:m=n
  ·rw[if_pos e]at q2;cases q2;rw[e,hi]at q1;cases q1;exact hn
  ·rw[if_neg e]at q2;refine((h.low m j g q1 q2).mono fun x hx=>?_).le hNM;show lk (up S.acc i o) j=_;rw[ab (fun q=>e (h.inj m n i (by rw[q1,q]) hi))];exact hx
 inj:=h.inj
 ne:=h.ne
theorem tS{S:St}{i:Nat}{x o:Ob}(g:lk S.acc i=some x):lk (up S.acc i o) i=some o:=by rw[aE,g];rfl
theorem FH{S:St}{d N:Nat}{ids:List UInt8→Option Nat}{F:ir}(h:BM S d N ids F){n:List UInt8}{i:Nat}(hi:ids n=some i){f:List UInt8→Option (List UInt8)}(hf:F n=some f){es:List (Value×DV×Nat)}{c:Nat}(g:lk S.acc i=some (.xo (.mp .str es c)))(k v:List UInt8):
 BM ⟨S.box,up S.acc i (.xo (.mp .str (cX es c (kT k) (eY v)) (eV es c (kT k))))⟩ d (N+1) ids (fM F n fun j=>if j=k then some v else f j):=by
 obtain⟨g1,g2⟩:=GN (h.low n i f hi hf) g;refine D2 h (by omega) hi ⟨_,_,tS g,?_,fun j=>?_⟩
 ·have:=pk es c (kT k) (eY v);omega
 ·dsimp only;by_cases e:j=k
  ·rw[if_pos e,e,aY];rfl
  ·rw[if_neg e,bX _ _ (fun q=>e (ep q)),g2]
theorem ur(es:List (Value×DV×Nat))(k:Value):(ig es k).length≤es.length:=by
 unfold ig;exact List.length_filter_le _ _
theorem CV{S:St}{d N:Nat}{ids:List UInt8→Option Nat}{F:ir}(h:BM S d N ids F){n:List UInt8}{i:Nat}(hi:ids n=some i){f:List UInt8→Option (List UInt8)}(hf:F n=some f){es:List (Value×DV×Nat)}{c:Nat}(g:lk S.acc i=some (.xo (.mp .str es c)))(k:List UInt8):
 BM ⟨S.box,up S.acc i (.xo (.mp .str (ig es (kT k)) c))⟩ d N ids (fM F n fun j=>if j=k then none else f j):=by
 obtain⟨g1,g2⟩:=GN (h.low n i f hi hf) g;refine D2 h (Xa _) hi ⟨_,_,tS g,?_,fun j=>?_⟩
 ·have:=ur es (kT k);omega
 ·dsimp only;by_cases e:j=k
  ·rw[if_pos e,e,dh];rfl
  ·rw[if_neg e,dw _ (fun q=>e (ep q)),g2]
theorem I1{S:St}{d N:Nat}{ids:List UInt8→Option Nat}{F:ir}(h:BM S d N ids F){es:List (Value×DV×Nat)}{c:Nat}(g:lk S.acc d=some (.xo (.mp .str es c)))(n:List UInt8):
 BM ⟨S.box,up S.acc d (.xo (.mp .str (ig es (kT n)) c))⟩ d N (fun m=>if m=n then none else ids m) (fun m=>if m=n then none else F m):=by
 obtain⟨g1,g2⟩:=Dl h g;refine⟨⟨_,_,tS g,?_,fun m=>?_⟩,fun m=>?_,fun m j f q1 q2=>?_,fun m m' j q1 q2=>?_,fun m j q1=>?_⟩
 ·have:=ur es (kT n);omega
 ·try dsimp only at*
  by_cases e:m=n
  ·rw[if_pos e,e,dh];rfl
  ·rw[if_neg e,dw _ (fun q=>e (ep q)),g2]
 ·try dsimp only at*
  by_cases e:m=n
  ·rw[if_pos e,if_pos e];simp
  ·rw[if_neg e,if_neg e];exact h.some_ m
 ·try dsimp only at*
  by_cases e:m=n
  ·rw[if_pos e]at q1;cases q1
  ·rw[if_neg e]at q1 q2;refine(h.low m j f q1 q2).mono fun x hx=>?_;show lk (up S.acc d _) j=_;rw[ab (fun q=>h.ne m j q1 q.symm)];exact hx
 ·try dsimp only at*
  by_cases e:m=n
  ·rw[if_pos e]at q1;cases q1
  ·by_cases e':m'=n
   ·rw[if_pos e']at q2;cases q2
   ·rw[if_neg e]at q1;rw[if_neg e']at q2;exact h.inj m m' j q1 q2
 ·try dsimp only at*
  by_cases e:m=n
  ·rw[if_pos e]at q1;cases q1
  ·rw[if_neg e]at q1;exact h.ne m j q1
theorem Jp{S:St}{d N:Nat}{ids:List UInt8→Option Nat}{F:ir}(h:BM S d N ids F){es:List (Value×DV×Nat)}{c:Nat}(g:lk S.acc d=some (.xo (.mp .str es c)))(n:List UInt8){l:Nat}(hl:lk S.acc l=none):
 BM ⟨S.box,(l,.xo (.mp .str [] 0))::up S.acc d (.xo (.mp .str (cX es c (kT n) (.mp l)) (eV es c (kT n))))⟩ d (N+1) (fun m=>if m=n then some l else ids m) (fM F n fun _=>none):=by
 obtain⟨g1,g2⟩:=Dl h g;have hld:¬l=d:=fun e=>by rw[e,g]at hl;cases hl
 have old:∀m j,ids m=some j→lk S.acc j≠none:=fun m j q=>by
  obtain⟨f,hf⟩:=XD.1 (fun r=>by rw[(h.some_ m).2 r]at q;cases q);exact(h.low m j f q hf).lk
 refine⟨⟨cX es c (kT n) (.mp l),eV es c (kT n),?_,?_,fun m=>?_⟩,fun m=>?_,fun m j f q1 q2=>?_,fun m m' j q1 q2=>?_,fun m j q1=>?_⟩
 ·show lk (_::_) d=_;simp only[lk];rw[if_neg hld];exact tS g
 ·have:=pk es c (kT n) (.mp l);omega
 ·try dsimp only at*
  by_cases e:m=n
  ·rw[if_pos e,e,aY];rfl
  ·rw[if_neg e,bX _ _ (fun q=>e (ep q)),g2]
 ·unfold fM
  try dsimp only
  by_cases e:m=n
  ·rw[if_pos e,if_pos e];simp
  ·rw[if_neg e,if_neg e];exact h.some_ m
 ·unfold fM at q2
  try dsimp only at q1 q2
  by_cases e:m=n
  ·rw[if_pos e]at q1 q2;cases q1;cases q2;exact⟨[],0,by simp[lk],Xl _,fun k=>by simp[aJ]⟩
  ·rw[if_neg e]at q1 q2;refine((h.low m j f q1 q2).mono fun x hx=>?_).le (by omega);show lk (_::_) j=_;simp only[lk];rw[if_neg (fun q=>old m j q1 (by rw[←q];exact hl)),ab (fun q=>h.ne m j q1 q.symm)];exact hx
 ·try dsimp only at*
  by_cases e:m=n
  ·rw[if_pos e]at q1;cases q1;by_cases e':m'=n
   ·rw[e,e']
   ·rw[if_neg e']at q2;exact absurd hl (old m' _ q2)
  ·rw[if_neg e]at q1;by_cases e':m'=n
   ·rw[if_pos e']at q2;cases q2;exact absurd hl (old m _ q1)
   ·rw[if_neg e']at q2;exact h.inj m m' j q1 q2
 ·try dsimp only at*
  by_cases e:m=n
  ·rw[if_pos e]at q1;cases q1;exact hld
  ·rw[if_neg e]at q1;exact h.ne m j q1
theorem Md(w0:W0){S:St}{w m own:Nat}{o:bp}{full:Bool}{c:Cf}{ls:List Nat}{t sn:Nat}(hw:lk S.box w=some (qS m own o full))(hm:lk S.box m=some (Dm c ls t sn))(hu:di c.up)(hq:cR c.up o.label o.level=false→mu w0 S 31):
 aa Tryz.prog w0 81 [bz w] S (fun d S'=>cR c.up o.label o.level=true∧d=HJ∧S'=S):=by
 refine mv [] mx Tryz.func81 rfl rfl (by kernel_rfl) ?_;simp(maxDischargeDepth:=12) (maxSteps:=1000000) -implicitDefEqProofs only[Tryz.ntmps81,go_sem,Nat.reduceAdd,Nat.reduceSub,Nat.reduceMul,Nat.reduceLeDiff,Nat.reduceEqDiff,Nat.reduceGT,Nat.reduceBEq,reduceCtorEq,↓reduceIte,Int.reduceToNat,Int.reduceLE,Int.reduceLT,Int.reduceNe,Int.reduceEq];intro b2;have e1:=bB b2 hw;have e2:=bB b2 hm;have hH:∀ds,Has S ⟨(b2.n,ds)::S.box,S.acc⟩:=fun ds=>(Has.refl S).aP b2 ds rfl;simp(maxDischargeDepth:=12) (maxSteps:=1000000) -implicitDefEqProofs only[go_sem,Nat.reduceAdd,Nat.reduceSub,Nat.reduceMul,Nat.reduceLeDiff,Nat.reduceEqDiff,Nat.reduceGT,Nat.reduceBEq,reduceCtorEq,↓reduceIte,Int.reduceToNat,Int.reduceLE,Int.reduceLT,Int.reduceNe,Int.reduceEq,e1,hw];refine ao (nw w0 (w:=w) (m:=m) (own:=own) (o:=o) (full:=full) (c:=c) (ls:=ls) (t:=t) (sn:=sn) (by simp(maxDischargeDepth:=12) (maxSteps:=1000000) -implicitDefEqProofs only[go_sem,Nat.reduceAdd,Nat.reduceSub,Nat.reduceMul,Nat.reduceLeDiff,Nat.reduceEqDiff,Nat.reduceGT,Nat.reduceBEq,reduceCtorEq,↓reduceIte,Int.reduceToNat,Int.reduceLE,Int.reduceLT,Int.reduceNe,Int.reduceEq,e1,hw]) (by simp(maxDischargeDepth:=12) (maxSteps:=1000000) -implicitDefEqProofs only[go_sem,Nat.reduceAdd,Nat.reduceSub,Nat.reduceMul,Nat.reduceLeDiff,Nat.reduceEqDiff,Nat.reduceGT,Nat.reduceBEq,reduceCtorEq,↓reduceIte,Int.reduceToNat,Int.reduceLE,Int.reduceLT,Int.reduceNe,Int.reduceEq,e2,hm]) hu o.label) ?_
 cases hle:cR c.up o.label o.level with
 |true=>
  simp(maxDischargeDepth:=12) (maxSteps:=1000000) -implicitDefEqProofs only[go_sem,Nat.reduceAdd,Nat.reduceSub,Nat.reduceMul,Nat.reduceLeDiff,Nat.reduceEqDiff,Nat.reduceGT,Nat.reduceBEq,reduceCtorEq,↓reduceIte,Int.reduceToNat,Int.reduceLE,Int.reduceLT,Int.reduceNe,Int.reduceEq];refine an (aB w0 true 31 _ (fun h=>by cases h)) ?_;rintro _ _ ⟨_,rfl,rfl⟩;simp(maxDischargeDepth:=12) (maxSteps:=1000000) -implicitDefEqProofs only[go_sem,Nat.reduceAdd,Nat.reduceSub,Nat.reduceMul,Nat.reduceLeDiff,Nat.reduceEqDiff,Nat.reduceGT,Nat.reduceBEq,reduceCtorEq,↓reduceIte,Int.reduceToNat,Int.reduceLE,Int.reduceLT,Int.reduceNe,Int.reduceEq,e1,hw];exact⟨_,_,.refl _,(Sub.refl _).aP,rfl,rfl⟩
 |false=>
  simp(maxDischargeDepth:=12) (maxSteps:=1000000) -implicitDefEqProofs only[go_sem,Nat.reduceAdd,Nat.reduceSub,Nat.reduceMul,Nat.reduceLeDiff,Nat.reduceEqDiff,Nat.reduceGT,Nat.reduceBEq,reduceCtorEq,↓reduceIte,Int.reduceToNat,Int.reduceLE,Int.reduceLT,Int.reduceNe,Int.reduceEq];refine an (aB w0 false 31 _ (fun _=>(hq hle).to (hH _))) ?_;rintro _ _ ⟨q,_⟩;cases q
theorem Mp(w0:W0){S:St}{w m own b:Nat}{o:bp}{full:Bool}{au dr:DV}{has:Int}{c:Cf}{ls:List Nat}{sn:Nat}{θ:eG}{r:List RH}(hw:lk S.box w=some (qS m own o full))(hl:lk S.box own=some (lK b au has dr))(hm:lk S.box m=some (Dm c ls θ.t sn))(hT:TI S θ r)
 (hno:(own=w)=False) (hnm:(own=m)=False) (hob:own∉θ.bx):
 aa Tryz.prog w0 69 [bz w] S (fun d S'=>d=HJ∧TI S' θ (nO r o.level o.aC).1∧vN ⟨up S.box own (lK b au (if has=o.aC then 0 else has) dr),S.acc⟩ S' θ θ):=by
 refine mv [3] mx Tryz.func69 rfl rfl (by kernel_rfl) ?_;simp(maxDischargeDepth:=12) (maxSteps:=1000000) -implicitDefEqProofs only[Tryz.ntmps69,go_sem,Nat.reduceAdd,Nat.reduceSub,Nat.reduceMul,Nat.reduceLeDiff,Nat.reduceEqDiff,Nat.reduceGT,Nat.reduceBEq,reduceCtorEq,↓reduceIte,Int.reduceToNat,Int.reduceLE,Int.reduceLT,Int.reduceNe,Int.reduceEq];intro b2;have e1:=bB b2 hw;have e2:=bB b2 hl;have e3:=bB b2 hm;refine an (sJ w0 (w:=w) (own:=own) (m:=m) (o:=o) (full:=full) (b:=b) (au:=au) (dr:=dr) (has:=has) (by simp(maxDischargeDepth:=12) (maxSteps:=1000000) -implicitDefEqProofs only[go_sem,Nat.reduceAdd,Nat.reduceSub,Nat.reduceMul,Nat.reduceLeDiff,Nat.reduceEqDiff,Nat.reduceGT,Nat.reduceBEq,reduceCtorEq,↓reduceIte,Int.reduceToNat,Int.reduceLE,Int.reduceLT,Int.reduceNe,Int.reduceEq,e1,hw]) (by simp(maxDischargeDepth:=12) (maxSteps:=1000000) -implicitDefEqProofs only[go_sem,Nat.reduceAdd,Nat.reduceSub,Nat.reduceMul,Nat.reduceLeDiff,Nat.reduceEqDiff,Nat.reduceGT,Nat.reduceBEq,reduceCtorEq,↓reduceIte,Int.reduceToNat,Int.reduceLE,Int.reduceLT,Int.reduceNe,Int.reduceEq,e2,hl])) ?_;rintro _ _ ⟨rfl,rfl⟩;by_cases hh:has=o.aC
 ·rw[decide_eq_true hh,if_pos hh];simp(maxDischargeDepth:=12) (maxSteps:=1000000) -implicitDefEqProofs only[go_sem,Nat.reduceAdd,Nat.reduceSub,Nat.reduceMul,Nat.reduceLeDiff,Nat.reduceEqDiff,Nat.reduceGT,Nat.reduceBEq,reduceCtorEq,↓reduceIte,Int.reduceToNat,Int.reduceLE,Int.reduceLT,Int.reduceNe,Int.reduceEq,e1,e2,e3,hw,hl,hm,hno,hnm];refine Y.iR [8] [9] [0,1,2,7,3,4,5,6,8,9] mx (by kernel_rfl) ?_;simp(maxDischargeDepth:=12) (maxSteps:=1000000) -implicitDefEqProofs only[go_sem,Nat.reduceAdd,Nat.reduceSub,Nat.reduceMul,Nat.reduceLeDiff,Nat.reduceEqDiff,Nat.reduceGT,Nat.reduceBEq,reduceCtorEq,↓reduceIte,Int.reduceToNat,Int.reduceLE,Int.reduceLT,Int.reduceNe,Int.reduceEq,e1,e2,e3,hw,hl,hm,hno,hnm];refine an (dR w0 (w:=w) (m:=m) (own:=own) (o:=o) (full:=full) (by simp(maxDischargeDepth:=12) (maxSteps:=1000000) -implicitDefEqProofs only[go_sem,Nat.reduceAdd,Nat.reduceSub,Nat.reduceMul,Nat.reduceLeDiff,Nat.reduceEqDiff,Nat.reduceGT,Nat.reduceBEq,reduceCtorEq,↓reduceIte,Int.reduceToNat,Int.reduceLE,Int.reduceLT,Int.reduceNe,Int.reduceEq,e1,hno,hw])) ?_;rintro _ _ ⟨rfl,rfl⟩;simp(maxDischargeDepth:=12) (maxSteps:=1000000) -implicitDefEqProofs only[go_sem,Nat.reduceAdd,Nat.reduceSub,Nat.reduceMul,Nat.reduceLeDiff,Nat.reduceEqDiff,Nat.reduceGT,Nat.reduceBEq,reduceCtorEq,↓reduceIte,Int.reduceToNat,Int.reduceLE,Int.reduceLT,Int.reduceNe,Int.reduceEq,e1,e2,e3,hw,hl,hm,hno,hnm];have hb2:lk S.box b2.n=none:=ak b2;have hbt:b2.n∉θ.bx:=fun hc=>hT.lL _ hc hb2
  have hTx:TI ⟨(b2.n,[dI 0,dI 0,.sl 0 true [],dI 0,dI 0,dI 0,dI 0,.sl 0 true []])::up S.box own [.mp b,au,dI 0,dr],S.acc⟩ θ r:=hT.mono (fun j x hj hx=>by
   show lk (_::_) j=_;simp only[lk];rw[if_neg (show¬b2.n=j from fun q=>hbt (by rw[q];exact hj)),ab (show¬own=j from fun q=>hob (by rw[q];exact hj))];exact hx) fun _ _ _ h=>h
  refine an (E4 w0 hTx o.level o.aC) ?_;rintro _ T ⟨rfl,hT',hF⟩;have g2:lk T.box b2.n=some [dI 0,dI 0,.sl 0 true [],dI 0,dI 0,dI 0,dI 0,.sl 0 true []]:=hF.box _ _ hbt (by simp[lk]);simp(maxDischargeDepth:=12) (maxSteps:=1000000) -implicitDefEqProofs only[go_sem,Nat.reduceAdd,Nat.reduceSub,Nat.reduceMul,Nat.reduceLeDiff,Nat.reduceEqDiff,Nat.reduceGT,Nat.reduceBEq,reduceCtorEq,↓reduceIte,Int.reduceToNat,Int.reduceLE,Int.reduceLT,Int.reduceNe,Int.reduceEq,g2]
  have hne2:∀j x,lk (up S.box own [.mp b,au,dI 0,dr]) j=some x→¬b2.n=j:=fun j x hx q=>by
   rw[←q,ab (fun r=>by rw[←e2];exact r.symm),hb2]at hx;cases hx
  refine⟨_,_,.refl _,.refl _,rfl,hT'.mono (fun j x hj hx=>?_) (fun _ _ _ h=>h),⟨rfl,fun j x hj hx=>?_,fun j x hj hx=>hF.acc j x hj hx,fun j hj=> .inl hj,fun j hj=> .inl hj⟩⟩
  ·show lk (up T.box b2.n _) j=_;rw[ab (show¬b2.n=j from fun q=>hbt (by rw[q];exact hj))];exact hx
  ·show lk (up T.box b2.n _) j=_;rw[ab (hne2 j x hx)];refine hF.box j x hj ?_;show lk (_::_) j=_;simp only[lk];rw[if_neg (hne2 j x hx)];exact hx
 ·rw[decide_eq_false hh,if_neg hh,oH hl];simp(maxDischargeDepth:=12) (maxSteps:=1000000) -implicitDefEqProofs only[go_sem,Nat.reduceAdd,Nat.reduceSub,Nat.reduceMul,Nat.reduceLeDiff,Nat.reduceEqDiff,Nat.reduceGT,Nat.reduceBEq,reduceCtorEq,↓reduceIte,Int.reduceToNat,Int.reduceLE,Int.reduceLT,Int.reduceNe,Int.reduceEq,e1,e2,e3,hw,hl,hm,hno,hnm];refine Y.iR [8] [9] [0,1,2,7,3,4,5,6,8,9] mx (by kernel_rfl) ?_;simp(maxDischargeDepth:=12) (maxSteps:=1000000) -implicitDefEqProofs only[go_sem,Nat.reduceAdd,Nat.reduceSub,Nat.reduceMul,Nat.reduceLeDiff,Nat.reduceEqDiff,Nat.reduceGT,Nat.reduceBEq,reduceCtorEq,↓reduceIte,Int.reduceToNat,Int.reduceLE,Int.reduceLT,Int.reduceNe,Int.reduceEq,e1,e2,e3,hw,hl,hm,hno,hnm];refine an (dR w0 (w:=w) (m:=m) (own:=own) (o:=o) (full:=full) (by simp(maxDischargeDepth:=12) (maxSteps:=1000000) -implicitDefEqProofs only[go_sem,Nat.reduceAdd,Nat.reduceSub,Nat.reduceMul,Nat.reduceLeDiff,Nat.reduceEqDiff,Nat.reduceGT,Nat.reduceBEq,reduceCtorEq,↓reduceIte,Int.reduceToNat,Int.reduceLE,Int.reduceLT,Int.reduceNe,Int.reduceEq,e1,hw])) ?_;rintro _ _ ⟨rfl,rfl⟩;simp(maxDischargeDepth:=12) (maxSteps:=1000000) -implicitDefEqProofs only[go_sem,Nat.reduceAdd,Nat.reduceSub,Nat.reduceMul,Nat.reduceLeDiff,Nat.reduceEqDiff,Nat.reduceGT,Nat.reduceBEq,reduceCtorEq,↓reduceIte,Int.reduceToNat,Int.reduceLE,Int.reduceLT,Int.reduceNe,Int.reduceEq,e1,e2,e3,hw,hl,hm,hno,hnm];have hb2:lk S.box b2.n=none:=ak b2;have hbt:b2.n∉θ.bx:=fun hc=>hT.lL _ hc hb2
  have hTx:TI ⟨(b2.n,[dI 0,dI 0,.sl 0 true [],dI 0,dI 0,dI 0,dI 0,.sl 0 true []])::S.box,S.acc⟩ θ r:=hT.mono (fun j x hj hx=>by
   show lk (_::_) j=_;simp only[lk];rw[if_neg (show¬b2.n=j from fun q=>hbt (by rw[q];exact hj))];exact hx) fun _ _ _ h=>h
  refine an (E4 w0 hTx o.level o.aC) ?_;rintro _ T ⟨rfl,hT',hF⟩;have g2:lk T.box b2.n=some [dI 0,dI 0,.sl 0 true [],dI 0,dI 0,dI 0,dI 0,.sl 0 true []]:=hF.box _ _ hbt (by simp[lk]);simp(maxDischargeDepth:=12) (maxSteps:=1000000) -implicitDefEqProofs only[go_sem,Nat.reduceAdd,Nat.reduceSub,Nat.reduceMul,Nat.reduceLeDiff,Nat.reduceEqDiff,Nat.reduceGT,Nat.reduceBEq,reduceCtorEq,↓reduceIte,Int.reduceToNat,Int.reduceLE,Int.reduceLT,Int.reduceNe,Int.reduceEq,g2]
  have hne2:∀j x,lk (S.box) j=some x→¬b2.n=j:=fun j x hx q=>by
   rw[←q,hb2]at hx;cases hx
  refine⟨_,_,.refl _,.refl _,rfl,hT'.mono (fun j x hj hx=>?_) (fun _ _ _ h=>h),⟨rfl,fun j x hj hx=>?_,fun j x hj hx=>hF.acc j x hj hx,fun j hj=> .inl hj,fun j hj=> .inl hj⟩⟩
  ·show lk (up T.box b2.n _) j=_;rw[ab (show¬b2.n=j from fun q=>hbt (by rw[q];exact hj))];exact hx
  ·show lk (up T.box b2.n _) j=_;rw[ab (hne2 j x hx)];refine hF.box j x hj ?_;show lk (_::_) j=_;simp only[lk];rw[if_neg (hne2 j x hx)];exact hx
end Go.Proofs.YtoepfmhnapedoaaGreatDoor
