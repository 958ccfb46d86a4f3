/-
  Part 8 of the proof that the last text ends: from 'Joins, meets, and the check of rows: the program' to 'A text's lines, one by one: what both compute, and where a line is wrong'. By an AI agent.
-/
import Derived.Test.YtiihljlagmmljaaGreatDoorMC7
import Derived.Shelf.Unicode.ValidAny
import Derived.Shelf.Strings.SlTrimAscii
import Derived.Shelf.Strings.Builder1
import Derived.Shelf.Strings.Builder2
import Derived.Shelf.Strings.OnBuilder
import Derived.Shelf.Strings.Trim
import Derived.Shelf.Small.Utf8
import Derived.Shelf.Small.Bits
import Derived.Shelf.Small.Strs
import Derived.Shelf.Small.Wraps
import Derived.Shelf.Strings.BuilderF
import Derived.Shelf.Strings.BuilderK
import Derived.Shelf.Strconv.Atoi
import Derived.Shelf.Strconv.Itoa0
import Derived.Shelf.Strconv.Itoa1
import Derived.Shelf.LaysM
import Derived.Shelf.Strconv.Itoa2
import Derived.Shelf.Strconv.Itoa3
import Derived.Shelf.Strconv.AtoiErrFast
import Derived.Shelf.Strconv.ParseIntEmpty
import Derived.Shelf.Strconv.AtoiFail
import Derived.Shelf.Strconv.Clone
import Derived.Shelf.Strconv.SyntaxError
import Derived.Shelf.LaysC
import Derived.Shelf.Strconv.ToError
import Derived.Shelf.Strconv.Lower
import Derived.Shelf.Strconv.ParseUint10
import Derived.Shelf.Strconv.ParseUint10Empty
import Derived.Shelf.Strconv.ParseUint10Any
import Derived.Shelf.Strconv.ParseInt10
import Derived.Shelf.Strconv.AtoiLong
import Derived.Shelf.Strconv.AtoiInnerAll
import Derived.Shelf.Strconv.RangeError
import Derived.Shelf.Strconv.ToErrorRange
import Derived.Shelf.Strconv.AtoiAll
import Derived.Shelf.Strings.Search1
import Derived.Shelf.Strings.Search2
import Derived.Shelf.Strings.Search3
import Derived.Shelf.Strings.Count
import Derived.Shelf.Strings.Shaped
import Derived.Shelf.Strings.Split
import Derived.Shelf.Unicode.Decode
import Derived.Shelf.Strings.Runes
import Derived.Shelf.Strings.RuneCount
import Derived.Shelf.Strings.AsciiSet
import Derived.Shelf.Strings.Explode
import Derived.Shelf.Unicode.DecodeSlow
import Derived.Shelf.Unicode.DecodeAny
import Derived.Shelf.Slices.Turned
import Derived.Ground.Names2Prog
import Derived.Shelf.Slices.SearchI
import Derived.Test.YtiihljlagmmljaaGreatDoorProg
import Derived.Lib.MapLaws
import Derived.Lib.ValidLaws
import Derived.Lib.RuneCountTail
import Derived.Lib.SplitLaws
set_option linter.unusedVariables false
set_option linter.unusedSimpArgs false
set_option maxRecDepth 100000
set_option maxHeartbeats 16000000
namespace Go.Proofs.YtiihljlagmmljaaGreatDoor
open Aml Go Lat
theorem Mz(w0:W0)(up:List Nat)(hu:dD up)(bx c d:Nat)(S:St)(hb:lk S.box bx=some [eH up]):ab Tryz.prog w0 106 [dI (c:Int),dI (d:Int),.v (.pointer (some ⟨bx,0,none⟩))] S (fun e S'=>e=dB (cY up c d)∧S'=S):=by
 refine cR [] mx Tryz.func106 rfl rfl (by kernel_rfl) ?_;simp only[Tryz.ntmps106,Ru,Sf,Nat.reduceAdd,Nat.reduceSub,List.reduceReplicate,RQ,Sb];simp(maxDischargeDepth:=12) (maxSteps:=1000000) -implicitDefEqProofs only[Tryz.ntmps106,go_sem,Nat.reduceAdd,Nat.reduceSub,Nat.reduceMul,Nat.reduceLeDiff,Nat.reduceEqDiff,Nat.reduceGT,Nat.reduceBEq,reduceCtorEq,↓reduceIte,Int.reduceToNat,Int.reduceLE,Int.reduceLT,Int.reduceNe,Int.reduceEq,hb];refine aq (vi _ up hu c d _) ?_;simp(maxDischargeDepth:=12) (maxSteps:=1000000) -implicitDefEqProofs only[go_sem,Nat.reduceAdd,Nat.reduceSub,Nat.reduceMul,Nat.reduceLeDiff,Nat.reduceEqDiff,Nat.reduceGT,Nat.reduceBEq,reduceCtorEq,↓reduceIte,Int.reduceToNat,Int.reduceLE,Int.reduceLT,Int.reduceNe,Int.reduceEq,dH]
theorem M3(w0:W0)(up:List Nat)(hu:dD up)(bx c d:Nat)(S:St)(hb:lk S.box bx=some [eH up]):ab Tryz.prog w0 108 [dI (c:Int),dI (d:Int),.v (.pointer (some ⟨bx,0,none⟩))] S (fun e S'=>e=dB (cY up d c)∧S'=S):=by
 refine cR [] mx Tryz.func108 rfl rfl (by kernel_rfl) ?_;simp only[Tryz.ntmps108,Ru,Sf,Nat.reduceAdd,Nat.reduceSub,List.reduceReplicate,RQ,Sb];simp(maxDischargeDepth:=12) (maxSteps:=1000000) -implicitDefEqProofs only[Tryz.ntmps108,go_sem,Nat.reduceAdd,Nat.reduceSub,Nat.reduceMul,Nat.reduceLeDiff,Nat.reduceEqDiff,Nat.reduceGT,Nat.reduceBEq,reduceCtorEq,↓reduceIte,Int.reduceToNat,Int.reduceLE,Int.reduceLT,Int.reduceNe,Int.reduceEq,hb];refine aq (vi _ up hu d c _) ?_;simp(maxDischargeDepth:=12) (maxSteps:=1000000) -implicitDefEqProofs only[go_sem,Nat.reduceAdd,Nat.reduceSub,Nat.reduceMul,Nat.reduceLeDiff,Nat.reduceEqDiff,Nat.reduceGT,Nat.reduceBEq,reduceCtorEq,↓reduceIte,Int.reduceToNat,Int.reduceLE,Int.reduceLT,Int.reduceNe,Int.reduceEq,dH]
def xS(le:Nat→Nat→Bool)(x:Nat)(r:Int):Prop:=(r= -1∧∀a,a∈ay x→vH le x a=false)∨∃pre k rest,r=((k:Nat):Int)∧pre++k::rest=ay x∧(∀a,a∈pre→vH le x a=false)∧vH le x k=true
theorem ru{le:Nat→Nat→Bool}{n x a b:Nat}{r:Int}(hx:∀c,(c<64∧x.testBit c=true)↔(c<n∧le a c=true∧le b c=true))(h:xS le x r):r<0↔¬jM le n a b:=by
 have hm:∀c,c∈ay x↔(c<n∧le a c=true∧le b c=true):=fun c=>gE.trans (hx c)
 have key:∀c,c∈ay x→(vH le x c=true↔EL le n a b c):=fun c hc=>by
  have h1:=(hm c).1 hc;unfold vH;rw[RD]
  exact⟨fun h=>⟨h1.1,h1.2.1,h1.2.2,fun d hd h3 h4=>h d ((hm d).2 ⟨hd,h3,h4⟩)⟩,fun h d hd=>by
   have h2:=(hm d).1 hd;exact h.2.2.2 d h2.1 h2.2.1 h2.2.2⟩
 rcases h with⟨rfl,h⟩|⟨pre,k,rest,rfl,hp,h1,h2⟩
 ·refine⟨fun _ hj=>?_,fun _=>by omega⟩;obtain⟨c,hc⟩:=hj;have hcm:=(hm c).2 ⟨hc.1,hc.2.1,hc.2.2.1⟩;have:=(key c hcm).2 hc;rw[h c hcm]at this;cases this
 ·refine⟨fun h=>by omega,fun hj=>absurd ⟨k,(key k (by rw[←hp];simp)).1 h2⟩ hj⟩
theorem oY{up:List Nat}(hl:up.length≤64){a:Nat}(ha:a<up.length)(c:Nat):(aC up a).testBit c=true↔cY up a c=true:=by
 rw[ck];unfold aC bt;rw[Nat.testBit_mod_two_pow];simp only[Rm,decide_eq_true_eq];exact⟨fun h=>⟨hl,ha,h.1,h.2⟩,fun h=>⟨h.2.2.1,h.2.2.2⟩⟩
theorem sV{up:List Nat}{a b:Nat}(h:cY up a b=true):a<64∧b<64∧a<up.length∧b<up.length:=by
 have:=ck.1 h;omega
theorem Bc{up:List Nat}(hl:up.length≤64){a b:Nat}(ha:a<up.length)(hb:b<up.length)(c:Nat):(c<64∧(aC up a &&& aC up b).testBit c=true)↔(c<up.length∧cY up a c=true∧cY up b c=true):=by
 rw[Nat.testBit_and,Rm,oY hl ha,oY hl hb];exact⟨fun h=>⟨(sV h.2.1).2.2.2,h.2⟩,fun h=>⟨(sV h.2.1).2.1,h.2⟩⟩
theorem Bf{up:List Nat}(hl:up.length≤64){a b:Nat}(c:Nat):(c<64∧(bY up a &&& bY up b).testBit c=true)↔(c<up.length∧cY up c a=true∧cY up c b=true):=by
 rw[Nat.testBit_and,Rm,mb,mb];exact⟨fun h=>⟨(sV h.2.1).2.2.1,h.2⟩,fun h=>⟨(sV h.2.1).1,h.2⟩⟩
theorem Jx{x y:Nat}(h:x<18446744073709551616):x &&& y<18446744073709551616:=Nat.lt_of_le_of_lt Nat.and_le_left h
theorem uA{up:List Nat}(hu:dD up)(a:Nat):aC up a<18446744073709551616:=by
 unfold aC;refine Nat.lt_of_le_of_lt (Nat.mod_le _ _) ?_;rcases oH (o:=up) (a:=a)with h|h
 ·exact hu _ h
 ·rw[h];omega
def il(le:Nat→Nat→Bool)(x:Nat):Int:=match(ay x).find? (fun a=>vH le x a)with
 |some k=>((k:Nat):Int)
 |none=> -1
theorem n0{p:Nat→Bool}:∀{pre:List Nat} {k:Nat} {rest:List Nat},(∀a,a∈pre→p a=false)→p k=true→(pre++k::rest).find? p=some k
 |[],k,rest,_,h=>by simp[h]
 |a::pre,k,rest,h,hk=>by
  rw[RQ,List.find?_cons,h a (by simp)];exact n0 (fun b hb=>h b (by simp[hb])) hk
theorem Bb{le:Nat→Nat→Bool}{x:Nat}{r:Int}(h:xS le x r):r=il le x:=by
 unfold il;rcases h with⟨rfl,h⟩|⟨pre,k,rest,rfl,hp,h1,h2⟩
 ·rw[List.find?_eq_none.2 (fun a ha=>by rw[h a ha];simp)]
 ·rw[←hp,n0 h1 h2]
theorem tO(le:Nat→Nat→Bool)(x:Nat):xS le x (il le x):=by
 unfold il
 cases h:(ay x).find? (fun a=>vH le x a)with
 |none=>exact .inl ⟨rfl,fun a ha=>by have:=List.find?_eq_none.1 h a ha;simpa using this⟩
 |some k=>
  have h':=List.find?_eq_some_iff_append.1 h;obtain⟨h1,pre,rest,h2,h3⟩:=h';exact .inr ⟨pre,k,rest,rfl,h2.symm,fun a ha=>by simpa using h3 a ha,h1⟩
theorem FC(w0:W0)(hg:cV w0)(x:Nat)(hx:x<18446744073709551616)(fl bx:Nat)(hok:okF Tryz.prog fl=true)(ds:List DV)(le:Nat→Nat→Bool)
 (hle:∀(w1:W0) (c d:Nat) (T:St),c<64→d<64→lk T.box bx=some ds→ab Tryz.prog w1 fl [dI (c:Int),dI (d:Int),.v (.pointer (some ⟨bx,0,none⟩))] T (fun d' T'=>d'=dB (le c d)∧T'=T)) (S:St) (hbx:lk S.box bx=some ds):
 ab Tryz.prog w0 105 [dU (x:Int),.v (.func (.func fl) #[] #[.pointer (some ⟨bx,0,none⟩)])] S (fun d S'=>d=dI (il le x)∧S'=S):=by
 refine(KI w0 hg x hx fl bx hok ds le hle S hbx).mono ?_;rintro _ _ ⟨⟨r,rfl,hr⟩,rfl⟩;exact⟨by rw[Bb hr],rfl⟩
theorem Jn(w0:W0)(hg:cV w0)(up:List Nat)(hu:dD up)(hl:up.length≤64)(a b:Nat)(ha:a<up.length)(hb:b<up.length)(S:St):ab Tryz.prog w0 67 [eH up,dI (a:Int),dI (b:Int)] S (fun d S'=>d=dI (il (cY up) (aC up a &&& aC up b))∧S'=S):=by
 have hwa:=uA hu a;have hwb:=uA hu b;have l1:IJ up (a:Int)=true:=nE.2 ⟨hl,by omega,by omega⟩;have l2:IJ up (b:Int)=true:=nE.2 ⟨hl,by omega,by omega⟩;refine cR [] mx Tryz.func67 rfl rfl (by kernel_rfl) ?_;simp(maxDischargeDepth:=12) (maxSteps:=1000000) -implicitDefEqProofs only[Tryz.ntmps67,go_sem,Nat.reduceAdd,Nat.reduceSub,Nat.reduceMul,Nat.reduceLeDiff,Nat.reduceEqDiff,Nat.reduceGT,Nat.reduceBEq,reduceCtorEq,↓reduceIte,Int.reduceToNat,Int.reduceLE,Int.reduceLT,Int.reduceNe,Int.reduceEq];intro b3;refine aq (tf _ up a _) ?_;simp(maxDischargeDepth:=12) (maxSteps:=1000000) -implicitDefEqProofs only[go_sem,Nat.reduceAdd,Nat.reduceSub,Nat.reduceMul,Nat.reduceLeDiff,Nat.reduceEqDiff,Nat.reduceGT,Nat.reduceBEq,reduceCtorEq,↓reduceIte,Int.reduceToNat,Int.reduceLE,Int.reduceLT,Int.reduceNe,Int.reduceEq,l1];refine aq (tf _ up b _) ?_;simp(maxDischargeDepth:=12) (maxSteps:=1000000) -implicitDefEqProofs only[go_sem,Nat.reduceAdd,Nat.reduceSub,Nat.reduceMul,Nat.reduceLeDiff,Nat.reduceEqDiff,Nat.reduceGT,Nat.reduceBEq,reduceCtorEq,↓reduceIte,Int.reduceToNat,Int.reduceLE,Int.reduceLT,Int.reduceNe,Int.reduceEq,l2];refine dL (r7 _ up hu a ha hl _) ?_;simp(maxDischargeDepth:=12) (maxSteps:=1000000) -implicitDefEqProofs only[go_sem,Nat.reduceAdd,Nat.reduceSub,Nat.reduceMul,Nat.reduceLeDiff,Nat.reduceEqDiff,Nat.reduceGT,Nat.reduceBEq,reduceCtorEq,↓reduceIte,Int.reduceToNat,Int.reduceLE,Int.reduceLT,Int.reduceNe,Int.reduceEq];refine dL (r7 _ up hu b hb hl _) ?_;simp(maxDischargeDepth:=12) (maxSteps:=1000000) -implicitDefEqProofs only[go_sem,Nat.reduceAdd,Nat.reduceSub,Nat.reduceMul,Nat.reduceLeDiff,Nat.reduceEqDiff,Nat.reduceGT,Nat.reduceBEq,reduceCtorEq,↓reduceIte,Int.reduceToNat,Int.reduceLE,Int.reduceLT,Int.reduceNe,Int.reduceEq,ee hwa hwb];refine dL (FC _ hg _ (Jx hwa) 106 b3.n (by kernel_rfl) [eH up] (cY up) (fun w1 c d T _ _ hT=>Mz w1 up hu b3.n c d T hT) _ (by simp(maxDischargeDepth:=12) (maxSteps:=1000000) -implicitDefEqProofs only[go_sem,Nat.reduceAdd,Nat.reduceSub,Nat.reduceMul,Nat.reduceLeDiff,Nat.reduceEqDiff,Nat.reduceGT,Nat.reduceBEq,reduceCtorEq,↓reduceIte,Int.reduceToNat,Int.reduceLE,Int.reduceLT,Int.reduceNe,Int.reduceEq])) ?_;simp(maxDischargeDepth:=12) (maxSteps:=1000000) -implicitDefEqProofs only[go_sem,Nat.reduceAdd,Nat.reduceSub,Nat.reduceMul,Nat.reduceLeDiff,Nat.reduceEqDiff,Nat.reduceGT,Nat.reduceBEq,reduceCtorEq,↓reduceIte,Int.reduceToNat,Int.reduceLE,Int.reduceLT,Int.reduceNe,Int.reduceEq]
theorem JI(w0:W0)(hg:cV w0)(up:List Nat)(hu:dD up)(hl:up.length≤64)(a b:Nat)(S:St):ab Tryz.prog w0 68 [eH up,dI (a:Int),dI (b:Int)] S (fun d S'=>d=dI (il (fun x y=>cY up y x) (bY up a &&& bY up b))∧S'=S):=by
 have hwa:bY up a<18446744073709551616:=ja (by omega);have hwb:bY up b<18446744073709551616:=ja (by omega);refine cR [] mx Tryz.func68 rfl rfl (by kernel_rfl) ?_;simp(maxDischargeDepth:=12) (maxSteps:=1000000) -implicitDefEqProofs only[Tryz.ntmps68,go_sem,Nat.reduceAdd,Nat.reduceSub,Nat.reduceMul,Nat.reduceLeDiff,Nat.reduceEqDiff,Nat.reduceGT,Nat.reduceBEq,reduceCtorEq,↓reduceIte,Int.reduceToNat,Int.reduceLE,Int.reduceLT,Int.reduceNe,Int.reduceEq];intro b3;refine dL (Jf _ up hu a hl _) ?_;simp(maxDischargeDepth:=12) (maxSteps:=1000000) -implicitDefEqProofs only[go_sem,Nat.reduceAdd,Nat.reduceSub,Nat.reduceMul,Nat.reduceLeDiff,Nat.reduceEqDiff,Nat.reduceGT,Nat.reduceBEq,reduceCtorEq,↓reduceIte,Int.reduceToNat,Int.reduceLE,Int.reduceLT,Int.reduceNe,Int.reduceEq];refine dL (Jf _ up hu b hl _) ?_;simp(maxDischargeDepth:=12) (maxSteps:=1000000) -implicitDefEqProofs only[go_sem,Nat.reduceAdd,Nat.reduceSub,Nat.reduceMul,Nat.reduceLeDiff,Nat.reduceEqDiff,Nat.reduceGT,Nat.reduceBEq,reduceCtorEq,↓reduceIte,Int.reduceToNat,Int.reduceLE,Int.reduceLT,Int.reduceNe,Int.reduceEq,ee hwa hwb];refine dL (FC _ hg _ (Jx hwa) 108 b3.n (by kernel_rfl) [eH up] (fun x y=>cY up y x) (fun w1 c d T _ _ hT=>M3 w1 up hu b3.n c d T hT) _ (by simp(maxDischargeDepth:=12) (maxSteps:=1000000) -implicitDefEqProofs only[go_sem,Nat.reduceAdd,Nat.reduceSub,Nat.reduceMul,Nat.reduceLeDiff,Nat.reduceEqDiff,Nat.reduceGT,Nat.reduceBEq,reduceCtorEq,↓reduceIte,Int.reduceToNat,Int.reduceLE,Int.reduceLT,Int.reduceNe,Int.reduceEq])) ?_;simp(maxDischargeDepth:=12) (maxSteps:=1000000) -implicitDefEqProofs only[go_sem,Nat.reduceAdd,Nat.reduceSub,Nat.reduceMul,Nat.reduceLeDiff,Nat.reduceEqDiff,Nat.reduceGT,Nat.reduceBEq,reduceCtorEq,↓reduceIte,Int.reduceToNat,Int.reduceLE,Int.reduceLT,Int.reduceNe,Int.reduceEq]
theorem kE{up:List Nat}(hl:up.length≤64){a b:Nat}(ha:a<up.length)(hb:b<up.length):il (cY up) (aC up a &&& aC up b)<0↔¬jM (cY up) up.length a b:=ru (Bc hl ha hb) (tO _ _)
theorem lf{up:List Nat}(hl:up.length≤64){a b:Nat}:il (fun x y=>cY up y x) (bY up a &&& bY up b)<0↔¬jM (fun x y=>cY up y x) up.length a b:=ru (Bf hl) (tO _ _)
theorem gU{up:List Nat}:qi up↔1≤up.length∧up.length≤64∧Cl up∧∀a,a<up.length→∀b,b<a→(¬(cY up a b=true∧cY up b a=true))∧jM (cY up) up.length a b∧jM (fun x y=>cY up y x) up.length a b:=by
 constructor
 ·intro h;refine⟨h.pos,h.le,h.cl,fun a ha b hb=>⟨fun q=>?_,h.join a b hb ha,h.meet a b hb ha⟩⟩;have:=h.Ej a b (ck.1 q.1).2.2.2 (ck.1 q.2).2.2.2;omega
 ·rintro⟨h1,h2,h3,h4⟩;refine⟨h1,h2,h3,fun a b q r=>?_,fun a b hb ha=>(h4 a ha b hb).2.1,fun a b hb ha=>(h4 a ha b hb).2.2⟩;have ha:=ef q;have hb:=ef r;rcases Ti a b with e|e|e
  ·exact absurd ⟨ck.2 ⟨h2,hb,ha,r⟩,ck.2 ⟨h2,ha,hb,q⟩⟩ (h4 b hb a e).1
  ·exact e
  ·exact absurd ⟨ck.2 ⟨h2,ha,hb,q⟩,ck.2 ⟨h2,hb,ha,r⟩⟩ (h4 a ha b e).1
theorem O0(w0:W0)(hg:cV w0)(up:List Nat)(hu:dD up)(h0:up.length≤4611686018427387904)(S:St):ab Tryz.prog w0 36 [eH up] S (fun d S'=>d=dB (pB (qi up))∧S'=S):=by
 refine cR [] mx Tryz.func36 rfl rfl (by kernel_rfl) ?_;simp(maxDischargeDepth:=12) (maxSteps:=1000000) -implicitDefEqProofs only[Tryz.ntmps36,go_sem,Nat.reduceAdd,Nat.reduceSub,Nat.reduceMul,Nat.reduceLeDiff,Nat.reduceEqDiff,Nat.reduceGT,Nat.reduceBEq,reduceCtorEq,↓reduceIte,Int.reduceToNat,Int.reduceLE,Int.reduceLT,Int.reduceNe,Int.reduceEq];refine⟨fun h hp=>by have:=hp.pos;omega,fun h1=>⟨fun h hp=>by have:=hp.le;omega,fun h2=>aq (Fv _ up hu (by omega) _) ?_⟩⟩;have hl:up.length≤64:=by omega
 simp(maxDischargeDepth:=12) (maxSteps:=1000000) -implicitDefEqProofs only[go_sem,Nat.reduceAdd,Nat.reduceSub,Nat.reduceMul,Nat.reduceLeDiff,Nat.reduceEqDiff,Nat.reduceGT,Nat.reduceBEq,reduceCtorEq,↓reduceIte,Int.reduceToNat,Int.reduceLE,Int.reduceLT,Int.reduceNe,Int.reduceEq];refine aq (JW _ (aV up) up (by rw[jq];omega) _) ?_;simp(maxDischargeDepth:=12) (maxSteps:=1000000) -implicitDefEqProofs only[go_sem,Nat.reduceAdd,Nat.reduceSub,Nat.reduceMul,Nat.reduceLeDiff,Nat.reduceEqDiff,Nat.reduceGT,Nat.reduceBEq,reduceCtorEq,↓reduceIte,Int.reduceToNat,Int.reduceLE,Int.reduceLT,Int.reduceNe,Int.reduceEq];refine⟨fun hne hp=>hne (mj hp.cl),fun heq=>?_⟩;have hcl:=pM.1 (RH.1 heq);refine bw [] up.length [0,21,22] (fun a=>[(22,dI a)]) (fun _=>S) (fun a=>∀a',a'<a→∀b,b<a'→(¬(cY up a' b=true∧cY up b a'=true))∧oB up a' b) mx (by kernel_rfl) ?_ ?_
 ·simp(maxDischargeDepth:=12) (maxSteps:=1000000) -implicitDefEqProofs only[go_sem,Nat.reduceAdd,Nat.reduceSub,Nat.reduceMul,Nat.reduceLeDiff,Nat.reduceEqDiff,Nat.reduceGT,Nat.reduceBEq,reduceCtorEq,↓reduceIte,Int.reduceToNat,Int.reduceLE,Int.reduceLT,Int.reduceNe,Int.reduceEq];intro a' ha';omega
 ·intro a ha hA;simp(maxDischargeDepth:=12) (maxSteps:=1000000) -implicitDefEqProofs only[go_sem,Nat.reduceAdd,Nat.reduceSub,Nat.reduceMul,Nat.reduceLeDiff,Nat.reduceEqDiff,Nat.reduceGT,Nat.reduceBEq,reduceCtorEq,↓reduceIte,Int.reduceToNat,Int.reduceLE,Int.reduceLT,Int.reduceNe,Int.reduceEq];refine⟨fun hla=>?_,fun hge=>?_⟩
  ·refine bw [] a [0,3,21,22,25,26] (fun b=>[(26,dI b)]) (fun _=>S) (fun b=>∀b',b'<b→(¬(cY up a b'=true∧cY up b' a=true))∧oB up a b') mx (by kernel_rfl) ?_ ?_
   ·simp(maxDischargeDepth:=12) (maxSteps:=1000000) -implicitDefEqProofs only[go_sem,Nat.reduceAdd,Nat.reduceSub,Nat.reduceMul,Nat.reduceLeDiff,Nat.reduceEqDiff,Nat.reduceGT,Nat.reduceBEq,reduceCtorEq,↓reduceIte,Int.reduceToNat,Int.reduceLE,Int.reduceLT,Int.reduceNe,Int.reduceEq];intro b' hb';omega
   ·intro b hb hB;simp(maxDischargeDepth:=12) (maxSteps:=1000000) -implicitDefEqProofs only[go_sem,Nat.reduceAdd,Nat.reduceSub,Nat.reduceMul,Nat.reduceLeDiff,Nat.reduceEqDiff,Nat.reduceGT,Nat.reduceBEq,reduceCtorEq,↓reduceIte,Int.reduceToNat,Int.reduceLE,Int.reduceLT,Int.reduceNe,Int.reduceEq];refine⟨fun hlb=>aq (vi _ up hu a b _) ?_,fun hge=>?_⟩
    ·simp(maxDischargeDepth:=12) (maxSteps:=1000000) -implicitDefEqProofs only[go_sem,Nat.reduceAdd,Nat.reduceSub,Nat.reduceMul,Nat.reduceLeDiff,Nat.reduceEqDiff,Nat.reduceGT,Nat.reduceBEq,reduceCtorEq,↓reduceIte,Int.reduceToNat,Int.reduceLE,Int.reduceLT,Int.reduceNe,Int.reduceEq,dH];refine⟨fun p1=>aq (vi _ up hu b a _) ?_,fun p1=>aq (Jn _ hg up hu hl a b hla (by omega) _) ?_⟩
     ·simp(maxDischargeDepth:=12) (maxSteps:=1000000) -implicitDefEqProofs only[go_sem,Nat.reduceAdd,Nat.reduceSub,Nat.reduceMul,Nat.reduceLeDiff,Nat.reduceEqDiff,Nat.reduceGT,Nat.reduceBEq,reduceCtorEq,↓reduceIte,Int.reduceToNat,Int.reduceLE,Int.reduceLT,Int.reduceNe,Int.reduceEq,dH];refine⟨fun p2 hp=>(gU.1 hp |>.2.2.2 a hla b hlb).1 ⟨p1,p2⟩,fun p2=>aq (Jn _ hg up hu hl a b hla (by omega) _) ?_⟩;simp(maxDischargeDepth:=12) (maxSteps:=1000000) -implicitDefEqProofs only[go_sem,Nat.reduceAdd,Nat.reduceSub,Nat.reduceMul,Nat.reduceLeDiff,Nat.reduceEqDiff,Nat.reduceGT,Nat.reduceBEq,reduceCtorEq,↓reduceIte,Int.reduceToNat,Int.reduceLE,Int.reduceLT,Int.reduceNe,Int.reduceEq];refine⟨fun q hp=>(kE hl hla (by omega)).1 q (gU.1 hp |>.2.2.2 a hla b hlb).2.1,fun q=>aq (JI _ hg up hu hl a b _) ?_⟩;simp(maxDischargeDepth:=12) (maxSteps:=1000000) -implicitDefEqProofs only[go_sem,Nat.reduceAdd,Nat.reduceSub,Nat.reduceMul,Nat.reduceLeDiff,Nat.reduceEqDiff,Nat.reduceGT,Nat.reduceBEq,reduceCtorEq,↓reduceIte,Int.reduceToNat,Int.reduceLE,Int.reduceLT,Int.reduceNe,Int.reduceEq];refine⟨fun q2 hp=>(lf hl).1 q2 (gU.1 hp |>.2.2.2 a hla b hlb).2.2,fun q2=>⟨hlb,fun b' hb'=>?_,ax (by omega)⟩⟩;by_cases e:b'=b
      ·subst e;exact⟨fun h=>(by rw[p2]at h;cases h.2),RH.1 fun g=>q ((kE hl hla (by omega)).2 g),RH.1 fun g=>q2 ((lf hl).2 g)⟩
      ·exact hB b' (by omega)
     ·skip
      simp(maxDischargeDepth:=12) (maxSteps:=1000000) -implicitDefEqProofs only[go_sem,Nat.reduceAdd,Nat.reduceSub,Nat.reduceMul,Nat.reduceLeDiff,Nat.reduceEqDiff,Nat.reduceGT,Nat.reduceBEq,reduceCtorEq,↓reduceIte,Int.reduceToNat,Int.reduceLE,Int.reduceLT,Int.reduceNe,Int.reduceEq];refine⟨fun q hp=>(kE hl hla (by omega)).1 q (gU.1 hp |>.2.2.2 a hla b hlb).2.1,fun q=>aq (JI _ hg up hu hl a b _) ?_⟩;simp(maxDischargeDepth:=12) (maxSteps:=1000000) -implicitDefEqProofs only[go_sem,Nat.reduceAdd,Nat.reduceSub,Nat.reduceMul,Nat.reduceLeDiff,Nat.reduceEqDiff,Nat.reduceGT,Nat.reduceBEq,reduceCtorEq,↓reduceIte,Int.reduceToNat,Int.reduceLE,Int.reduceLT,Int.reduceNe,Int.reduceEq];refine⟨fun q2 hp=>(lf hl).1 q2 (gU.1 hp |>.2.2.2 a hla b hlb).2.2,fun q2=>⟨hlb,fun b' hb'=>?_,ax (by omega)⟩⟩;by_cases e:b'=b
      ·subst e;exact⟨fun h=>(by rw[p1]at h;cases h.1),RH.1 fun g=>q ((kE hl hla (by omega)).2 g),RH.1 fun g=>q2 ((lf hl).2 g)⟩
      ·exact hB b' (by omega)
    ·have e:b=a:=by omega
     subst e;refine⟨hla,fun a' ha'=>?_,ax (by omega)⟩;by_cases e:a'=b
     ·subst e;exact hB
     ·exact hA a' (by omega)
  ·have e:a=up.length:=by omega
   subst e;exact gU.2 ⟨by omega,hl,hcl,hA⟩
end Go.Proofs.YtiihljlagmmljaaGreatDoor
namespace Grs
structure G where
 a:Int
 f:Int
 t:Int
 deriving DecidableEq
def eN(x y:G):Bool:=decide (x.a<y.a∨(x.a=y.a∧(x.f<y.f∨(x.f=y.f∧x.t<y.t))))
theorem nw{x y:G}:eN x y=true↔(x.a<y.a∨(x.a=y.a∧(x.f<y.f∨(x.f=y.f∧x.t<y.t)))):=decide_eq_true_iff
theorem nu(x:G):eN x x=false:=by
 cases h:eN x x with
 |false=>rfl
 |true=>rw[nw]at h;omega
theorem gz{x y z:G}(h1:eN x y=true)(h2:eN y z=true):eN x z=true:=by
 rw[nw]at *;omega
theorem jt{x y:G}(h1:eN x y=true):eN y x=false:=by
 cases h:eN y x with
 |false=>rfl
 |true=>rw[nw]at *;omega
theorem iq(x y:G):eN x y=true∨x=y∨eN y x=true:=by
 by_cases h1:eN x y=true
 ·exact .inl h1
 ·by_cases h2:eN y x=true
  ·exact .inr (.inr h2)
  ·refine .inr (.inl ?_);rw[nw]at h1 h2;obtain⟨a,f,t⟩:=x;obtain⟨a',f',t'⟩:=y;dsimp only at h1 h2;have e1:a=a':=by omega
   have e2:f=f':=by omega
   have e3:t=t':=by omega
   rw[e1,e2,e3]
def Up(l:List G):Prop:=l.Pairwise fun x y=>eN x y=true
theorem yz:∀{l m:List G},Up l→Up m→(∀x,x∈l↔x∈m)→l=m
 |[],[],_,_,_=>rfl
 |[],y::m,_,_,h=>absurd ((h y).2 Rx) (by simp)
 |x::l,[],_,_,h=>absurd ((h x).1 Rx) (by simp)
 |x::l,y::m,hl,hm,h=>by
  unfold Up at hl hm;rw[Ts]at hl hm
  have hxy:x=y:=by
   rcases iq x y with q|q|q
   ·have:=(h x).1 Rx;rcases Rv.1 this with e|e
    ·exact e
    ·have:=jt (hm.1 x e);rw[q]at this;cases this
   ·exact q
   ·have:=(h y).2 Rx;rcases Rv.1 this with e|e
    ·exact e.symm
    ·have:=jt (hl.1 y e);rw[q]at this;cases this
  subst hxy;congr 1;refine yz hl.2 hm.2 fun z=>⟨fun hz=>?_,fun hz=>?_⟩
  ·rcases Rv.1 ((h z).1 (Rr _ hz))with e|e
   ·subst e;have:=hl.1 z hz;rw[nu]at this;cases this
   ·exact e
  ·rcases Rv.1 ((h z).2 (Rr _ hz))with e|e
   ·subst e;have:=hm.1 z hz;rw[nu]at this;cases this
   ·exact e
def cp(g:G)(l:List G):Nat:=(l.takeWhile fun x=>eN x g).length
def iG(l:List G)(g:G):List G:=if g∈l then l else l.take (cp g l)++g::l.drop (cp g l)
theorem uE(g:G):∀l:List G,l.take (cp g l)=l.takeWhile fun x=>eN x g
 |[]=>rfl
 |x::l=>by
  unfold cp;rw[Tn];split
  ·rename_i h;rw[Ru,List.take_succ_cons];congr 1;exact uE g l
  ·rfl
theorem uO(g:G):∀l:List G,l.drop (cp g l)=l.dropWhile fun x=>eN x g
 |[]=>rfl
 |x::l=>by
  unfold cp;rw[Tn,List.dropWhile_cons];split
  ·rename_i h;rw[Ru,List.drop_succ_cons];exact uO g l
  ·rfl
theorem CE{l:List G}{g x:G}:x∈iG l g↔x∈l∨x=g:=by
 unfold iG;split
 ·rename_i h;exact⟨.inl,fun q=>q.elim id fun e=>e▸h⟩
 ·rw[RB,Rv]
  conv=>rhs;rw[←SC (cp g l) l,RB]
  constructor
  ·rintro(h|h|h)
   ·exact .inl (.inl h)
   ·exact .inr h
   ·exact .inl (.inr h)
  ·rintro((h|h)|h)
   ·exact .inl h
   ·exact .inr (.inr h)
   ·exact .inr (.inl h)
theorem D3{p:G→Bool}{x:G}:∀l:List G,x∈l.takeWhile p→p x=true
 |[],h=>by cases h
 |y::l,h=>by
  rw[Tn]at h;split at h
  ·rename_i hy;rcases Rv.1 h with e|e
   ·exact e▸hy
   ·exact D3 l e
  ·cases h
theorem HR{l:List G}{g:G}(h:Up l):Up (iG l g):=by
 unfold iG;split
 ·exact h
 ·rename_i hn
  have hd:∀x,x∈l.drop (cp g l)→eN g x=true:=by
   intro x hx;have hxl:x∈l:=Sa hx;rw[uO]at hx;have hne:¬x=g:=fun e=>hn (e▸hxl)
   cases hq:l.dropWhile (fun x=>eN x g)with
   |nil=>rw[hq]at hx;cases hx
   |cons y m=>
    have hy:eN y g=false:=by
     have:=List.head?_dropWhile_not (fun x=>eN x g) l;rw[hq]at this;simpa using this
    have hyx:y=x∨eN y x=true:=by
     have hp:Up (l.dropWhile fun x=>eN x g):=h.sublist (List.dropWhile_sublist _);rw[hq]at hp hx;rcases Rv.1 hx with e|e
     ·exact .inl e.symm
     ·exact .inr ((Ts.1 hp).1 x e)
    have hyg:eN g y=true:=by
     rcases iq y g with q|q|q
     ·rw[hy]at q;cases q
     ·subst q;exact absurd ((List.dropWhile_sublist (fun x=>eN x y)).subset (show y∈l.dropWhile (fun x=>eN x y)by rw[hq];exact Rx)) hn
     ·exact q
    rcases hyx with e|e
    ·exact e▸hyg
    ·exact gz hyg e
  have ht:∀x,x∈l.take (cp g l)→eN x g=true:=by
   intro x hx;rw[uE]at hx;exact D3 (p:=fun x=>eN x g) _ hx
  refine List.pairwise_append.2 ⟨h.sublist (List.take_sublist _ _),Ts.2 ⟨hd,h.sublist (List.drop_sublist _ _)⟩,?_⟩;intro x hx y hy;rcases Rv.1 hy with e|e
  ·subst e;exact ht x hx
  ·exact gz (ht x hx) (hd y e)
def fM(gs:List G):List G:=gs.foldl iG []
theorem BI(gs:List G)(g:G):fM (gs++[g])=iG (fM gs) g:=by unfold fM;rw[Tj];rfl
theorem JH(gs:List G):∀l,Up l→Up (gs.foldl iG l)∧∀x,x∈gs.foldl iG l↔x∈l∨x∈gs:=by
 induction gs with
 |nil=>intro l h;exact⟨h,fun x=>by simp⟩
 |cons g gs ih=>
  intro l h;obtain⟨h1,h2⟩:=ih (iG l g) (HR h);refine⟨h1,fun x=>?_⟩;rw[SP,h2,CE,Rv];constructor
  ·rintro((h|h)|h)
   ·exact .inl h
   ·exact .inr (.inl h)
   ·exact .inr (.inr h)
  ·rintro(h|h|h)
   ·exact .inl (.inl h)
   ·exact .inl (.inr h)
   ·exact .inr h
theorem za(gs:List G):Up (fM gs):=(JH gs [] .nil).1
theorem u7{gs:List G}{x:G}:x∈fM gs↔x∈gs:=by
 have:=(JH gs [] .nil).2 x;simpa[fM]using this
def au:List G→List G
 |[]=>[]
 |[x]=>[x]
 |x::y::l=>if x=y then au (y::l)else x::au (y::l)
theorem jv{x:G}:∀{l:List G},x∈au l↔x∈l
 |[]=>by simp[au]
 |[y]=>by simp[au]
 |y::z::l=>by
  unfold au;split
  ·rename_i e;subst e;rw[jv];simp
  ·rw[Rv,jv,Rv (a:=x) (b:=y)]
theorem vr:∀{l:List G},(l.Pairwise fun x y=>eN y x=false)→Up (au l)
 |[],_=> .nil
 |[x],_=>List.pairwise_singleton _ _
 |x::y::l,h=>by
  rw[Ts]at h;have ih:=vr h.2;unfold au;split
  ·exact ih
  ·rename_i hne;refine Ts.2 ⟨fun z hz=>?_,ih⟩;have hz':=jv.1 hz;have h1:=h.1 z hz';rcases iq x z with q|q|q
   ·exact q
   ·subst q;have h2:=h.1 y Rx;rcases iq x y with q|q|q
    ·rcases Rv.1 hz' with e|e
     ·exact absurd e hne
     ·have:=(Ts.1 h.2).1 x e;rw[q]at this;cases this
    ·exact absurd q hne
    ·rw[q]at h2;cases h2
   ·rw[q]at h1;cases h1
theorem DA{gs d:List G}(hp:∀x,x∈d↔x∈gs)(hs:d.Pairwise fun x y=>eN y x=false):au d=fM gs:=
 yz (vr hs) (za gs) fun x=>by rw[jv,u7,hp]
theorem ya{gs:List G}(h:Up gs):fM gs=gs:=yz (za gs) h fun x=>u7
end Grs
namespace Go.Proofs.YtiihljlagmmljaaGreatDoor
open Aml Go Lat Grs
@[go_sem] def gD (g:G):DV:= .agg [dI g.a,dI g.f,dI g.t]
@[go_sem] def lN (l:List G):DV:= .sl 3 false (l.map gD)
def va(x y:Int):Int:=if x<y then -1 else if y<x then 1 else 0
def iH(x y:G):Int:=if eN x y then -1 else if eN y x then 1 else 0
theorem pW{x y:G}:iH x y<0↔eN x y=true:=by
 unfold iH;cases h:eN x y <;>cases h2:eN y x <;>simp
theorem GC(x y:G):iH x y=if va x.a y.a≠0 then va x.a y.a else if va x.f y.f≠0 then va x.f y.f else va x.t y.t:=by
 unfold iH va eN;simp only[decide_eq_true_eq];split <;>(repeat' split) <;>first|rfl|omega
theorem isNaN(w0:W0)(x:Int)(S:St):ab Tryz.prog w0 128 [dI x] S (fun d S'=>d=dB false∧S'=S):=by
 refine cR [] mx Tryz.func128 rfl rfl (by kernel_rfl) ?_;simp(maxDischargeDepth:=12) (maxSteps:=1000000) -implicitDefEqProofs only[Tryz.ntmps128,go_sem,Nat.reduceAdd,Nat.reduceSub,Nat.reduceMul,Nat.reduceLeDiff,Nat.reduceEqDiff,Nat.reduceGT,Nat.reduceBEq,reduceCtorEq,↓reduceIte,Int.reduceToNat,Int.reduceLE,Int.reduceLT,Int.reduceNe,Int.reduceEq]
theorem nR(w0:W0)(x y:Int)(S:St):ab Tryz.prog w0 102 [dI x,dI y] S (fun d S'=>d=dI (va x y)∧S'=S):=by
 refine cR [] mx Tryz.func102 rfl rfl (by kernel_rfl) ?_;simp(maxDischargeDepth:=12) (maxSteps:=1000000) -implicitDefEqProofs only[Tryz.ntmps102,go_sem,Nat.reduceAdd,Nat.reduceSub,Nat.reduceMul,Nat.reduceLeDiff,Nat.reduceEqDiff,Nat.reduceGT,Nat.reduceBEq,reduceCtorEq,↓reduceIte,Int.reduceToNat,Int.reduceLE,Int.reduceLT,Int.reduceNe,Int.reduceEq];refine aq (isNaN _ x _) ?_;simp(maxDischargeDepth:=12) (maxSteps:=1000000) -implicitDefEqProofs only[go_sem,Nat.reduceAdd,Nat.reduceSub,Nat.reduceMul,Nat.reduceLeDiff,Nat.reduceEqDiff,Nat.reduceGT,Nat.reduceBEq,reduceCtorEq,↓reduceIte,Int.reduceToNat,Int.reduceLE,Int.reduceLT,Int.reduceNe,Int.reduceEq];refine aq (isNaN _ y _) ?_;simp(maxDischargeDepth:=12) (maxSteps:=1000000) -implicitDefEqProofs only[go_sem,Nat.reduceAdd,Nat.reduceSub,Nat.reduceMul,Nat.reduceLeDiff,Nat.reduceEqDiff,Nat.reduceGT,Nat.reduceBEq,reduceCtorEq,↓reduceIte,Int.reduceToNat,Int.reduceLE,Int.reduceLT,Int.reduceNe,Int.reduceEq];unfold va;refine⟨fun h=>?_,fun h=>⟨fun h2=>?_,fun h2=>?_⟩⟩
 ·rw[if_pos h]
 ·rw[if_neg (by omega),if_pos (by omega)]
 ·rw[if_neg (by omega),if_neg (by omega)]
theorem Qr(w0:W0)(x y z:Int)(S:St):ab Tryz.prog w0 101 [.sl 1 false [dI x,dI y,dI z]] S (fun d S'=>d=dI (if x≠0 then x else if y≠0 then y else z)∧S'=S):=by
 refine cR [] mx Tryz.func101 rfl rfl (by kernel_rfl) ?_;simp(maxDischargeDepth:=12) (maxSteps:=1000000) -implicitDefEqProofs only[Tryz.ntmps101,go_sem,Nat.reduceAdd,Nat.reduceSub,Nat.reduceMul,Nat.reduceLeDiff,Nat.reduceEqDiff,Nat.reduceGT,Nat.reduceBEq,reduceCtorEq,↓reduceIte,Int.reduceToNat,Int.reduceLE,Int.reduceLT,Int.reduceNe,Int.reduceEq];refine bw [] 3 [3,6,7,8] (fun a=>[(8,dI a)]) (fun _=>S) (fun a=>(1≤a→x=0)∧(2≤a→y=0)∧(3≤a→z=0)) mx (by kernel_rfl) ?_ ?_
 ·simp(maxDischargeDepth:=12) (maxSteps:=1000000) -implicitDefEqProofs only[go_sem,Nat.reduceAdd,Nat.reduceSub,Nat.reduceMul,Nat.reduceLeDiff,Nat.reduceEqDiff,Nat.reduceGT,Nat.reduceBEq,reduceCtorEq,↓reduceIte,Int.reduceToNat,Int.reduceLE,Int.reduceLT,Int.reduceNe,Int.reduceEq]
 ·intro a ha hA;obtain rfl|rfl|rfl|rfl:a=0∨a=1∨a=2∨a=3:=by omega
  ·simp(maxDischargeDepth:=12) (maxSteps:=1000000) -implicitDefEqProofs only[go_sem,Nat.reduceAdd,Nat.reduceSub,Nat.reduceMul,Nat.reduceLeDiff,Nat.reduceEqDiff,Nat.reduceGT,Nat.reduceBEq,reduceCtorEq,↓reduceIte,Int.reduceToNat,Int.reduceLE,Int.reduceLT,Int.reduceNe,Int.reduceEq];refine⟨fun h=>by rw[if_pos h],fun h=>⟨RH.1 h,by rfl⟩⟩
  ·simp(maxDischargeDepth:=12) (maxSteps:=1000000) -implicitDefEqProofs only[go_sem,Nat.reduceAdd,Nat.reduceSub,Nat.reduceMul,Nat.reduceLeDiff,Nat.reduceEqDiff,Nat.reduceGT,Nat.reduceBEq,reduceCtorEq,↓reduceIte,Int.reduceToNat,Int.reduceLE,Int.reduceLT,Int.reduceNe,Int.reduceEq];have h0:=hA.1 (by omega);refine⟨fun h=>by rw[if_neg (by omega),if_pos h],fun h=>⟨⟨h0,RH.1 h⟩,by rfl⟩⟩
  ·simp(maxDischargeDepth:=12) (maxSteps:=1000000) -implicitDefEqProofs only[go_sem,Nat.reduceAdd,Nat.reduceSub,Nat.reduceMul,Nat.reduceLeDiff,Nat.reduceEqDiff,Nat.reduceGT,Nat.reduceBEq,reduceCtorEq,↓reduceIte,Int.reduceToNat,Int.reduceLE,Int.reduceLT,Int.reduceNe,Int.reduceEq];have h0:=hA.1 (by omega);have h1:=hA.2.1 (by omega);refine⟨fun h=>by rw[if_neg (by omega),if_neg (by omega)],fun h=>⟨⟨h0,h1,RH.1 h⟩,by rfl⟩⟩
  ·simp(maxDischargeDepth:=12) (maxSteps:=1000000) -implicitDefEqProofs only[go_sem,Nat.reduceAdd,Nat.reduceSub,Nat.reduceMul,Nat.reduceLeDiff,Nat.reduceEqDiff,Nat.reduceGT,Nat.reduceBEq,reduceCtorEq,↓reduceIte,Int.reduceToNat,Int.reduceLE,Int.reduceLT,Int.reduceNe,Int.reduceEq];have h0:=hA.1 (by omega);have h1:=hA.2.1 (by omega);have h2:=hA.2.2 (by omega);rw[if_neg (by omega),if_neg (by omega),h2]
theorem Fl(w0:W0)(x y:G)(S:St):ab Tryz.prog w0 58 [gD x,gD y] S (fun d S'=>d=dI (iH x y)∧S'=S):=by
 refine cR [] mx Tryz.func58 rfl rfl (by kernel_rfl) ?_;simp(maxDischargeDepth:=12) (maxSteps:=1000000) -implicitDefEqProofs only[Tryz.ntmps58,go_sem,Nat.reduceAdd,Nat.reduceSub,Nat.reduceMul,Nat.reduceLeDiff,Nat.reduceEqDiff,Nat.reduceGT,Nat.reduceBEq,reduceCtorEq,↓reduceIte,Int.reduceToNat,Int.reduceLE,Int.reduceLT,Int.reduceNe,Int.reduceEq];intro b2 b3;refine dL (nR _ x.a y.a _) ?_;simp(maxDischargeDepth:=12) (maxSteps:=1000000) -implicitDefEqProofs only[go_sem,Nat.reduceAdd,Nat.reduceSub,Nat.reduceMul,Nat.reduceLeDiff,Nat.reduceEqDiff,Nat.reduceGT,Nat.reduceBEq,reduceCtorEq,↓reduceIte,Int.reduceToNat,Int.reduceLE,Int.reduceLT,Int.reduceNe,Int.reduceEq];refine dL (nR _ x.f y.f _) ?_;simp(maxDischargeDepth:=12) (maxSteps:=1000000) -implicitDefEqProofs only[go_sem,Nat.reduceAdd,Nat.reduceSub,Nat.reduceMul,Nat.reduceLeDiff,Nat.reduceEqDiff,Nat.reduceGT,Nat.reduceBEq,reduceCtorEq,↓reduceIte,Int.reduceToNat,Int.reduceLE,Int.reduceLT,Int.reduceNe,Int.reduceEq];refine dL (nR _ x.t y.t _) ?_;simp(maxDischargeDepth:=12) (maxSteps:=1000000) -implicitDefEqProofs only[go_sem,Nat.reduceAdd,Nat.reduceSub,Nat.reduceMul,Nat.reduceLeDiff,Nat.reduceEqDiff,Nat.reduceGT,Nat.reduceBEq,reduceCtorEq,↓reduceIte,Int.reduceToNat,Int.reduceLE,Int.reduceLT,Int.reduceNe,Int.reduceEq];refine dL (Qr _ _ _ _ _) ?_ ⟨.full _ _ _,trivial⟩;simp(maxDischargeDepth:=12) (maxSteps:=1000000) -implicitDefEqProofs only[go_sem,Nat.reduceAdd,Nat.reduceSub,Nat.reduceMul,Nat.reduceLeDiff,Nat.reduceEqDiff,Nat.reduceGT,Nat.reduceBEq,reduceCtorEq,↓reduceIte,Int.reduceToNat,Int.reduceLE,Int.reduceLT,Int.reduceNe,Int.reduceEq];rw[GC]
theorem Eu(w0:W0)(x y:G)(S:St):ab Tryz.prog w0 24 [gD x,gD y] S (fun d S'=>d=dB (eN x y)∧S'=S):=by
 refine cR [] mx Tryz.func24 rfl rfl (by kernel_rfl) ?_;simp(maxDischargeDepth:=12) (maxSteps:=1000000) -implicitDefEqProofs only[Tryz.ntmps24,go_sem,Nat.reduceAdd,Nat.reduceSub,Nat.reduceMul,Nat.reduceLeDiff,Nat.reduceEqDiff,Nat.reduceGT,Nat.reduceBEq,reduceCtorEq,↓reduceIte,Int.reduceToNat,Int.reduceLE,Int.reduceLT,Int.reduceNe,Int.reduceEq];intro b2 b3;refine aq (Fl _ x y _) ?_;simp(maxDischargeDepth:=12) (maxSteps:=1000000) -implicitDefEqProofs only[go_sem,Nat.reduceAdd,Nat.reduceSub,Nat.reduceMul,Nat.reduceLeDiff,Nat.reduceEqDiff,Nat.reduceGT,Nat.reduceBEq,reduceCtorEq,↓reduceIte,Int.reduceToNat,Int.reduceLE,Int.reduceLT,Int.reduceNe,Int.reduceEq];exact Bool.eq_iff_iff.2 (decide_eq_true_iff.trans pW)
theorem Jk(w0:W0)(x y:G)(S:St):ab Tryz.prog w0 74 [gD x,gD y] S (fun d S'=>d=dB (eN x y)∧S'=S):=by
 refine cR [] mx Tryz.func74 rfl rfl (by kernel_rfl) ?_;simp(maxDischargeDepth:=12) (maxSteps:=1000000) -implicitDefEqProofs only[Tryz.ntmps74,go_sem,Nat.reduceAdd,Nat.reduceSub,Nat.reduceMul,Nat.reduceLeDiff,Nat.reduceEqDiff,Nat.reduceGT,Nat.reduceBEq,reduceCtorEq,↓reduceIte,Int.reduceToNat,Int.reduceLE,Int.reduceLT,Int.reduceNe,Int.reduceEq];intro b2 b3;unfold eN;refine⟨fun h=>decide_eq_decide.2 (by omega),fun h=>⟨fun h2=>decide_eq_decide.2 (by omega),fun h2=>decide_eq_decide.2 (by omega)⟩⟩
def tG(up:List Nat)(g:G):Bool:=BO up g.f g.a&&BO up g.t g.a&&!BO up g.f g.t
theorem Pv(w0:W0)(up:List Nat)(hu:dD up)(g:G)(S:St):ab Tryz.prog w0 69 [eH up,gD g] S (fun d S'=>d=dB (tG up g)∧S'=S):=by
 refine cR [] mx Tryz.func69 rfl rfl (by kernel_rfl) ?_;simp(maxDischargeDepth:=12) (maxSteps:=1000000) -implicitDefEqProofs only[Tryz.ntmps69,go_sem,Nat.reduceAdd,Nat.reduceSub,Nat.reduceMul,Nat.reduceLeDiff,Nat.reduceEqDiff,Nat.reduceGT,Nat.reduceBEq,reduceCtorEq,↓reduceIte,Int.reduceToNat,Int.reduceLE,Int.reduceLT,Int.reduceNe,Int.reduceEq];intro b;unfold tG;refine aq (vi _ up hu g.f g.a _) ?_;simp(maxDischargeDepth:=12) (maxSteps:=1000000) -implicitDefEqProofs only[go_sem,Nat.reduceAdd,Nat.reduceSub,Nat.reduceMul,Nat.reduceLeDiff,Nat.reduceEqDiff,Nat.reduceGT,Nat.reduceBEq,reduceCtorEq,↓reduceIte,Int.reduceToNat,Int.reduceLE,Int.reduceLT,Int.reduceNe,Int.reduceEq];refine⟨fun h=>aq (vi _ up hu g.t g.a _) ?_,fun h=>by rw[h];rfl⟩;simp(maxDischargeDepth:=12) (maxSteps:=1000000) -implicitDefEqProofs only[go_sem,Nat.reduceAdd,Nat.reduceSub,Nat.reduceMul,Nat.reduceLeDiff,Nat.reduceEqDiff,Nat.reduceGT,Nat.reduceBEq,reduceCtorEq,↓reduceIte,Int.reduceToNat,Int.reduceLE,Int.reduceLT,Int.reduceNe,Int.reduceEq];refine⟨fun h2=>aq (vi _ up hu g.f g.t _) ?_,fun h2=>by rw[h,h2];rfl⟩;simp(maxDischargeDepth:=12) (maxSteps:=1000000) -implicitDefEqProofs only[go_sem,Nat.reduceAdd,Nat.reduceSub,Nat.reduceMul,Nat.reduceLeDiff,Nat.reduceEqDiff,Nat.reduceGT,Nat.reduceBEq,reduceCtorEq,↓reduceIte,Int.reduceToNat,Int.reduceLE,Int.reduceLT,Int.reduceNe,Int.reduceEq];rw[h,h2];rfl
theorem O7(w0:W0)(up:List Nat)(hu:dD up)(g:G)(S:St):ab Tryz.prog w0 73 [eH up,gD g] S (fun d S'=>d=dB (tG up g)∧S'=S):=by
 refine cR [] mx Tryz.func73 rfl rfl (by kernel_rfl) ?_;simp(maxDischargeDepth:=12) (maxSteps:=1000000) -implicitDefEqProofs only[Tryz.ntmps73,go_sem,Nat.reduceAdd,Nat.reduceSub,Nat.reduceMul,Nat.reduceLeDiff,Nat.reduceEqDiff,Nat.reduceGT,Nat.reduceBEq,reduceCtorEq,↓reduceIte,Int.reduceToNat,Int.reduceLE,Int.reduceLT,Int.reduceNe,Int.reduceEq];intro b;unfold tG;refine aq (sW _ up hu g.f g.a _) ?_;simp(maxDischargeDepth:=12) (maxSteps:=1000000) -implicitDefEqProofs only[go_sem,Nat.reduceAdd,Nat.reduceSub,Nat.reduceMul,Nat.reduceLeDiff,Nat.reduceEqDiff,Nat.reduceGT,Nat.reduceBEq,reduceCtorEq,↓reduceIte,Int.reduceToNat,Int.reduceLE,Int.reduceLT,Int.reduceNe,Int.reduceEq];refine⟨fun h=>aq (sW _ up hu g.t g.a _) ?_,fun h=>by rw[h];rfl⟩;simp(maxDischargeDepth:=12) (maxSteps:=1000000) -implicitDefEqProofs only[go_sem,Nat.reduceAdd,Nat.reduceSub,Nat.reduceMul,Nat.reduceLeDiff,Nat.reduceEqDiff,Nat.reduceGT,Nat.reduceBEq,reduceCtorEq,↓reduceIte,Int.reduceToNat,Int.reduceLE,Int.reduceLT,Int.reduceNe,Int.reduceEq];refine⟨fun h2=>aq (sW _ up hu g.f g.t _) ?_,fun h2=>by rw[h,h2];rfl⟩;simp(maxDischargeDepth:=12) (maxSteps:=1000000) -implicitDefEqProofs only[go_sem,Nat.reduceAdd,Nat.reduceSub,Nat.reduceMul,Nat.reduceLeDiff,Nat.reduceEqDiff,Nat.reduceGT,Nat.reduceBEq,reduceCtorEq,↓reduceIte,Int.reduceToNat,Int.reduceLE,Int.reduceLT,Int.reduceNe,Int.reduceEq];rw[h,h2];rfl
def I4(up:List Nat)(l:List G):Prop:=l.length≤64∧(∀g,g∈l→tG up g=true)∧Up l
def Mo(up:List Nat)(l:List G)(k:Nat):Prop:=∀i,i<k→(∀g,l[i]? =some g→tG up g=true)∧(∀x y,0<i→l[i-1]? =some x→l[i]? =some y→eN x y=true)
theorem Lt{l:List G}:Up l↔∀i,(h:i+1<l.length)→eN (l[i]'(by omega)) l[i+1]=true:=by
 unfold Up;rw[SQ];constructor
 ·intro h i hi;exact h i (i+1) (by omega) hi (by omega)
 ·intro h i j hi hj hij
  induction j with
  |zero=>omega
  |succ j ih=>
   by_cases e:i=j
   ·subst e;exact h i hj
   ·exact gz (ih (by omega) (by omega)) (h j hj)
theorem nk{up:List Nat}{l:List G}:I4 up l↔l.length≤64∧Mo up l l.length:=by
 unfold I4 Mo;rw[Lt];constructor
 ·rintro⟨h1,h2,h3⟩;refine⟨h1,fun i hi=>⟨fun g hg=>h2 g (Rj hg),fun x y h0 hx hy=>?_⟩⟩;have:=h3 (i-1) (by omega);obtain⟨q1,e1⟩:=Rp.1 hx;obtain⟨q2,e2⟩:=Rp.1 hy;simp only[show i-1+1=i from by omega]at this;rw[e1,e2]at this;exact this
 ·rintro⟨h1,h2⟩;refine⟨h1,fun g hg=>?_,fun i hi=>?_⟩
  ·obtain⟨i,hi,e⟩:=Th.1 hg;exact(h2 i hi).1 g (by rw[so hi,e])
  ·exact(h2 (i+1) hi).2 _ _ (by omega) (by rw[Nat.add_sub_cancel];exact so (by omega)) (so hi)
theorem kN{up:List Nat}{l:List G}{a:Nat}(h:Mo up l a)(h1:∀g,l[a]? =some g→tG up g=true)(h2:∀x y,0<a→l[a-1]? =some x→l[a]? =some y→eN x y=true):Mo up l (a+1):=fun i hi=>by
 by_cases e:i=a
 ·subst e;exact⟨h1,h2⟩
 ·exact h i (by omega)
theorem Qn(w0:W0)(up:List Nat)(hu:dD up)(l:List G)(h0:l.length≤4611686018427387904)(S:St):ab Tryz.prog w0 37 [eH up,lN l] S (fun d S'=>d=dB (pB (I4 up l))∧S'=S):=by
 refine cR [] mx Tryz.func37 rfl rfl (by kernel_rfl) ?_;simp(maxDischargeDepth:=12) (maxSteps:=1000000) -implicitDefEqProofs only[Tryz.ntmps37,go_sem,Nat.reduceAdd,Nat.reduceSub,Nat.reduceMul,Nat.reduceLeDiff,Nat.reduceEqDiff,Nat.reduceGT,Nat.reduceBEq,reduceCtorEq,↓reduceIte,Int.reduceToNat,Int.reduceLE,Int.reduceLT,Int.reduceNe,Int.reduceEq];refine bw [] l.length [0,1,7,8,9] (fun a=>[(9,dI a)]) (fun _=>S) (fun a=>Mo up l a) mx (by kernel_rfl) ?_ ?_
 ·simp(maxDischargeDepth:=12) (maxSteps:=1000000) -implicitDefEqProofs only[go_sem,Nat.reduceAdd,Nat.reduceSub,Nat.reduceMul,Nat.reduceLeDiff,Nat.reduceEqDiff,Nat.reduceGT,Nat.reduceBEq,reduceCtorEq,↓reduceIte,Int.reduceToNat,Int.reduceLE,Int.reduceLT,Int.reduceNe,Int.reduceEq];intro a ha;omega
 ·intro a ha hA;simp(maxDischargeDepth:=12) (maxSteps:=1000000) -implicitDefEqProofs only[go_sem,Nat.reduceAdd,Nat.reduceSub,Nat.reduceMul,Nat.reduceLeDiff,Nat.reduceEqDiff,Nat.reduceGT,Nat.reduceBEq,reduceCtorEq,↓reduceIte,Int.reduceToNat,Int.reduceLE,Int.reduceLT,Int.reduceNe,Int.reduceEq];refine⟨fun hla=>⟨hla,fun g hg b=>dL (Pv _ up hu g _) ?_⟩,fun hge=>?_⟩
  ·simp(maxDischargeDepth:=12) (maxSteps:=1000000) -implicitDefEqProofs only[go_sem,Nat.reduceAdd,Nat.reduceSub,Nat.reduceMul,Nat.reduceLeDiff,Nat.reduceEqDiff,Nat.reduceGT,Nat.reduceBEq,reduceCtorEq,↓reduceIte,Int.reduceToNat,Int.reduceLE,Int.reduceLT,Int.reduceNe,Int.reduceEq];refine⟨fun q hp=>?_,fun q=>?_⟩
   ·have:=hp.2.1 g (Rj hg);rw[q]at this;cases this
   ·refine⟨fun h0a=>?_,fun h0a=>⟨hla,kN hA (fun g' hg'=>by rw[hg]at hg';cases hg';exact q) (fun x y h=>by omega),ax (by omega)⟩⟩;rw[kx (show -9223372036854775808≤(a:Int)-1 by omega) (by omega)];refine⟨by omega,by omega,fun x hx=>?_⟩;rw[show((a:Int)-1).toNat=a-1 from by omega]at hx;refine dL (Eu _ x g _) ?_;simp(maxDischargeDepth:=12) (maxSteps:=1000000) -implicitDefEqProofs only[go_sem,Nat.reduceAdd,Nat.reduceSub,Nat.reduceMul,Nat.reduceLeDiff,Nat.reduceEqDiff,Nat.reduceGT,Nat.reduceBEq,reduceCtorEq,↓reduceIte,Int.reduceToNat,Int.reduceLE,Int.reduceLT,Int.reduceNe,Int.reduceEq];refine⟨fun q2=>⟨hla,kN hA (fun g' hg'=>by rw[hg]at hg';cases hg';exact q) (fun x' y' _ hx' hy'=>by rw[hx]at hx';rw[hg]at hy';cases hx';cases hy';exact q2),ax (by omega)⟩,fun q2 hp=>?_⟩;have:=((nk.1 hp).2 a hla).2 x g (by omega) hx hg;rw[q2]at this;cases this
  ·have e:a=l.length:=by omega
   subst e;rw[nk];exact⟨fun h=>⟨by omega,hA⟩,fun h=>by omega⟩
theorem Qs(w0:W0)(up:List Nat)(hu:dD up)(l:List G)(h0:l.length≤4611686018427387904)(S:St):ab Tryz.prog w0 41 [eH up,lN l] S (fun d S'=>d=dB (pB (I4 up l))∧S'=S):=by
 refine cR [] mx Tryz.func41 rfl rfl (by kernel_rfl) ?_;simp(maxDischargeDepth:=12) (maxSteps:=1000000) -implicitDefEqProofs only[Tryz.ntmps41,go_sem,Nat.reduceAdd,Nat.reduceSub,Nat.reduceMul,Nat.reduceLeDiff,Nat.reduceEqDiff,Nat.reduceGT,Nat.reduceBEq,reduceCtorEq,↓reduceIte,Int.reduceToNat,Int.reduceLE,Int.reduceLT,Int.reduceNe,Int.reduceEq];refine⟨fun h hp=>by have:=hp.1;omega,fun hl=>?_⟩;refine bw [] l.length [0,1,5] (fun a=>[(5,dI a)]) (fun _=>S) (fun a=>Mo up l a) mx (by kernel_rfl) ?_ ?_
 ·simp(maxDischargeDepth:=12) (maxSteps:=1000000) -implicitDefEqProofs only[go_sem,Nat.reduceAdd,Nat.reduceSub,Nat.reduceMul,Nat.reduceLeDiff,Nat.reduceEqDiff,Nat.reduceGT,Nat.reduceBEq,reduceCtorEq,↓reduceIte,Int.reduceToNat,Int.reduceLE,Int.reduceLT,Int.reduceNe,Int.reduceEq];intro a ha;omega
 ·intro a ha hA;simp(maxDischargeDepth:=12) (maxSteps:=1000000) -implicitDefEqProofs only[go_sem,Nat.reduceAdd,Nat.reduceSub,Nat.reduceMul,Nat.reduceLeDiff,Nat.reduceEqDiff,Nat.reduceGT,Nat.reduceBEq,reduceCtorEq,↓reduceIte,Int.reduceToNat,Int.reduceLE,Int.reduceLT,Int.reduceNe,Int.reduceEq];refine⟨fun hla=>⟨hla,fun g hg=>aq (O7 _ up hu g _) ?_⟩,fun hge=>?_⟩
  ·simp(maxDischargeDepth:=12) (maxSteps:=1000000) -implicitDefEqProofs only[go_sem,Nat.reduceAdd,Nat.reduceSub,Nat.reduceMul,Nat.reduceLeDiff,Nat.reduceEqDiff,Nat.reduceGT,Nat.reduceBEq,reduceCtorEq,↓reduceIte,Int.reduceToNat,Int.reduceLE,Int.reduceLT,Int.reduceNe,Int.reduceEq];refine⟨fun q hp=>?_,fun q=>?_⟩
   ·have:=hp.2.1 g (Rj hg);rw[q]at this;cases this
   ·refine⟨fun h0a=>?_,fun h0a=>⟨hla,kN hA (fun g' hg'=>by rw[hg]at hg';cases hg';exact q) (fun x y h=>by omega),ax (by omega)⟩⟩;rw[kx (show -9223372036854775808≤(a:Int)-1 by omega) (by omega)];refine⟨by omega,by omega,fun x hx=>?_⟩;rw[show((a:Int)-1).toNat=a-1 from by omega]at hx;refine⟨hla,fun y hy=>?_⟩;rw[hg]at hy;cases hy;refine dL (Jk _ x g _) ?_;simp(maxDischargeDepth:=12) (maxSteps:=1000000) -implicitDefEqProofs only[go_sem,Nat.reduceAdd,Nat.reduceSub,Nat.reduceMul,Nat.reduceLeDiff,Nat.reduceEqDiff,Nat.reduceGT,Nat.reduceBEq,reduceCtorEq,↓reduceIte,Int.reduceToNat,Int.reduceLE,Int.reduceLT,Int.reduceNe,Int.reduceEq];refine⟨fun q2=>⟨hla,kN hA (fun g' hg'=>by rw[hg]at hg';cases hg';exact q) (fun x' y' _ hx' hy'=>by rw[hx]at hx';rw[hg]at hy';cases hx';cases hy';exact q2),ax (by omega)⟩,fun q2 hp=>?_⟩;have:=((nk.1 hp).2 a hla).2 x g (by omega) hx hg;rw[q2]at this;cases this
  ·have e:a=l.length:=by omega
   subst e;exact nk.2 ⟨by omega,hA⟩
theorem O5(w0:W0)(l:List G)(g:G)(h0:l.length≤4611686018427387904)(S:St):ab Tryz.prog w0 103 [lN l,gD g] S (fun d S'=>d=dB (decide (g∈l))∧S'=S):=by
 refine cR [] mx Tryz.func103 rfl rfl (by kernel_rfl) ?_;simp(maxDischargeDepth:=12) (maxSteps:=1000000) -implicitDefEqProofs only[Tryz.ntmps103,go_sem,Nat.reduceAdd,Nat.reduceSub,Nat.reduceMul,Nat.reduceLeDiff,Nat.reduceEqDiff,Nat.reduceGT,Nat.reduceBEq,reduceCtorEq,↓reduceIte,Int.reduceToNat,Int.reduceLE,Int.reduceLT,Int.reduceNe,Int.reduceEq];intro b;refine bw [] l.length [0,3,5] (fun a=>[(5,dI a)]) (fun _=>⟨(b.n,[dI g.a,dI g.f,dI g.t])::S.box,S.acc⟩) (fun a=>g∉l.take a) mx (by kernel_rfl) ?_ ?_
 ·simp(maxDischargeDepth:=12) (maxSteps:=1000000) -implicitDefEqProofs only[go_sem,Nat.reduceAdd,Nat.reduceSub,Nat.reduceMul,Nat.reduceLeDiff,Nat.reduceEqDiff,Nat.reduceGT,Nat.reduceBEq,reduceCtorEq,↓reduceIte,Int.reduceToNat,Int.reduceLE,Int.reduceLT,Int.reduceNe,Int.reduceEq];exact SL
 ·intro a ha hA;simp(maxDischargeDepth:=12) (maxSteps:=1000000) -implicitDefEqProofs only[go_sem,Nat.reduceAdd,Nat.reduceSub,Nat.reduceMul,Nat.reduceLeDiff,Nat.reduceEqDiff,Nat.reduceGT,Nat.reduceBEq,reduceCtorEq,↓reduceIte,Int.reduceToNat,Int.reduceLE,Int.reduceLT,Int.reduceNe,Int.reduceEq]
  have key:∀x:G,(decide (x.a=g.a)&&decide (x.f=g.f)&&decide (x.t=g.t))=decide (x=g):=fun x=>by
   rw[Bool.eq_iff_iff];simp only[Rm,decide_eq_true_eq];obtain⟨a,f,t⟩:=x;obtain⟨a',f',t'⟩:=g;simp only[G.mk.injEq,and_assoc]
  refine⟨fun hla=>⟨hla,fun x hx=>⟨fun q=>?_,fun q=>⟨hla,fun hm=>?_,ax (by omega)⟩⟩⟩,fun hge=>?_⟩
  ·rw[key,decide_eq_true_eq]at q;exact q▸Rj hx
  ·rw[key,decide_eq_false_iff_not]at q;rw[Sm,hx]at hm;rcases RB.1 hm with hm|hm
   ·exact hA hm
   ·simp only[Option.toList_some,RX]at hm;exact q hm.symm
  ·rw[RN (by omega)]at hA;exact hA
end Go.Proofs.YtiihljlagmmljaaGreatDoor
namespace Go.Proofs
open Go.Shelf
def Tryz.mI:Go.Shelf.Ren:=⟨fun|156=>45|165=>76|166=>44|169=>48|240=>75|241=>112|276=>111|277=>130|n=>n,fun|31=>23|9=>9|3=>3|4=>4|0=>0|20=>20|72=>71|76=>74|70=>69|37=>38|75=>73|127=>112|164=>136|5=>5|80=>80|n=>n,fun|n=>n⟩
theorem Tryz.Is:Go.Proofs.Lays.n156 Tryz.prog Tryz.mI:={
 mixed:=by kernel_rfl
 f156:=Tryz.func45.trans (congrArg some (by kernel_rfl))
 f165:=Tryz.func76.trans (congrArg some (by kernel_rfl))
 f166:=Tryz.func44.trans (congrArg some (by kernel_rfl))
 f169:=Tryz.func48.trans (congrArg some (by kernel_rfl))
 f240:=Tryz.func75.trans (congrArg some (by kernel_rfl))
 f241:=Tryz.func112.trans (congrArg some (by kernel_rfl))
 f276:=Tryz.func111.trans (congrArg some (by kernel_rfl))
 f277:=Tryz.func130.trans (congrArg some (by kernel_rfl))
 t0:=Tryz.underlying0
 a0:=Tryz.isAgg0
 z0:=Tryz.sizeOf0
 v0:=Tryz.zeroValue0
 t3:=Tryz.underlying3
 a3:=Tryz.isAgg3
 z3:=Tryz.sizeOf3
 v3:=Tryz.zeroValue3
 t4:=Tryz.underlying4
 a4:=Tryz.isAgg4
 z4:=Tryz.sizeOf4
 v4:=Tryz.zeroValue4
 t9:=Tryz.underlying9
 a9:=Tryz.isAgg9
 z9:=Tryz.sizeOf9
 v9:=Tryz.zeroValue9
 t20:=Tryz.underlying20
 a20:=Tryz.isAgg20
 z20:=Tryz.sizeOf20
 v20:=Tryz.zeroValue20
 t31:=Tryz.underlying23
 a31:=Tryz.isAgg23
 z31:=Tryz.sizeOf23
 v31:=Tryz.zeroValue23
 t37:=Tryz.underlying38
 a37:=Tryz.isAgg38
 z37:=Tryz.sizeOf38
 v37:=Tryz.zeroValue38
 t70:=Tryz.underlying69
 a70:=Tryz.isAgg69
 z70:=Tryz.sizeOf69
 v70:=Tryz.zeroValue69
 t72:=Tryz.underlying71
 a72:=Tryz.isAgg71
 z72:=Tryz.sizeOf71
 v72:=Tryz.zeroValue71
 t75:=Tryz.underlying73
 a75:=Tryz.isAgg73
 z75:=Tryz.sizeOf73
 v75:=Tryz.zeroValue73
 t76:=Tryz.underlying74
 a76:=Tryz.isAgg74
 z76:=Tryz.sizeOf74
 v76:=Tryz.zeroValue74
 t127:=Tryz.underlying112
 a127:=Tryz.isAgg112
 z127:=Tryz.sizeOf112
 v127:=Tryz.zeroValue112
 t164:=Tryz.underlying136
 a164:=Tryz.isAgg136
 z164:=Tryz.sizeOf136
 v164:=Tryz.zeroValue136}
theorem Tryz.kz:Builder.Extra Tryz.prog Tryz.mI:={
 sizeBuilder:=by kernel_rfl
 liesBuilder:=by kernel_rfl
 t5:=Tryz.underlying5
 a5:=Tryz.isAgg5
 z5:=Tryz.sizeOf5
 v5:=Tryz.zeroValue5
 infoByte:=by kernel_rfl
 cellsByte:=by kernel_rfl
 sizeByte:=by kernel_rfl
 neB5:=by decide}
open Go.RowKit in
theorem Tryz.strings_Join(bk o c:Nat)(xs:List ByteArray)(sep:ByteArray)(w:World)(hcells:∀(j:Nat) x,xs[j]? =some x→w.cell? ⟨bk,o+j,none⟩=some (.string x))(hbk:bk<w.heap.size)(hN:xs.length≤140737488355328)(hcap:xs.length≤c)(hlen:(Lib.join (xs.map (·.data.toList)) sep.data.toList).length≤140737488355328):
 Calls Tryz.prog 45 #[.slice (some ⟨bk,o,none⟩) xs.length c,.string sep] w fun e w'=>e= .returned (.string ⟨(Lib.join (xs.map (·.data.toList)) sep.data.toList).toArray⟩)∧Below w.heap.size w w':=Any.strings_Join Tryz.Is Tryz.kz bk o c xs sep w hcells hbk hN hcap hlen
def Tryz.sx:Go.Shelf.Ren:=⟨fun|171=>46|243=>77|246=>113|283=>131|284=>132|285=>133|286=>134|129=>100|317=>150|318=>151|319=>152|320=>153|337=>164|338=>115|n=>n,fun|3=>3|9=>9|2=>2|4=>4|171=>150|0=>0|53=>40|37=>38|5=>5|173=>152|212=>168|51=>128|20=>20|213=>169|46=>94|232=>187|233=>154|n=>n,fun|17=>4|18=>7|19=>2|n=>n⟩
theorem Tryz.F5:Go.Proofs.LaysM.n171 Tryz.prog Tryz.sx:={
 mixed:=by kernel_rfl
 f129:=Tryz.func100.trans (congrArg some (by kernel_rfl))
 f171:=Tryz.func46.trans (congrArg some (by kernel_rfl))
 f243:=Tryz.func77.trans (congrArg some (by kernel_rfl))
 f246:=Tryz.func113.trans (congrArg some (by kernel_rfl))
 f283:=Tryz.func131.trans (congrArg some (by kernel_rfl))
 f284:=Tryz.func132.trans (congrArg some (by kernel_rfl))
 f285:=Tryz.func133.trans (congrArg some (by kernel_rfl))
 f286:=Tryz.func134.trans (congrArg some (by kernel_rfl))
 f317:=Tryz.func150.trans (congrArg some (by kernel_rfl))
 f318:=Tryz.func151.trans (congrArg some (by kernel_rfl))
 f319:=Tryz.func152.trans (congrArg some (by kernel_rfl))
 f320:=Tryz.func153.trans (congrArg some (by kernel_rfl))
 f337:=Tryz.func164.trans (congrArg some (by kernel_rfl))
 f338:=Tryz.func115.trans (congrArg some (by kernel_rfl))
 t0:=Tryz.underlying0
 a0:=Tryz.isAgg0
 z0:=Tryz.sizeOf0
 v0:=Tryz.zeroValue0
 t2:=Tryz.underlying2
 a2:=Tryz.isAgg2
 z2:=Tryz.sizeOf2
 v2:=Tryz.zeroValue2
 t3:=Tryz.underlying3
 a3:=Tryz.isAgg3
 z3:=Tryz.sizeOf3
 v3:=Tryz.zeroValue3
 t4:=Tryz.underlying4
 a4:=Tryz.isAgg4
 z4:=Tryz.sizeOf4
 v4:=Tryz.zeroValue4
 t5:=Tryz.underlying5
 a5:=Tryz.isAgg5
 z5:=Tryz.sizeOf5
 v5:=Tryz.zeroValue5
 t9:=Tryz.underlying9
 a9:=Tryz.isAgg9
 z9:=Tryz.sizeOf9
 v9:=Tryz.zeroValue9
 t20:=Tryz.underlying20
 a20:=Tryz.isAgg20
 z20:=Tryz.sizeOf20
 v20:=Tryz.zeroValue20
 t37:=Tryz.underlying38
 a37:=Tryz.isAgg38
 z37:=Tryz.sizeOf38
 v37:=Tryz.zeroValue38
 t46:=Tryz.underlying94
 a46:=Tryz.isAgg94
 z46:=Tryz.sizeOf94
 v46:=Tryz.zeroValue94
 t51:=Tryz.underlying128
 a51:=Tryz.isAgg128
 z51:=Tryz.sizeOf128
 v51:=Tryz.zeroValue128
 t53:=Tryz.underlying40
 a53:=Tryz.isAgg40
 z53:=Tryz.sizeOf40
 v53:=Tryz.zeroValue40
 t171:=Tryz.underlying150
 a171:=Tryz.isAgg150
 z171:=Tryz.sizeOf150
 v171:=Tryz.zeroValue150
 t173:=Tryz.underlying152
 a173:=Tryz.isAgg152
 z173:=Tryz.sizeOf152
 v173:=Tryz.zeroValue152
 t212:=Tryz.underlying168
 a212:=Tryz.isAgg168
 z212:=Tryz.sizeOf168
 v212:=Tryz.zeroValue168
 t213:=Tryz.underlying169
 a213:=Tryz.isAgg169
 z213:=Tryz.sizeOf169
 t232:=Tryz.underlying187
 a232:=Tryz.isAgg187
 z232:=Tryz.sizeOf187
 v232:=Tryz.zeroValue187
 t233:=Tryz.underlying154
 a233:=Tryz.isAgg154
 z233:=Tryz.sizeOf154
 v233:=Tryz.zeroValue154
 g17:=by kernel_rfl
 g18:=by kernel_rfl
 g19:=by kernel_rfl
 i0:=by kernel_rfl
 i2:=by kernel_rfl
 i3:=by kernel_rfl
 i4:=by kernel_rfl
 i5:=by kernel_rfl
 i9:=by kernel_rfl
 i20:=by kernel_rfl
 i37:=by kernel_rfl
 i46:=by kernel_rfl
 i51:=by kernel_rfl
 i53:=by kernel_rfl
 i171:=by kernel_rfl
 i173:=by kernel_rfl
 i212:=by kernel_rfl
 i232:=by kernel_rfl
 i233:=by kernel_rfl
 m17:=by kernel_rfl
 m18:=by kernel_rfl
 m19:=by kernel_rfl}
open Go.RowKit Go.Sort Go.Lib in
theorem Tryz.strconv_Itoa(n:Int)(h0: -9223372036854775808≤n)(h1:n≤9223372036854775807)(w:World)(htab:Lib.TabIs Tryz.prog w "internal/strconv.uint64pow10" .u64 Lib.pow10Tab):
 Calls Tryz.prog 46 #[.int .i64 n] w fun e w'=>e= .returned (.string ⟨(Lib.itoa n).toArray⟩)∧∃k os,w'=grow (w.drewN k) os:=Any.strconv_Itoa Tryz.F5 n h0 h1 w htab
def Tryz.sy:Go.Shelf.Ren:=⟨fun|172=>121|244=>147|245=>148|247=>159|279=>160|280=>161|281=>162|282=>163|287=>167|316=>168|171=>46|205=>169|321=>172|322=>173|243=>77|246=>113|283=>131|284=>132|285=>133|286=>134|129=>100|317=>150|318=>151|319=>152|320=>153|337=>164|338=>115|n=>n,fun|9=>9|3=>3|75=>73|76=>74|4=>4|5=>5|167=>174|37=>38|0=>0|85=>175|2=>2|168=>177|53=>40|175=>181|46=>94|210=>185|127=>112|145=>191|143=>189|21=>21|171=>150|173=>152|212=>168|51=>128|20=>20|213=>169|232=>187|233=>154|80=>80|n=>n,fun|15=>5|16=>6|17=>4|18=>7|19=>2|n=>n⟩
theorem Tryz.o5:Go.Proofs.LaysC.n172 Tryz.prog Tryz.sy:={
 mixed:=by kernel_rfl
 f129:=Tryz.func100.trans (congrArg some (by kernel_rfl))
 f171:=Tryz.func46.trans (congrArg some (by kernel_rfl))
 f172:=Tryz.func121.trans (congrArg some (by kernel_rfl))
 f205:=Tryz.func169.trans (congrArg some (by kernel_rfl))
 f243:=Tryz.func77.trans (congrArg some (by kernel_rfl))
 f244:=Tryz.func147.trans (congrArg some (by kernel_rfl))
 f245:=Tryz.func148.trans (congrArg some (by kernel_rfl))
 f246:=Tryz.func113.trans (congrArg some (by kernel_rfl))
 f247:=Tryz.func159.trans (congrArg some (by kernel_rfl))
 f279:=Tryz.func160.trans (congrArg some (by kernel_rfl))
 f280:=Tryz.func161.trans (congrArg some (by kernel_rfl))
 f281:=Tryz.func162.trans (congrArg some (by kernel_rfl))
 f282:=Tryz.func163.trans (congrArg some (by kernel_rfl))
 f283:=Tryz.func131.trans (congrArg some (by kernel_rfl))
 f284:=Tryz.func132.trans (congrArg some (by kernel_rfl))
 f285:=Tryz.func133.trans (congrArg some (by kernel_rfl))
 f286:=Tryz.func134.trans (congrArg some (by kernel_rfl))
 f287:=Tryz.func167.trans (congrArg some (by kernel_rfl))
 f316:=Tryz.func168.trans (congrArg some (by kernel_rfl))
 f317:=Tryz.func150.trans (congrArg some (by kernel_rfl))
 f318:=Tryz.func151.trans (congrArg some (by kernel_rfl))
 f319:=Tryz.func152.trans (congrArg some (by kernel_rfl))
 f320:=Tryz.func153.trans (congrArg some (by kernel_rfl))
 f321:=Tryz.func172.trans (congrArg some (by kernel_rfl))
 f322:=Tryz.func173.trans (congrArg some (by kernel_rfl))
 f337:=Tryz.func164.trans (congrArg some (by kernel_rfl))
 f338:=Tryz.func115.trans (congrArg some (by kernel_rfl))
 t0:=Tryz.underlying0
 a0:=Tryz.isAgg0
 z0:=Tryz.sizeOf0
 v0:=Tryz.zeroValue0
 t2:=Tryz.underlying2
 a2:=Tryz.isAgg2
 z2:=Tryz.sizeOf2
 v2:=Tryz.zeroValue2
 t3:=Tryz.underlying3
 a3:=Tryz.isAgg3
 z3:=Tryz.sizeOf3
 v3:=Tryz.zeroValue3
 t4:=Tryz.underlying4
 a4:=Tryz.isAgg4
 z4:=Tryz.sizeOf4
 v4:=Tryz.zeroValue4
 t5:=Tryz.underlying5
 a5:=Tryz.isAgg5
 z5:=Tryz.sizeOf5
 v5:=Tryz.zeroValue5
 t9:=Tryz.underlying9
 a9:=Tryz.isAgg9
 z9:=Tryz.sizeOf9
 v9:=Tryz.zeroValue9
 t20:=Tryz.underlying20
 a20:=Tryz.isAgg20
 z20:=Tryz.sizeOf20
 v20:=Tryz.zeroValue20
 t21:=Tryz.underlying21
 a21:=Tryz.isAgg21
 z21:=Tryz.sizeOf21
 v21:=Tryz.zeroValue21
 t37:=Tryz.underlying38
 a37:=Tryz.isAgg38
 z37:=Tryz.sizeOf38
 v37:=Tryz.zeroValue38
 t46:=Tryz.underlying94
 a46:=Tryz.isAgg94
 z46:=Tryz.sizeOf94
 v46:=Tryz.zeroValue94
 t51:=Tryz.underlying128
 a51:=Tryz.isAgg128
 z51:=Tryz.sizeOf128
 v51:=Tryz.zeroValue128
 t53:=Tryz.underlying40
 a53:=Tryz.isAgg40
 z53:=Tryz.sizeOf40
 v53:=Tryz.zeroValue40
 t75:=Tryz.underlying73
 a75:=Tryz.isAgg73
 z75:=Tryz.sizeOf73
 v75:=Tryz.zeroValue73
 t76:=Tryz.underlying74
 a76:=Tryz.isAgg74
 z76:=Tryz.sizeOf74
 v76:=Tryz.zeroValue74
 t85:=Tryz.underlying175
 a85:=Tryz.isAgg175
 z85:=Tryz.sizeOf175
 v85:=Tryz.zeroValue175
 t127:=Tryz.underlying112
 a127:=Tryz.isAgg112
 z127:=Tryz.sizeOf112
 v127:=Tryz.zeroValue112
 t143:=Tryz.underlying189
 a143:=Tryz.isAgg189
 z143:=Tryz.sizeOf189
 v143:=Tryz.zeroValue189
 t145:=Tryz.underlying191
 a145:=Tryz.isAgg191
 z145:=Tryz.sizeOf191
 v145:=Tryz.zeroValue191
 t167:=Tryz.underlying174
 a167:=Tryz.isAgg174
 z167:=Tryz.sizeOf174
 v167:=Tryz.zeroValue174
 t168:=Tryz.underlying177
 a168:=Tryz.isAgg177
 z168:=Tryz.sizeOf177
 v168:=Tryz.zeroValue177
 t171:=Tryz.underlying150
 a171:=Tryz.isAgg150
 z171:=Tryz.sizeOf150
 v171:=Tryz.zeroValue150
 t173:=Tryz.underlying152
 a173:=Tryz.isAgg152
 z173:=Tryz.sizeOf152
 v173:=Tryz.zeroValue152
 t175:=Tryz.underlying181
 a175:=Tryz.isAgg181
 z175:=Tryz.sizeOf181
 v175:=Tryz.zeroValue181
 t210:=Tryz.underlying185
 a210:=Tryz.isAgg185
 z210:=Tryz.sizeOf185
 v210:=Tryz.zeroValue185
 t212:=Tryz.underlying168
 a212:=Tryz.isAgg168
 z212:=Tryz.sizeOf168
 v212:=Tryz.zeroValue168
 t213:=Tryz.underlying169
 a213:=Tryz.isAgg169
 z213:=Tryz.sizeOf169
 t232:=Tryz.underlying187
 a232:=Tryz.isAgg187
 z232:=Tryz.sizeOf187
 v232:=Tryz.zeroValue187
 t233:=Tryz.underlying154
 a233:=Tryz.isAgg154
 z233:=Tryz.sizeOf154
 v233:=Tryz.zeroValue154
 g15:=by kernel_rfl
 g16:=by kernel_rfl
 g17:=by kernel_rfl
 g18:=by kernel_rfl
 g19:=by kernel_rfl
 t80:=Tryz.underlying80
 a80:=Tryz.isAgg80
 z80:=Tryz.sizeOf80
 v80:=Tryz.zeroValue80
 i0:=by kernel_rfl
 i2:=by kernel_rfl
 i3:=by kernel_rfl
 i4:=by kernel_rfl
 i5:=by kernel_rfl
 i9:=by kernel_rfl
 i20:=by kernel_rfl
 i21:=by kernel_rfl
 i37:=by kernel_rfl
 i46:=by kernel_rfl
 i51:=by kernel_rfl
 i53:=by kernel_rfl
 i75:=by kernel_rfl
 i76:=by kernel_rfl
 i80:=by kernel_rfl
 i85:=by kernel_rfl
 i127:=by kernel_rfl
 i143:=by kernel_rfl
 i145:=by kernel_rfl
 i167:=by kernel_rfl
 i168:=by kernel_rfl
 i171:=by kernel_rfl
 i173:=by kernel_rfl
 i175:=by kernel_rfl
 i210:=by kernel_rfl
 i212:=by kernel_rfl
 i232:=by kernel_rfl
 i233:=by kernel_rfl
 m15:=by kernel_rfl
 m16:=by kernel_rfl
 m17:=by kernel_rfl
 m18:=by kernel_rfl
 m19:=by kernel_rfl
 c0:=by kernel_rfl
 c2:=by kernel_rfl
 c3:=by kernel_rfl
 c4:=by kernel_rfl
 c5:=by kernel_rfl
 c9:=by kernel_rfl
 c20:=by kernel_rfl
 c21:=by kernel_rfl
 c37:=by kernel_rfl
 c46:=by kernel_rfl
 c51:=by kernel_rfl
 c53:=by kernel_rfl
 c75:=by kernel_rfl
 c76:=by kernel_rfl
 c80:=by kernel_rfl
 c85:=by kernel_rfl
 c127:=by kernel_rfl
 c143:=by kernel_rfl
 c145:=by kernel_rfl
 c167:=by kernel_rfl
 c168:=by kernel_rfl
 c171:=by kernel_rfl
 c173:=by kernel_rfl
 c175:=by kernel_rfl
 c210:=by kernel_rfl
 c212:=by kernel_rfl
 c213:=by kernel_rfl
 c232:=by kernel_rfl
 c233:=by kernel_rfl}
open Go.RowKit in
theorem Tryz.strconv_Atoi_ok(s:ByteArray)(hmax:s.size≤9223372036854775806)(v:Int)(h:Lib.atoiAll s.data.toList= .ok v)(w:World):
 Calls Tryz.prog 121 #[.string s] w fun e w'=>e= .returned (.tuple #[.int .i64 v,.nilIface])∧(w'=w∨∃t,w'=Lib.bytesWorld w 5 t):=Any.strconv_Atoi_ok Tryz.o5 s hmax v h w
open Go.RowKit in
theorem Tryz.strconv_Atoi_syntax(s:ByteArray)(hlim:s.size≤281474976710656)(h:Lib.atoiAll s.data.toList= Lib.NumEnd.syntax)(ev:Value)(w:World)(hv:w.cell? ⟨5,0,none⟩=some ev)(hev:ev= .nilIface∨∃te pe,ev= .iface te pe):
 Calls Tryz.prog 121 #[.string s] w fun e w'=>∃N,e= .returned (.tuple #[.int .i64 (0),.iface 177 (.pointer (some ⟨N,0,none⟩))])∧w.heap.size≤N∧w'.heap[N]? =some (.cells #[.string ⟨#[65,116,111,105]⟩,.string s,ev] 185 (0,0))∧Below w.heap.size w w':=Any.strconv_Atoi_syntax Tryz.o5 s hlim h ev w hv hev
open Go.RowKit in
theorem Tryz.strconv_Atoi_range(s:ByteArray)(hlim:s.size≤281474976710656)(h:Lib.atoiAll s.data.toList= .range)(ev:Value)(w:World)(hv:w.cell? ⟨6,0,none⟩=some ev)(hev:ev= .nilIface∨∃te pe,ev= .iface te pe):
 Calls Tryz.prog 121 #[.string s] w fun e w'=>∃N,e= .returned (.tuple #[.int .i64 (Lib.atoiSat s.data.toList),.iface 177 (.pointer (some ⟨N,0,none⟩))])∧w.heap.size≤N∧w'.heap[N]? =some (.cells #[.string ⟨#[65,116,111,105]⟩,.string s,ev] 185 (0,0))∧Below w.heap.size w w':=Any.strconv_Atoi_range Tryz.o5 s hlim h ev w hv hev
def Tryz.ue:Go.Shelf.Ren:=⟨fun|146=>19|221=>51|268=>79|138=>80|143=>81|195=>116|197=>117|218=>118|219=>119|260=>135|217=>136|225=>137|224=>138|267=>139|266=>154|314=>155|n=>n,fun|9=>9|31=>23|3=>3|4=>4|0=>0|105=>139|21=>21|5=>5|46=>94|119=>101|139=>104|138=>103|146=>170|51=>128|n=>n,fun|1=>3|3=>0|4=>1|n=>n⟩
theorem Tryz.Hf:Go.Proofs.Lays.n146 Tryz.prog Tryz.ue:={
 mixed:=by kernel_rfl
 f138:=Tryz.func80.trans (congrArg some (by kernel_rfl))
 f143:=Tryz.func81.trans (congrArg some (by kernel_rfl))
 f146:=Tryz.func19.trans (congrArg some (by kernel_rfl))
 f195:=Tryz.func116.trans (congrArg some (by kernel_rfl))
 f197:=Tryz.func117.trans (congrArg some (by kernel_rfl))
 f217:=Tryz.func136.trans (congrArg some (by kernel_rfl))
 f218:=Tryz.func118.trans (congrArg some (by kernel_rfl))
 f219:=Tryz.func119.trans (congrArg some (by kernel_rfl))
 f221:=Tryz.func51.trans (congrArg some (by kernel_rfl))
 f224:=Tryz.func138.trans (congrArg some (by kernel_rfl))
 f225:=Tryz.func137.trans (congrArg some (by kernel_rfl))
 f260:=Tryz.func135.trans (congrArg some (by kernel_rfl))
 f266:=Tryz.func154.trans (congrArg some (by kernel_rfl))
 f267:=Tryz.func139.trans (congrArg some (by kernel_rfl))
 f268:=Tryz.func79.trans (congrArg some (by kernel_rfl))
 f314:=Tryz.func155.trans (congrArg some (by kernel_rfl))
 t0:=Tryz.underlying0
 a0:=Tryz.isAgg0
 z0:=Tryz.sizeOf0
 v0:=Tryz.zeroValue0
 t3:=Tryz.underlying3
 a3:=Tryz.isAgg3
 z3:=Tryz.sizeOf3
 v3:=Tryz.zeroValue3
 t4:=Tryz.underlying4
 a4:=Tryz.isAgg4
 z4:=Tryz.sizeOf4
 v4:=Tryz.zeroValue4
 t5:=Tryz.underlying5
 a5:=Tryz.isAgg5
 z5:=Tryz.sizeOf5
 v5:=Tryz.zeroValue5
 t9:=Tryz.underlying9
 a9:=Tryz.isAgg9
 z9:=Tryz.sizeOf9
 v9:=Tryz.zeroValue9
 t21:=Tryz.underlying21
 a21:=Tryz.isAgg21
 z21:=Tryz.sizeOf21
 v21:=Tryz.zeroValue21
 t31:=Tryz.underlying23
 a31:=Tryz.isAgg23
 z31:=Tryz.sizeOf23
 v31:=Tryz.zeroValue23
 t46:=Tryz.underlying94
 a46:=Tryz.isAgg94
 z46:=Tryz.sizeOf94
 v46:=Tryz.zeroValue94
 t51:=Tryz.underlying128
 a51:=Tryz.isAgg128
 z51:=Tryz.sizeOf128
 v51:=Tryz.zeroValue128
 t105:=Tryz.underlying139
 a105:=Tryz.isAgg139
 z105:=Tryz.sizeOf139
 v105:=Tryz.zeroValue139
 t119:=Tryz.underlying101
 a119:=Tryz.isAgg101
 z119:=Tryz.sizeOf101
 t138:=Tryz.underlying103
 a138:=Tryz.isAgg103
 z138:=Tryz.sizeOf103
 v138:=Tryz.zeroValue103
 t139:=Tryz.underlying104
 a139:=Tryz.isAgg104
 z139:=Tryz.sizeOf104
 v139:=Tryz.zeroValue104
 t146:=Tryz.underlying170
 a146:=Tryz.isAgg170
 z146:=Tryz.sizeOf170
 v146:=Tryz.zeroValue170
 g1:=by kernel_rfl
 g3:=by kernel_rfl
 g4:=by kernel_rfl}
open Go.RowKit Go.Lib in
theorem Tryz.strings_Split(s sep:ByteArray)(m:Int)(w:World)(hs:s.size<4294967281)(hm:w.cell? ⟨3,0,none⟩=some (.int .i64 m))(h1:1≤sep.size):
 Calls Tryz.prog 19 #[.string s,.string sep] w fun e w'=>
  e= .returned (.slice (some ⟨w.heap.size,0,none⟩) (Lib.countB s sep+1) (Lib.countB s sep+1))∧w'=w.alloc (.cells ((Lib.splitB sep 0 (Lib.countB s sep) s).map Value.string).toArray 9):=Any.strings_Split Tryz.Hf (by kernel_rfl) s sep m w hs hm h1
def Tryz.vF:Go.Shelf.Ren:=⟨fun|196=>33|259=>64|n=>n,fun|9=>9|4=>4|3=>3|5=>5|12=>12|119=>101|0=>0|46=>94|139=>104|138=>103|53=>40|n=>n,fun|3=>0|4=>1|n=>n⟩
theorem Tryz.zh:Go.Proofs.Lays.n196 Tryz.prog Tryz.vF:={
 mixed:=by kernel_rfl
 f196:=Tryz.func33.trans (congrArg some (by kernel_rfl))
 f259:=Tryz.func64.trans (congrArg some (by kernel_rfl))
 t0:=Tryz.underlying0
 a0:=Tryz.isAgg0
 z0:=Tryz.sizeOf0
 v0:=Tryz.zeroValue0
 t3:=Tryz.underlying3
 a3:=Tryz.isAgg3
 z3:=Tryz.sizeOf3
 v3:=Tryz.zeroValue3
 t4:=Tryz.underlying4
 a4:=Tryz.isAgg4
 z4:=Tryz.sizeOf4
 v4:=Tryz.zeroValue4
 t5:=Tryz.underlying5
 a5:=Tryz.isAgg5
 z5:=Tryz.sizeOf5
 v5:=Tryz.zeroValue5
 t9:=Tryz.underlying9
 a9:=Tryz.isAgg9
 z9:=Tryz.sizeOf9
 v9:=Tryz.zeroValue9
 t12:=Tryz.underlying12
 a12:=Tryz.isAgg12
 z12:=Tryz.sizeOf12
 v12:=Tryz.zeroValue12
 t46:=Tryz.underlying94
 a46:=Tryz.isAgg94
 z46:=Tryz.sizeOf94
 v46:=Tryz.zeroValue94
 t53:=Tryz.underlying40
 a53:=Tryz.isAgg40
 z53:=Tryz.sizeOf40
 v53:=Tryz.zeroValue40
 t119:=Tryz.underlying101
 a119:=Tryz.isAgg101
 z119:=Tryz.sizeOf101
 t138:=Tryz.underlying103
 a138:=Tryz.isAgg103
 z138:=Tryz.sizeOf103
 v138:=Tryz.zeroValue103
 t139:=Tryz.underlying104
 a139:=Tryz.isAgg104
 z139:=Tryz.sizeOf104
 v139:=Tryz.zeroValue104
 g3:=by kernel_rfl
 g4:=by kernel_rfl}
def Tryz.ur:Go.Shelf.Ren:=⟨fun|160=>120|232=>141|231=>140|227=>142|234=>144|233=>143|236=>146|235=>145|228=>156|271=>158|151=>157|197=>117|120=>166|152=>165|260=>135|137=>170|119=>171|224=>138|225=>137|217=>136|266=>154|n=>n,fun|9=>9|4=>4|3=>3|5=>5|117=>159|116=>158|0=>0|124=>162|21=>21|105=>139|46=>94|119=>101|139=>104|138=>103|n=>n,fun|3=>0|4=>1|n=>n⟩
theorem Tryz.Ha:Go.Proofs.Lays.n160 Tryz.prog Tryz.ur:={
 mixed:=by kernel_rfl
 f119:=Tryz.func171.trans (congrArg some (by kernel_rfl))
 f120:=Tryz.func166.trans (congrArg some (by kernel_rfl))
 f137:=Tryz.func170.trans (congrArg some (by kernel_rfl))
 f151:=Tryz.func157.trans (congrArg some (by kernel_rfl))
 f152:=Tryz.func165.trans (congrArg some (by kernel_rfl))
 f160:=Tryz.func120.trans (congrArg some (by kernel_rfl))
 f197:=Tryz.func117.trans (congrArg some (by kernel_rfl))
 f217:=Tryz.func136.trans (congrArg some (by kernel_rfl))
 f224:=Tryz.func138.trans (congrArg some (by kernel_rfl))
 f225:=Tryz.func137.trans (congrArg some (by kernel_rfl))
 f227:=Tryz.func142.trans (congrArg some (by kernel_rfl))
 f228:=Tryz.func156.trans (congrArg some (by kernel_rfl))
 f231:=Tryz.func140.trans (congrArg some (by kernel_rfl))
 f232:=Tryz.func141.trans (congrArg some (by kernel_rfl))
 f233:=Tryz.func143.trans (congrArg some (by kernel_rfl))
 f234:=Tryz.func144.trans (congrArg some (by kernel_rfl))
 f235:=Tryz.func145.trans (congrArg some (by kernel_rfl))
 f236:=Tryz.func146.trans (congrArg some (by kernel_rfl))
 f260:=Tryz.func135.trans (congrArg some (by kernel_rfl))
 f266:=Tryz.func154.trans (congrArg some (by kernel_rfl))
 f271:=Tryz.func158.trans (congrArg some (by kernel_rfl))
 t0:=Tryz.underlying0
 a0:=Tryz.isAgg0
 z0:=Tryz.sizeOf0
 v0:=Tryz.zeroValue0
 t3:=Tryz.underlying3
 a3:=Tryz.isAgg3
 z3:=Tryz.sizeOf3
 v3:=Tryz.zeroValue3
 t4:=Tryz.underlying4
 a4:=Tryz.isAgg4
 z4:=Tryz.sizeOf4
 v4:=Tryz.zeroValue4
 t5:=Tryz.underlying5
 a5:=Tryz.isAgg5
 z5:=Tryz.sizeOf5
 v5:=Tryz.zeroValue5
 t9:=Tryz.underlying9
 a9:=Tryz.isAgg9
 z9:=Tryz.sizeOf9
 v9:=Tryz.zeroValue9
 t21:=Tryz.underlying21
 a21:=Tryz.isAgg21
 z21:=Tryz.sizeOf21
 v21:=Tryz.zeroValue21
 t46:=Tryz.underlying94
 a46:=Tryz.isAgg94
 z46:=Tryz.sizeOf94
 v46:=Tryz.zeroValue94
 t105:=Tryz.underlying139
 a105:=Tryz.isAgg139
 z105:=Tryz.sizeOf139
 v105:=Tryz.zeroValue139
 t116:=Tryz.underlying158
 a116:=Tryz.isAgg158
 z116:=Tryz.sizeOf158
 t117:=Tryz.underlying159
 a117:=Tryz.isAgg159
 z117:=Tryz.sizeOf159
 v117:=Tryz.zeroValue159
 t119:=Tryz.underlying101
 a119:=Tryz.isAgg101
 z119:=Tryz.sizeOf101
 t124:=Tryz.underlying162
 a124:=Tryz.isAgg162
 z124:=Tryz.sizeOf162
 v124:=Tryz.zeroValue162
 t138:=Tryz.underlying103
 a138:=Tryz.isAgg103
 z138:=Tryz.sizeOf103
 v138:=Tryz.zeroValue103
 t139:=Tryz.underlying104
 a139:=Tryz.isAgg104
 z139:=Tryz.sizeOf104
 v139:=Tryz.zeroValue104
 g3:=by kernel_rfl
 g4:=by kernel_rfl}
end Go.Proofs
namespace Rn
open Go
abbrev dl(l:List UInt8):Nat×Nat:=Lib.decodeL l
theorem p8(l:List UInt8):1≤(dl l).2:=Lib.decodeL_width l
def ni(p:Nat×Nat):Prop:=¬(p.1=65533∧p.2=1)
instance (p:Nat×Nat):Decidable (ni p):=by unfold ni;exact inferInstance
theorem uF{p:Nat×Nat}(h:¬ni p):p=(65533,1):=by
 have h:p.1=65533∧p.2=1:=Decidable.byContradiction h;exact Prod.ext h.1 h.2
theorem bR{l y:List UInt8}{k:Nat}(h:k<l.length):(l++y).getD k 0=l.getD k 0:=by
 rw[Rl,RV h,←Rl]
theorem P0{n b0 b1 b2 b3:Nat}(c1:b0/32=6)(c2:1<n)(c3:b1/64=2)(cv:128≤b0%32*64+b1%64):Lib.decodeN n b0 b1 b2 b3=(b0%32*64+b1%64,2):=by
 unfold Lib.decodeN;rw[if_neg (by omega),if_pos ⟨c1,c2,c3⟩,if_pos cv]
theorem Qa{n b0 b1 b2 b3:Nat}(h0:b0<256)(c1:b0/16=14)(c2:2<n)(c3:b1/64=2)(c4:b2/64=2)(cv:2048≤b0%16*4096+b1%64*64+b2%64)(cs:b0%16*4096+b1%64*64+b2%64<55296∨57344≤b0%16*4096+b1%64*64+b2%64):Lib.decodeN n b0 b1 b2 b3=(b0%16*4096+b1%64*64+b2%64,3):=by
 unfold Lib.decodeN;rw[if_neg (by omega),if_neg (by omega),if_pos ⟨c1,⟨by omega,c3⟩,⟨c2,c4⟩⟩,if_pos ⟨cv,by omega⟩]
theorem PA{n b0 b1 b2 b3:Nat}(h0:b0<256)(c1:b0/8=30)(c2:3<n)(c3:b1/64=2)(c4:b2/64=2)(c5:b3/64=2)(cv:65536≤b0%8*262144+b1%64*4096+b2%64*64+b3%64)(cw:b0%8*262144+b1%64*4096+b2%64*64+b3%64≤1114111):Lib.decodeN n b0 b1 b2 b3=(b0%8*262144+b1%64*4096+b2%64*64+b3%64,4):=by
 unfold Lib.decodeN;rw[if_neg (by omega),if_neg (by omega),if_neg (by omega),if_pos ⟨c1,⟨by omega,c3⟩,⟨by omega,c4⟩,⟨c2,c5⟩⟩,if_pos ⟨cv,by omega⟩]
theorem En{l:List UInt8}(hne:l≠[])(hg:ni (dl l))(y:List UInt8):dl (l++y)=dl l:=by
 have hl:0<l.length:=Sv.2 hne;have e0:=bR (l:=l) (y:=y) hl;have k0:=(l.getD 0 0).toNat_lt;have hn:(l++y).length=l.length+y.length:=Rk;unfold dl at*;rw[Lib.decodeL_N]at hg;rw[Lib.decodeL_N,Lib.decodeL_N l,hn,e0];rcases Lib.decodeN_shape l.length (l.getD 0 0).toNat (l.getD 1 0).toNat (l.getD 2 0).toNat (l.getD 3 0).toNat with⟨c,e⟩|⟨c1,c2,c3,cv,e⟩|⟨c1,c2,c3,c4,cv,cs,e⟩|⟨c1,c2,c3,c4,c5,cv,cw,e⟩|e
 ·rw[e,Lib.decodeN_ascii _ _ _ _ _ c]
 ·rw[e,bR (l:=l) (y:=y) (by omega:1<l.length)];exact P0 c1 (by omega) c3 cv
 ·rw[e,bR (l:=l) (y:=y) (by omega:1<l.length),bR (l:=l) (y:=y) (by omega:2<l.length)];exact Qa k0 c1 (by omega) c3 c4 cv cs
 ·rw[e,bR (l:=l) (y:=y) (by omega:1<l.length),bR (l:=l) (y:=y) (by omega:2<l.length),bR (l:=l) (y:=y) (by omega:3<l.length)];exact PA k0 c1 (by omega) c3 c4 c5 cv cw
 ·rw[e]at hg;exact absurd ⟨rfl,rfl⟩ hg
theorem BS{l:List UInt8}{c:UInt8}{y:List UInt8}:(l++c::y).getD l.length 0=c:=by
 rw[Rl,RO (Ro _)];simp
theorem Lk{l:List UInt8}(hne:l≠[]){c:UInt8}(hc:c.toNat/64≠2)(y:List UInt8):dl (l++c::y)=dl l:=by
 by_cases hg:ni (dl l)
 ·exact En hne hg _
 ·have e1:=uF hg;by_cases hg2:ni (dl (l++c::y))
  ·exfalso
   have hl:0<l.length:=Sv.2 hne;have e0:=bR (l:=l) (y:=c::y) hl;have k0:=(l.getD 0 0).toNat_lt;have hh:=BS (l:=l) (c:=c) (y:=y);have gk:∀k,k<l.length∨k=l.length∨l.length<k:=fun k=>by omega
   unfold dl at*;rw[Lib.decodeL_N]at hg2 e1;rw[e0]at hg2;rcases Lib.decodeN_shape (l++c::y).length (l.getD 0 0).toNat ((l++c::y).getD 1 0).toNat ((l++c::y).getD 2 0).toNat ((l++c::y).getD 3 0).toNat with⟨c',e⟩|⟨c1,c2,c3,cv,e⟩|⟨c1,c2,c3,c4,cv,cs,e⟩|⟨c1,c2,c3,c4,c5,cv,cw,e⟩|e
   ·rw[Lib.decodeN_ascii _ _ _ _ _ c']at e1;have:=congrArg Prod.fst e1;dsimp only at this;omega
   ·rcases gk 1 with h|h|h
    ·rw[bR h]at c3 cv;rw[P0 c1 h c3 cv]at e1;cases congrArg Prod.snd e1
    ·rw[show(l++c::y).getD 1 0=c by rw[h];exact hh]at c3;exact hc c3
    ·omega
   ·have h1:1<l.length:=by
     rcases gk 1 with h|h|h
     ·exact h
     ·rw[show(l++c::y).getD 1 0=c by rw[h];exact hh]at c3;exact absurd c3 hc
     ·omega
    have h2:2<l.length:=by
     rcases gk 2 with h|h|h
     ·exact h
     ·rw[show(l++c::y).getD 2 0=c by rw[h];exact hh]at c4;exact absurd c4 hc
     ·omega
    rw[bR h1]at c3 cv cs;rw[bR h2]at c4 cv cs;rw[Qa k0 c1 h2 c3 c4 cv cs]at e1;cases congrArg Prod.snd e1
   ·have h1:1<l.length:=by
     rcases gk 1 with h|h|h
     ·exact h
     ·rw[show(l++c::y).getD 1 0=c by rw[h];exact hh]at c3;exact absurd c3 hc
     ·omega
    have h2:2<l.length:=by
     rcases gk 2 with h|h|h
     ·exact h
     ·rw[show(l++c::y).getD 2 0=c by rw[h];exact hh]at c4;exact absurd c4 hc
     ·omega
    have h3:3<l.length:=by
     rcases gk 3 with h|h|h
     ·exact h
     ·rw[show(l++c::y).getD 3 0=c by rw[h];exact hh]at c5;exact absurd c5 hc
     ·omega
    rw[bR h1]at c3 cv cw;rw[bR h2]at c4 cv cw;rw[bR h3]at c5 cv cw;rw[PA k0 c1 h3 c3 c4 c5 cv cw]at e1;cases congrArg Prod.snd e1
   ·rw[e]at hg2;exact hg2 ⟨rfl,rfl⟩
  ·rw[e1,uF hg2]
theorem Kw{c:UInt8}(hc:128≤c.toNat){y:List UInt8}(hy:∀d,y[0]? =some d→d.toNat/64≠2):dl (c::y)=(65533,1):=by
 unfold dl;rw[Lib.decodeL_N];refine Lib.decodeN_alone _ _ _ _ _ hc ?_
 cases y with
 |nil=>exact .inl (by simp)
 |cons d y=>exact .inr (hy d rfl)
theorem Cc{l:List UInt8}(hg:ni (dl l)):(l.getD 0 0).toNat/64≠2:=by
 intro h;unfold dl at hg;rw[Lib.decodeL_N,Lib.decodeN_cont _ _ _ _ _ h]at hg;exact hg ⟨rfl,rfl⟩
def iS:Nat→List UInt8→List (Nat×List UInt8)
 |0,_=>[]
 |n+1,l=>if l=[]then []else((dl l).1,l.take (dl l).2)::iS n (l.drop (dl l).2)
def ak(l:List UInt8):List (Nat×List UInt8):=iS l.length l
theorem dX(n:Nat):iS n []=[]:=by cases n <;>simp[iS]
theorem mE:∀(n m:Nat) (l:List UInt8),l.length≤n→l.length≤m→iS n l=iS m l
 |0,m,l,hn,_=>by
  have:l=[]:=Rs (by omega);subst this;rw[dX,dX]
 |n+1,0,l,_,hm=>by
  have:l=[]:=Rs (by omega);subst this;rw[dX,dX]
 |n+1,m+1,l,hn,hm=>by
  by_cases hne:l=[]
  ·subst hne;rw[dX,dX]
  ·have hw:=p8 l;have hl:=Sv.2 hne;simp only[iS,if_neg hne];rw[mE n m _ (by rw[RP];omega) (by rw[RP];omega)]
theorem dw:ak []=[]:=rfl
theorem bh{l:List UInt8}(hne:l≠[]):ak l=((dl l).1,l.take (dl l).2)::ak (l.drop (dl l).2):=by
 have hw:=p8 l;have hl:=Sv.2 hne;unfold ak;obtain⟨n,hn⟩:∃n,l.length=n+1:=⟨l.length-1,by omega⟩;rw[hn];simp only[iS,if_neg hne];rw[mE n _ _ (by rw[RP];omega) (Ro _)]
theorem eD{C:List UInt8→Prop}(h0:C [])(h1:∀l,l≠[]→C (l.drop (dl l).2)→C l):∀l,C l:=by
 intro l;generalize hn:l.length=n
 induction n using Nat.strongRecOn generalizing l with
 |_ n ih=>
  by_cases hne:l=[]
  ·subst hne;exact h0
  ·have hw:=p8 l;have hl:=Sv.2 hne;exact h1 l hne (ih (l.drop (dl l).2).length (by rw[RP,←hn];omega) _ rfl)
theorem dC(l:List UInt8):(ak l).length≤l.length:=by
 induction l using eD with
 |h0=>exact Ro _
 |h1 l hne ih=>
  rw[bh hne,Ru];have hw:=p8 l;have hl:=Sv.2 hne;rw[RP]at ih;omega
theorem iL(l:List UInt8):(ak l).flatMap (·.2)=l:=by
 induction l using eD with
 |h0=>rfl
 |h1 l hne ih=>rw[bh hne,Sd,ih,SC]
theorem Gf{l:List UInt8}(h:l≠[]):ak l≠[]:=by rw[bh h];simp
theorem vM{l y:List UInt8}{k:Nat}(h:k≤l.length):(l++y).drop k=l.drop k++y:=by
 rw[List.drop_append,show k-l.length=0 by omega];rfl
theorem uU{l y:List UInt8}{k:Nat}(h:k≤l.length):(l++y).take k=l.take k:=by
 rw[List.take_append,show k-l.length=0 by omega];simp
theorem qK{c:UInt8}(hc:c.toNat/64≠2)(y:List UInt8)(l:List UInt8):ak (l++c::y)=ak l++ak (c::y):=by
 induction l using eD with
 |h0=>rfl
 |h1 l hne ih=>
  have hle:=Lib.decodeL_le l hne;rw[bh (l:=l++c::y) (by simp),bh hne,Lk hne hc,uU hle,vM hle,ih];rfl
def gd(r:Nat×List UInt8):Prop:=ni (r.1,r.2.length)
def whole(l:List UInt8):Prop:=∀r,r∈ak l→gd r
theorem GP{l:List UInt8}(hne:l≠[]):gd ((dl l).1,l.take (dl l).2)↔ni (dl l):=by
 have hle:=Lib.decodeL_le l hne;unfold gd;rw[RA,Tu hle]
theorem fi{l:List UInt8}(hne:l≠[]):whole l↔ni (dl l)∧whole (l.drop (dl l).2):=by
 unfold whole;rw[bh hne];simp only[Rv,forall_eq_or_imp,GP hne]
theorem ji{l:List UInt8}(hw:whole l)(y:List UInt8):ak (l++y)=ak l++ak y:=by
 induction l using eD with
 |h0=>rfl
 |h1 l hne ih=>
  rw[fi hne]at hw;have hle:=Lib.decodeL_le l hne;rw[bh (l:=l++y) (by simp[hne]),bh hne,En hne hw.1,uU hle,vM hle,ih hw.2];rfl
theorem aM{c:UInt8}(hc:c.toNat<128)(y:List UInt8):ak (c::y)=(c.toNat,[c])::ak y:=by
 rw[bh (by simp)]
 have:dl (c::y)=(c.toNat,1):=by
  unfold dl;rw[Lib.decodeL_N];exact Lib.decodeN_ascii _ _ _ _ _ hc
 rw[this];rfl
theorem Ae{l y:List UInt8}(h1:whole l)(h2:whole y):whole (l++y):=by
 intro r hr;rw[ji h1,RB]at hr;exact hr.elim (h1 r) (h2 r)
theorem zn{l:List UInt8}{r:Nat×List UInt8}(h:r∈ak l)(h2:r.1<128):∃c:UInt8,r=(c.toNat,[c]):=by
 induction l using eD with
 |h0=>cases h
 |h1 l hne ih=>
  rw[bh hne]at h;rcases Rv.1 h with e|e
  ·subst e;have hl:0<l.length:=Sv.2 hne;have k0:=(l.getD 0 0).toNat_lt;unfold dl at*;rw[Lib.decodeL_N]at h2 ⊢;rcases Lib.decodeN_shape l.length (l.getD 0 0).toNat (l.getD 1 0).toNat (l.getD 2 0).toNat (l.getD 3 0).toNat with⟨c,e⟩|⟨c1,c2,c3,cv,e⟩|⟨c1,c2,c3,c4,cv,cs,e⟩|⟨c1,c2,c3,c4,c5,cv,cw,e⟩|e
   ·rw[e];exact⟨l.getD 0 0,by rw[Lib.takeA l hl]⟩
   ·rw[e]at h2;dsimp only at h2;omega
   ·rw[e]at h2;dsimp only at h2;omega
   ·rw[e]at h2;dsimp only at h2;omega
   ·rw[e]at h2;dsimp only at h2;omega
  ·exact ih e
end Rn
namespace Go.Proofs.YtiihljlagmmljaaGreatDoor
open Aml Go Go.RowKit Go.Shelf Go.Proofs
def Fb:Go.Shelf.Ren:=⟨fun|166=>44|169=>48|240=>75|276=>111|n=>n,fun|0=>0|3=>3|4=>4|5=>5|9=>9|20=>20|21=>21|37=>38|46=>94|51=>128|70=>69|72=>71|75=>73|127=>112|164=>136|n=>n,fun n=>n⟩
theorem Ba:Go.Proofs.Lays.n166 Tryz.prog Fb:={
 mixed:=by kernel_rfl
 f166:=Tryz.func44.trans (congrArg some (by kernel_rfl))
 f240:=Tryz.func75.trans (congrArg some (by kernel_rfl))
 f276:=Tryz.func111.trans (congrArg some (by kernel_rfl))
 t0:=Tryz.underlying0
 a0:=Tryz.isAgg0
 z0:=Tryz.sizeOf0
 v0:=Tryz.zeroValue0
 t3:=Tryz.underlying3
 a3:=Tryz.isAgg3
 z3:=Tryz.sizeOf3
 v3:=Tryz.zeroValue3
 t4:=Tryz.underlying4
 a4:=Tryz.isAgg4
 z4:=Tryz.sizeOf4
 v4:=Tryz.zeroValue4
 t9:=Tryz.underlying9
 a9:=Tryz.isAgg9
 z9:=Tryz.sizeOf9
 v9:=Tryz.zeroValue9
 t20:=Tryz.underlying20
 a20:=Tryz.isAgg20
 z20:=Tryz.sizeOf20
 v20:=Tryz.zeroValue20
 t37:=Tryz.underlying38
 a37:=Tryz.isAgg38
 z37:=Tryz.sizeOf38
 v37:=Tryz.zeroValue38
 t70:=Tryz.underlying69
 a70:=Tryz.isAgg69
 z70:=Tryz.sizeOf69
 v70:=Tryz.zeroValue69
 t72:=Tryz.underlying71
 a72:=Tryz.isAgg71
 z72:=Tryz.sizeOf71
 v72:=Tryz.zeroValue71
 t75:=Tryz.underlying73
 a75:=Tryz.isAgg73
 z75:=Tryz.sizeOf73
 v75:=Tryz.zeroValue73
 t164:=Tryz.underlying136
 a164:=Tryz.isAgg136
 z164:=Tryz.sizeOf136
 v164:=Tryz.zeroValue136}
theorem AZ:Go.Proofs.Lays.n169 Tryz.prog Fb:={
 mixed:=by kernel_rfl
 f169:=Tryz.func48.trans (congrArg some (by kernel_rfl))
 t0:=Tryz.underlying0
 a0:=Tryz.isAgg0
 z0:=Tryz.sizeOf0
 v0:=Tryz.zeroValue0
 t3:=Tryz.underlying3
 a3:=Tryz.isAgg3
 z3:=Tryz.sizeOf3
 v3:=Tryz.zeroValue3
 t9:=Tryz.underlying9
 a9:=Tryz.isAgg9
 z9:=Tryz.sizeOf9
 v9:=Tryz.zeroValue9
 t37:=Tryz.underlying38
 a37:=Tryz.isAgg38
 z37:=Tryz.sizeOf38
 v37:=Tryz.zeroValue38
 t70:=Tryz.underlying69
 a70:=Tryz.isAgg69
 z70:=Tryz.sizeOf69
 v70:=Tryz.zeroValue69
 t72:=Tryz.underlying71
 a72:=Tryz.isAgg71
 z72:=Tryz.sizeOf71
 v72:=Tryz.zeroValue71
 t127:=Tryz.underlying112
 a127:=Tryz.isAgg112
 z127:=Tryz.sizeOf112
 v127:=Tryz.zeroValue112}
theorem yR:Builder.Extra Tryz.prog Fb:={
 sizeBuilder:=by kernel_rfl
 liesBuilder:=by kernel_rfl
 t5:=Tryz.underlying5
 a5:=Tryz.isAgg5
 z5:=Tryz.sizeOf5
 v5:=Tryz.zeroValue5
 infoByte:=by kernel_rfl
 cellsByte:=by kernel_rfl
 sizeByte:=by kernel_rfl
 neB5:=by decide}
@[go_sem] def Cz (k:Nat) (l:List UInt8):Ob:= .sb 71 5 l (some k)
theorem MQ(w0:W0)(h0:w0.w.drawn=0)(S:St)(l k:Nat)(bs:List UInt8)(s:ByteArray)(hl:lk S.acc l=some (Cz k bs))(hlen:bs.length+s.size≤140737488355328):
 ab Tryz.prog w0 44 [.v (.pointer (some ⟨k,0,none⟩)),.v (.string s)] S (fun d S'=>d= .bU [.v (.int .i64 s.size),.v .nilIface]∧S'=⟨S.box,Aml.up S.acc l (Cz k (bs++s.data.toList))⟩):=by
 refine yN h0 (us:=[.string s]) (bs':=bs++s.data.toList) hl (fun g=>kV (.v _ rfl) (.v _ rfl)) fun b p v w h=>?_;refine(JV Ba yR h s (by rw[Lib.byteCells_length];omega)).mono ?_;rintro e w' ⟨rfl,hp⟩;refine⟨rfl,?_⟩;rw[Lib.byteCells_append,←Lib.strCells_eq];exact hp
theorem Hl(w0:W0)(h0:w0.w.drawn=0)(S:St)(l k:Nat)(bs:List UInt8)(hl:lk S.acc l=some (Cz k bs)):
 ab Tryz.prog w0 48 [.v (.pointer (some ⟨k,0,none⟩))] S (fun d S'=>d= .v (.string ⟨bs.toArray⟩)∧S'=⟨S.box,Aml.up S.acc l (Cz k bs)⟩):=
 yN h0 (us:=[]) (bs':=bs) hl (fun g=> .v _ rfl) fun b p v w h=>CF AZ yR h
def tx(l:List UInt8):ByteArray:=⟨l.toArray⟩
theorem aK(l:List UInt8):(tx l).data.toList=l:=by simp[tx]
theorem xM(s:ByteArray):tx s.data.toList=s:=by simp[tx]
theorem aP(l:List UInt8):(tx l).size=l.length:=by simp[tx,ByteArray.size]
theorem aw(s:ByteArray):s.data.toList.length=s.size:=rfl
theorem eI{a b:ByteArray}(h:a.data.toList=b.data.toList):a=b:=by rw[←xM a,←xM b,h]
theorem xc(a b:List UInt8):tx a++tx b=tx (a++b):=by
 apply eI;rw[ByteArray.data_append,SB,aK,aK,aK]
theorem dj(a b:ByteArray):(a++b).data.toList=a.data.toList++b.data.toList:=by rw[ByteArray.data_append,SB]
theorem dm(s:ByteArray)(i j:Nat):(s.extract i j).data.toList=(s.data.toList.take j).drop i:=by
 rw[ByteArray.data_extract,Array.toList_extract];simp[List.extract_eq_take_drop,List.drop_take]
theorem Lp{a b:List UInt8}(h:tx a=tx b):a=b:=by rw[←aK a,h,aK]
theorem ew(s:ByteArray)(pos:Nat):Utf8.decode s pos=Lib.decodeL (s.data.toList.drop pos):=by
 unfold Lib.decodeL;have h:=Lib.tail_decode s pos 0;rw[SS]at h;rw[←h];congr 1;apply eI;rw[dm,RN (by rw[aw];exact Ro _)]
@[go_sem] theorem PS (a b:ByteArray) (K:DV→Prop):iy .add a b K=(a.size+b.size≤9223372036854775807∧K (.v (.string (a++b)))):=rfl
@[go_sem] theorem PZ (a b:ByteArray) (K:DV→Prop):iy .eql a b K=K (.v (.bool (decide (a.data.toList=b.data.toList)))):=rfl
@[go_sem] theorem Qe (a b:ByteArray) (K:DV→Prop):iy .neq a b K=K (.v (.bool (!decide (a.data.toList=b.data.toList)))):=rfl
def KU(w0:W0):Prop:=Kn w0 fun w=>Lib.Utf8Tabs 0 1 w
theorem JP(w0:W0)(hk:KU w0)(s:ByteArray)(hs:s.size≤1048576)(S:St):ab Tryz.prog w0 33 [dS s] S (fun d S'=>d=dB (Lib.validD s.data.toList)∧S'=S):=
 gZ (us:=[.string s]) (fun g=> .v _ rfl) (Kn.mono hk fun w hw=>Any.utf8_ValidString Tryz.zh s w (by omega) hw)
theorem NH(w0:W0)(h0:w0.w.drawn=0)(s c:ByteArray)(hs:s.size≤1048576)(hc:c.size≤1000)(ha:c.data.toList.all (fun b=>decide (b.toNat<128))=true)(S:St):ab Tryz.prog w0 120 [dS s,dS c] S (fun d S'=>d=dS (tx (Lib.trimS s.data.toList c.data.toList))∧S'=S):=
 gZ (us:=[.string s,.string c]) (fun g=> .v _ rfl) ⟨h0,fun w hw=>Any.strings_Trim_laid Tryz.Ha (by kernel_rfl) s c w (by omega) (by omega) (ascii_of_all ha)⟩
def KP(w0:W0):Prop:=Kn w0 fun w=>Lib.TabIs Tryz.prog w "internal/strconv.uint64pow10" .u64 Lib.pow10Tab
def KM(w0:W0):Prop:=Kn w0 fun w=>∃m,w.cell? ⟨3,0,none⟩=some (.int .i64 m)
def KE(w0:W0):Prop:=Kn w0 fun w=>(∃te pe,w.cell? ⟨5,0,none⟩=some (.iface te pe))∧∃te pe,w.cell? ⟨6,0,none⟩=some (.iface te pe)
def Lg(N:Nat):DV:= .fN 177 (.v (.pointer (some ⟨N,0,none⟩)))
theorem MB(w0:W0)(hp:KP w0)(n:Int)(h0: -9223372036854775808≤n)(h1:n≤9223372036854775807)(S:St):ab Tryz.prog w0 46 [dI n] S (fun d S'=>d=dS (tx (Lib.itoa n))∧S'=S):=
 gZ (us:=[.int .i64 n]) (fun g=> .v _ rfl) (Kn.mono hp fun w hw=>(Tryz.strconv_Itoa n h0 h1 w hw).mono fun e w' h=>by
  obtain⟨rfl,k,os,rfl⟩:=h
  exact⟨rfl,⟨rfl,rfl,rfl,by simp[Sort.grow,World.drewN,Tz],fun k hk=>by
   show(w.heap++os)[k]? =w.heap[k]?;exact S7 hk⟩⟩)
def JU(l:List UInt8):Int:=match Lib.atoiAll l with
 |Lib.NumEnd.ok v=>v
 |Lib.NumEnd.range=>Lib.atoiSat l
 |_=>0
theorem Np(w0:W0)(hk:KE w0)(s:ByteArray)(hs:s.size≤1048576)(S:St):ab Tryz.prog w0 121 [dS s] S (fun d S'=>(∃e,d= .bU [dI (JU s.data.toList),e]∧(e= .v .nilIface∨∃N,e=Lg N))∧S'=S):=by
 refine mr (us:=[.string s]) (rU [_]) (Kn.mono hk fun w hw=>?_);obtain⟨⟨te,pe,h3⟩,⟨te2,pe2,h4⟩⟩:=hw;unfold JU;rcases h:Lib.atoiAll s.data.toList with v|_|_
 ·refine(Tryz.strconv_Atoi_ok s (by omega) v h w).mono ?_;rintro e w' ⟨rfl,hb⟩;refine⟨_,.bU [dI v,.v .nilIface],rfl,fun g=>kV (.v _ rfl) (.v _ rfl),⟨_,rfl,.inl rfl⟩,?_⟩;rcases hb with rfl|⟨t,rfl⟩
  ·exact .refl _ _
  ·exact Lib.bytesWorld_below _ _ _
 ·refine(Tryz.strconv_Atoi_syntax s (by omega) h _ w h3 (.inr ⟨te,pe,rfl⟩)).mono ?_;rintro e w' ⟨N,rfl,_,_,hb⟩;exact⟨_,.bU [dI 0,Lg N],rfl,fun g=>kV (.v _ rfl) (.fN _ _ _ (.v _ rfl)),⟨_,rfl,.inr ⟨N,rfl⟩⟩,hb⟩
 ·refine(Tryz.strconv_Atoi_range s (by omega) h _ w h4 (.inr ⟨te2,pe2,rfl⟩)).mono ?_;rintro e w' ⟨N,rfl,_,_,hb⟩;exact⟨_,.bU [dI (Lib.atoiSat s.data.toList),Lg N],rfl,fun g=>kV (.v _ rfl) (.fN _ _ _ (.v _ rfl)),⟨_,rfl,.inr ⟨N,rfl⟩⟩,hb⟩
@[go_sem] def aU (l:List (List UInt8)):List DV:=l.map fun s=>dS (tx s)
def lD:List UInt8→List UInt8→List (List UInt8)
 |cur,[]=>[cur]
 |cur,c::t=>if c=10 then cur::lD [] t else lD (cur++[c]) t
def im(l:List UInt8):List (List UInt8):=lD [] l
theorem pn:∀(b cur t:List UInt8),(∀x,x∈b→x≠10)→lD cur (b++t)=lD (cur++b) t
 |[],cur,t,_=>by rw[RU];rfl
 |c::b,cur,t,h=>by
  rw[RQ,lD,if_neg (h c Rx),pn b _ t fun x hx=>h x (Rr _ hx),RJ];rfl
theorem jk:∀(cur t:List UInt8),(lD cur t).length≤t.length+1
 |cur,[]=>by simp[lD]
 |cur,c::t=>by
  rw[lD];split
  ·have:=jk [] t;rw[Ru,Ru];omega
  ·have:=jk (cur++[c]) t;rw[Ru];omega
theorem wj:∀(cur t:List UInt8),∀w,w∈lD cur t→w.length≤cur.length+t.length
 |cur,[]=>by intro w hw;simp[lD]at hw;rw[hw];simp
 |cur,c::t=>by
  intro w hw;rw[lD]at hw;split at hw
  ·rcases Rv.1 hw with rfl|hw
   ·simp
   ·have:=wj [] t w hw;simp at this ⊢;omega
  ·have:=wj (cur++[c]) t w hw;rw[Rk]at this;simp at this ⊢;omega
theorem sk:∀L:List UInt8,(∀c,c∈L→c≠10)∨∃a t,L=a++10::t∧∀c,c∈a→c≠10
 |[]=> .inl fun c hc=>by cases hc
 |c::L=>by
  by_cases h:c=10
  ·subst h;exact .inr ⟨[],L,rfl,fun c hc=>by cases hc⟩
  ·rcases sk L with h1|⟨a,t,rfl,h1⟩
   ·left;intro d hd;rcases Rv.1 hd with rfl|hd
    ·exact h
    ·exact h1 d hd
   ·refine .inr ⟨c::a,t,rfl,fun d hd=>?_⟩;rcases Rv.1 hd with rfl|hd
    ·exact h
    ·exact h1 d hd
theorem zK(x:List UInt8):∀{a:List UInt8},(∀c,c∈a→c≠10)→Lib.index (a++10::x) [10]=a.length
 |[],_=>by simp[Lib.index]
 |c::a,h=>by
  have h1:=h c Rx;have h2:=zK x fun d hd=>h d (Rr _ hd);rw[RQ,Lib.index,h2]
  have h3:([10]:List UInt8).isPrefixOf (c::(a++10::x))=false:=by
   simp[List.isPrefixOf];exact fun e=>h1 e.symm
  rw[h3];simp
theorem pV:∀{a:List UInt8},(∀c,c∈a→c≠10)→Lib.index a [10]= -1
 |[],_=>rfl
 |c::a,h=>by
  have h1:=h c Rx;have h2:=pV fun d hd=>h d (Rr _ hd);rw[Lib.index,h2]
  have h3:([10]:List UInt8).isPrefixOf (c::a)=false:=by
   simp[List.isPrefixOf];exact fun e=>h1 e.symm
  rw[h3];simp
theorem sB{a:List UInt8}(h:∀c,c∈a→c≠10):im a=[a]:=by
 have:=pn a [] [] h;rw[RU]at this;unfold im;rw[this];rfl
theorem gT{a t:List UInt8}(h:∀c,c∈a→c≠10):im (a++10::t)=a::im t:=by
 unfold im;rw[pn a [] _ h,lD,if_pos rfl];rfl
theorem tN:∀(k:Nat) (s:ByteArray),Lib.countB s ⟨#[10]⟩=k→Lib.splitB ⟨#[10]⟩ 0 k s=(im s.data.toList).map tx
 |k,s,hk=>by
  rcases sk s.data.toList with h|⟨a,t,h1,h2⟩
  ·have hi:Lib.indexB s ⟨#[10]⟩= -1:=pV h;rw[Lib.splitB_miss _ _ _ _ hi,sB h,Rz,SN,xM]
  ·have hi:Lib.indexB s ⟨#[10]⟩=a.length:=by
    show Lib.index s.data.toList [10]=_;rw[h1];exact zK t h2
   have hc:=Lib.countB_hit s ⟨#[10]⟩ a.length (by decide) hi;have hs:(⟨#[10]⟩:ByteArray).size=1:=rfl;have e1:s.extract 0 (a.length+0)=tx a:=eI (by rw[dm,aK,h1];simp)
   have e2:s.extract (a.length+1) s.size=tx t:=eI (by
    rw[dm,aK,RN (by rw[aw];omega),h1,←TO,List.drop_left];rfl)
   rw[hs,e2]at hc
   match k,hk with
   |0,hk=>omega
   |k+1,hk=>
    rw[Lib.splitB_hit _ _ _ _ _ hi,e1,hs,e2,h1,gT h2,Rz,tN k (tx t) (by omega),aK]
theorem Li(w0:W0)(hm:KM w0)(s:ByteArray)(hs:s.size≤1048576)(S:St):ab Tryz.prog w0 19 [dS s,dS ⟨#[10]⟩] S (fun d S'=>d= .sl 1 true (aU (im s.data.toList))∧S'=S):=by
 have hl:=jk [] s.data.toList
 have hne:im s.data.toList≠[]:=by
  rcases sk s.data.toList with h|⟨a,t,h1,h2⟩
  ·rw[sB h];simp
  ·rw[h1,gT h2];simp
 have h:=se (P:=Tryz.prog) (w0:=w0) (f:=19) (us:=[.string s,.string ⟨#[10]⟩]) (xs:=(im s.data.toList).map tx) (e0:=9) (S:=S) (by rw[RM];rw[aw]at hl;have:maxLen=9223372036854775807:=rfl;unfold im;omega) (by simpa using hne) (by
  refine Kn.mono hm fun w hw=>?_;obtain⟨m,hc⟩:=hw;refine(Tryz.strings_Split s ⟨#[10]⟩ m w (by omega) hc (by decide)).mono ?_;rintro e w' ⟨rfl,rfl⟩;have e1:=tN (Lib.countB s ⟨#[10]⟩) s rfl;have e2:=Lib.splitB_all ⟨#[10]⟩ (by decide) 0 (Lib.countB s ⟨#[10]⟩) s rfl;rw[e1]at e2 ⊢;rw[e2];exact⟨rfl,rfl⟩)
 rw[S6]at h;exact h
theorem MJ(w0:W0)(h0:w0.w.drawn=0)(fl:Bool)(xs:List ByteArray)(sep:ByteArray)(hne:xs≠[])(hN:xs.length≤1000)(hl:(Lib.join (xs.map (·.data.toList)) sep.data.toList).length≤140737488355328)(S:St):
 ab Tryz.prog w0 45 [.sl 1 fl (xs.map fun x=>dS x),dS sep] S (fun d S'=>d=dS (tx (Lib.join (xs.map (·.data.toList)) sep.data.toList))∧S'=S):=
 AY h0 (us:=[.string sep]) (fun g=> .v _ rfl) hne fun bk o c w h1 h2 h3=>by
  exact Tryz.strings_Join bk o c xs sep w h1 h2 (by omega) h3 hl
end Go.Proofs.YtiihljlagmmljaaGreatDoor
namespace Go.Proofs.YtiihljlagmmljaaGreatDoor
open Aml Go Lat Grs Rn
def lH(c:Nat):Bool:=decide ((97≤c∧c≤122)∨(65≤c∧c≤90)∨128≤c)
theorem HY(w0:W0)(c:Nat)(S:St):ab Tryz.prog w0 32 [.v (.int .i32 (c:Int))] S (fun d S'=>d=dB (lH c)∧S'=S):=by
 refine cR [] mx Tryz.func32 rfl rfl (by kernel_rfl) ?_;simp(maxDischargeDepth:=12) (maxSteps:=1000000) -implicitDefEqProofs only[Tryz.ntmps32,go_sem,Nat.reduceAdd,Nat.reduceSub,Nat.reduceMul,Nat.reduceLeDiff,Nat.reduceEqDiff,Nat.reduceGT,Nat.reduceBEq,reduceCtorEq,↓reduceIte,Int.reduceToNat,Int.reduceLE,Int.reduceLT,Int.reduceNe,Int.reduceEq];unfold lH
 (repeat' first|refine⟨?_,?_⟩|intro _) <;>first|exact(decide_eq_true (by omega)).symm|exact decide_eq_decide.2 (by omega)
theorem GJ(w0:W0)(c:Nat)(S:St):ab Tryz.prog w0 34 [.v (.int .i32 (c:Int))] S (fun d S'=>d=dB (lH c)∧S'=S):=by
 refine cR [] mx Tryz.func34 rfl rfl (by kernel_rfl) ?_;simp(maxDischargeDepth:=12) (maxSteps:=1000000) -implicitDefEqProofs only[Tryz.ntmps34,go_sem,Nat.reduceAdd,Nat.reduceSub,Nat.reduceMul,Nat.reduceLeDiff,Nat.reduceEqDiff,Nat.reduceGT,Nat.reduceBEq,reduceCtorEq,↓reduceIte,Int.reduceToNat,Int.reduceLE,Int.reduceLT,Int.reduceNe,Int.reduceEq];unfold lH
 (repeat' first|refine⟨?_,?_⟩|intro _) <;>first|exact(decide_eq_true (by omega)).symm|exact decide_eq_decide.2 (by omega)
structure bL(l:List UInt8):Prop where
 vQ:∀r,r∈ak l→lH r.1=true
 whole:whole l
 pos:1≤(ak l).length
 le:(ak l).length≤12
theorem vS(l:List UInt8):Lib.validD l=true↔whole l:=by
 induction l using eD with
 |h0=>exact⟨fun _ r hr=>(by cases hr),fun _=>rfl⟩
 |h1 l hne ih=>
  rw[Lib.validD_step l hne,fi hne,←ih];by_cases h:(Lib.decodeL l).1=65533∧(Lib.decodeL l).2=1
  ·rw[if_pos h];exact⟨fun q=>(by cases q),fun q=>absurd h q.1⟩
  ·rw[if_neg h];exact⟨fun q=>⟨h,q⟩,fun q=>q.2⟩
def rl(c:Nat):Nat:=if c<128 then 1 else if c<2048 then 2 else if c<65536 then 3 else 4
def Gt(l:List (Nat×List UInt8)):Nat:=(l.map fun r=>rl r.1).sum
theorem Jv(l:List UInt8)(hne:l≠[]):(dl l).2≤rl (dl l).1∧((dl l).2=rl (dl l).1↔ni (dl l)):=by
 have k0:=(l.getD 0 0).toNat_lt;unfold dl;rw[Lib.decodeL_N];unfold ni rl;rcases Lib.decodeN_shape l.length (l.getD 0 0).toNat (l.getD 1 0).toNat (l.getD 2 0).toNat (l.getD 3 0).toNat with⟨c,e⟩|⟨c1,c2,c3,cv,e⟩|⟨c1,c2,c3,c4,cv,cs,e⟩|⟨c1,c2,c3,c4,c5,cv,cw,e⟩|e
 all_goals rw[e];dsimp only
 ·rw[if_pos c];omega
 ·rw[if_neg (by omega),if_pos (by omega)];omega
 ·rw[if_neg (by omega),if_neg (by omega),if_pos (by omega)];omega
 ·rw[if_neg (by omega),if_neg (by omega),if_neg (by omega)];omega
 ·decide
theorem AA(l:List UInt8):l.length≤Gt (ak l)∧(Gt (ak l)=l.length↔whole l):=by
 induction l using eD with
 |h0=>exact⟨Ro _,⟨fun _ r hr=>(by cases hr),fun _=>rfl⟩⟩
 |h1 l hne ih=>
  have hle:=Lib.decodeL_le l hne;have h1:=Jv l hne;change (dl l).2≤l.length at hle;rw[bh hne,fi hne];unfold Gt at ih ⊢;rw[Rz,Tl];rw[RP]at ih;rw[←ih.2,←h1.2];dsimp only;omega
theorem fH{L:List UInt8}{k:Nat}(h:k<L.length):ak (L.drop k)=((dl (L.drop k)).1,(L.drop k).take (dl (L.drop k)).2)::ak (L.drop (k+(dl (L.drop k)).2)):=by
 have hne:L.drop k≠[]:=by intro e;have:=congrArg List.length e;rw[RP]at this;simp at this;omega
 rw[bh hne,TO]
theorem mJ{L:List UInt8}{k:Nat}(h:k<L.length):1≤(dl (L.drop k)).2∧k+(dl (L.drop k)).2≤L.length:=by
 have hne:L.drop k≠[]:=by intro e;have:=congrArg List.length e;rw[RP]at this;simp at this;omega
 have h1:=p8 (L.drop k);have h2:=Lib.decodeL_le _ hne;rw[RP]at h2;exact⟨h1,by unfold dl;omega⟩
theorem dz{L:List UInt8}{k:Nat}(h:L.length≤k):ak (L.drop k)=[]:=by rw[Tp h];rfl
theorem ED(c:Nat):rl c≤4:=by unfold rl;(repeat' split) <;>omega
theorem Lq(l:List (Nat×List UInt8)):Gt l≤4*l.length:=by
 induction l with
 |nil=>exact Ro _
 |cons r l ih=>
  have:=ED r.1;unfold Gt at ih ⊢;rw[Rz,Tl,Ru];omega
theorem LI(w0:W0)(s:ByteArray)(hs:s.size≤1048576)(S:St):ab Tryz.prog w0 35 [dS s] S (fun d S'=>d=dB (pB (whole s.data.toList))∧S'=S):=by
 refine cR [] mx Tryz.func35 rfl rfl (by kernel_rfl) ?_;simp(maxDischargeDepth:=12) (maxSteps:=1000000) -implicitDefEqProofs only[Tryz.ntmps35,go_sem,Nat.reduceAdd,Nat.reduceSub,Nat.reduceMul,Nat.reduceLeDiff,Nat.reduceEqDiff,Nat.reduceGT,Nat.reduceBEq,reduceCtorEq,↓reduceIte,Int.reduceToNat,Int.reduceLE,Int.reduceLT,Int.reduceNe,Int.reduceEq];intro li;refine bS [] [0,3,7] (σ:=Nat×List (Nat×List UInt8)) (fun p=>[(3,dI (Gt p.2))]) (fun p=>⟨S.box,(li.n,.xo (.si s p.1))::S.acc⟩) (fun p=>p.1≤s.size∧p.2++ak (s.data.toList.drop p.1)=ak s.data.toList) (fun p=>s.size-p.1) (0,[]) mx (by kernel_rfl) ⟨⟨RL _,rfl⟩,?_⟩ fun p hp=>?_
 ·simp(maxDischargeDepth:=12) (maxSteps:=1000000) -implicitDefEqProofs only[go_sem,Nat.reduceAdd,Nat.reduceSub,Nat.reduceMul,Nat.reduceLeDiff,Nat.reduceEqDiff,Nat.reduceGT,Nat.reduceBEq,reduceCtorEq,↓reduceIte,Int.reduceToNat,Int.reduceLE,Int.reduceLT,Int.reduceNe,Int.reduceEq];exact .refl _
 ·obtain⟨k,pre⟩:=p;obtain⟨hk1,hpre⟩:=hp;dsimp only at hk1 hpre;simp(maxDischargeDepth:=12) (maxSteps:=1000000) -implicitDefEqProofs only[go_sem,Nat.reduceAdd,Nat.reduceSub,Nat.reduceMul,Nat.reduceLeDiff,Nat.reduceEqDiff,Nat.reduceGT,Nat.reduceBEq,reduceCtorEq,↓reduceIte,Int.reduceToNat,Int.reduceLE,Int.reduceLT,Int.reduceNe,Int.reduceEq];have hsz:=aw s;have hrl:=dC s.data.toList
  have hrp:pre.length≤s.size:=by
   have:=congrArg List.length hpre;rw[Rk]at this;omega
  have hr4:Gt pre≤4*pre.length:=Lq pre;rw[ew s k];refine⟨fun hk=>?_,fun hk=>?_⟩
  ·rw[dz (by omega),RU]at hpre;rw[hpre,←(AA _).2];rfl
  ·have h1:=fH (L:=s.data.toList) (k:=k) (by omega);have h2:=mJ (L:=s.data.toList) (k:=k) (by omega);generalize hD:dl (s.data.toList.drop k)=D at h1 h2;change Lib.decodeL _=D at hD;rw[hD];obtain⟨c,n⟩:=D;dsimp only at h1 h2 ⊢
   have go:∀m:Nat,m=rl c→∃s':Nat×List (Nat×List UInt8),
    (s'.fst≤s.size∧s'.snd++ak (List.drop s'.fst s.data.toList)=ak s.data.toList)∧
     s.size-s'.fst<s.size-k∧
      IntKind.i64.wrap ((Gt pre:Int)+(m:Int))=(Gt s'.snd:Int)∧
       Aml.Sub {box:=S.box,acc:=(li.n,Ob.xo (XO.si s s'.fst))::S.acc}
        {box:=S.box,acc:=(li.n,Ob.xo (XO.si s (k+n)))::S.acc}:=by
    rintro _ rfl;refine⟨(k+n,pre++[(c,(s.data.toList.drop k).take n)]),⟨by dsimp only;omega,?_⟩,by dsimp only;omega,?_,.refl _⟩
    ·dsimp only;rw[RJ,S9,←h1];exact hpre
    ·have hle:=ED c;rw[kx (by omega) (by omega)];unfold Gt;rw[R8,List.sum_append];simp
   unfold rl at go;refine⟨fun q=>?_,fun q=>⟨fun q2=>?_,fun q2=>⟨fun q3=>?_,fun q3=>?_⟩⟩⟩
   ·exact go 1 (by rw[if_pos (by omega)])
   ·exact go 2 (by rw[if_neg (by omega),if_pos (by omega)])
   ·exact go 3 (by rw[if_neg (by omega),if_neg (by omega),if_pos (by omega)])
   ·exact go 4 (by rw[if_neg (by omega),if_neg (by omega),if_neg (by omega)])
theorem vI{l:List UInt8}(h:∀r,r∈ak l→lH r.1=true):bL l↔whole l∧1≤(ak l).length∧(ak l).length≤12:=⟨fun q=>⟨q.whole,q.pos,q.le⟩,fun q=>⟨h,q.1,q.2.1,q.2.2⟩⟩
theorem Fw{l:List UInt8}(h:∀r,r∈ak l→lH r.1=true):(Lib.validD l=true→
 (((ak l).length:Int)≥1→(((ak l).length:Int)≤12↔bL l))∧(¬((ak l).length:Int)≥1→¬bL l))∧
 (Lib.validD l=false→¬bL l):=by
 rw[vI h,←vS];refine⟨fun q=>⟨fun q2=>⟨fun q3=>⟨q,by omega,by omega⟩,fun q3=>by omega⟩,fun q2 q3=>by omega⟩,fun q q3=>by rw[q]at q3;cases q3.1⟩
theorem jL(w0:W0)(hk:KU w0)(s:ByteArray)(hs:s.size≤1048576)(S:St):ab Tryz.prog w0 13 [dS s] S (fun d S'=>d=dB (pB (bL s.data.toList))∧S'=S):=by
 refine cR [] mx Tryz.func13 rfl rfl (by kernel_rfl) ?_;simp(maxDischargeDepth:=12) (maxSteps:=1000000) -implicitDefEqProofs only[Tryz.ntmps13,go_sem,Nat.reduceAdd,Nat.reduceSub,Nat.reduceMul,Nat.reduceLeDiff,Nat.reduceEqDiff,Nat.reduceGT,Nat.reduceBEq,reduceCtorEq,↓reduceIte,Int.reduceToNat,Int.reduceLE,Int.reduceLT,Int.reduceNe,Int.reduceEq];intro li;refine bS [] [0,3,7] (σ:=Nat×List (Nat×List UInt8)) (fun p=>[(3,dI p.2.length)]) (fun p=>⟨S.box,(li.n,.xo (.si s p.1))::S.acc⟩) (fun p=>p.1≤s.size∧p.2++ak (s.data.toList.drop p.1)=ak s.data.toList∧∀r,r∈p.2→lH r.1=true) (fun p=>s.size-p.1) (0,[]) mx (by kernel_rfl) ⟨⟨RL _,rfl,fun r hr=>by cases hr⟩,?_⟩ fun p hp=>?_
 ·simp(maxDischargeDepth:=12) (maxSteps:=1000000) -implicitDefEqProofs only[go_sem,Nat.reduceAdd,Nat.reduceSub,Nat.reduceMul,Nat.reduceLeDiff,Nat.reduceEqDiff,Nat.reduceGT,Nat.reduceBEq,reduceCtorEq,↓reduceIte,Int.reduceToNat,Int.reduceLE,Int.reduceLT,Int.reduceNe,Int.reduceEq]
 ·obtain⟨k,pre⟩:=p;obtain⟨hk1,hpre,hlet⟩:=hp;dsimp only at hk1 hpre hlet;have hsz:=aw s;simp(maxDischargeDepth:=12) (maxSteps:=1000000) -implicitDefEqProofs only[go_sem,Nat.reduceAdd,Nat.reduceSub,Nat.reduceMul,Nat.reduceLeDiff,Nat.reduceEqDiff,Nat.reduceGT,Nat.reduceBEq,reduceCtorEq,↓reduceIte,Int.reduceToNat,Int.reduceLE,Int.reduceLT,Int.reduceNe,Int.reduceEq];rw[ew s k];have hrl:=dC s.data.toList
  have hrp:pre.length≤s.size:=by
   have:=congrArg List.length hpre;rw[Rk]at this;omega
  refine⟨fun hk'=>?_,fun hk'=>?_⟩
  ·rw[dz (by omega),RU]at hpre;rw[hpre]at hlet ⊢;refine aq (JP _ hk s hs _) ?_;simp(maxDischargeDepth:=12) (maxSteps:=1000000) -implicitDefEqProofs only[go_sem,Nat.reduceAdd,Nat.reduceSub,Nat.reduceMul,Nat.reduceLeDiff,Nat.reduceEqDiff,Nat.reduceGT,Nat.reduceBEq,reduceCtorEq,↓reduceIte,Int.reduceToNat,Int.reduceLE,Int.reduceLT,Int.reduceNe,Int.reduceEq];exact Fw hlet
  ·have h1:=fH (L:=s.data.toList) (k:=k) (by omega);have h2:=mJ (L:=s.data.toList) (k:=k) (by omega);generalize hD:dl (s.data.toList.drop k)=D at h1 h2;change Lib.decodeL _=D at hD;rw[hD];obtain⟨c,n⟩:=D;dsimp only at h1 h2 ⊢;refine aq (HY _ c _) ?_;simp(maxDischargeDepth:=12) (maxSteps:=1000000) -implicitDefEqProofs only[go_sem,Nat.reduceAdd,Nat.reduceSub,Nat.reduceMul,Nat.reduceLeDiff,Nat.reduceEqDiff,Nat.reduceGT,Nat.reduceBEq,reduceCtorEq,↓reduceIte,Int.reduceToNat,Int.reduceLE,Int.reduceLT,Int.reduceNe,Int.reduceEq];refine⟨fun q=>⟨(k+n,pre++[(c,(s.data.toList.drop k).take n)]),⟨by dsimp only;omega,?_,?_⟩,by dsimp only;omega,?_,.refl _⟩,fun q hN=>?_⟩
   ·dsimp only;rw[RJ,S9,←h1];exact hpre
   ·intro r hr;rcases RB.1 hr with hr|hr
    ·exact hlet r hr
    ·rw[RX.1 hr];exact q
   ·rw[kx (by omega) (by omega)];simp
   ·have:=hN.vQ (c,(s.data.toList.drop k).take n) (by rw[←hpre,h1];simp);rw[q]at this;cases this
theorem AF{l:List UInt8}(h:∀r,r∈ak l→lH r.1=true):(whole l→
 (((ak l).length:Int)≥1→(((ak l).length:Int)≤12↔bL l))∧(¬((ak l).length:Int)≥1→¬bL l))∧
 (¬whole l→¬bL l):=by
 rw[vI h];refine⟨fun q=>⟨fun q2=>⟨fun q3=>⟨q,by omega,by omega⟩,fun q3=>by omega⟩,fun q2 q3=>by omega⟩,fun q q3=>q q3.1⟩
theorem Da(w0:W0)(s:ByteArray)(hs:s.size≤1048576)(S:St):ab Tryz.prog w0 14 [dS s] S (fun d S'=>d=dB (pB (bL s.data.toList))∧S'=S):=by
 refine cR [] mx Tryz.func14 rfl rfl (by kernel_rfl) ?_;simp(maxDischargeDepth:=12) (maxSteps:=1000000) -implicitDefEqProofs only[Tryz.ntmps14,go_sem,Nat.reduceAdd,Nat.reduceSub,Nat.reduceMul,Nat.reduceLeDiff,Nat.reduceEqDiff,Nat.reduceGT,Nat.reduceBEq,reduceCtorEq,↓reduceIte,Int.reduceToNat,Int.reduceLE,Int.reduceLT,Int.reduceNe,Int.reduceEq];intro li;refine bS [] [0,3,8] (σ:=Nat×List (Nat×List UInt8)) (fun p=>[(3,dI p.2.length)]) (fun p=>⟨S.box,(li.n,.xo (.si s p.1))::S.acc⟩) (fun p=>p.1≤s.size∧p.2++ak (s.data.toList.drop p.1)=ak s.data.toList∧∀r,r∈p.2→lH r.1=true) (fun p=>s.size-p.1) (0,[]) mx (by kernel_rfl) ⟨⟨RL _,rfl,fun r hr=>by cases hr⟩,?_⟩ fun p hp=>?_
 ·simp(maxDischargeDepth:=12) (maxSteps:=1000000) -implicitDefEqProofs only[go_sem,Nat.reduceAdd,Nat.reduceSub,Nat.reduceMul,Nat.reduceLeDiff,Nat.reduceEqDiff,Nat.reduceGT,Nat.reduceBEq,reduceCtorEq,↓reduceIte,Int.reduceToNat,Int.reduceLE,Int.reduceLT,Int.reduceNe,Int.reduceEq]
 ·obtain⟨k,pre⟩:=p;obtain⟨hk1,hpre,hlet⟩:=hp;dsimp only at hk1 hpre hlet;have hsz:=aw s;simp(maxDischargeDepth:=12) (maxSteps:=1000000) -implicitDefEqProofs only[go_sem,Nat.reduceAdd,Nat.reduceSub,Nat.reduceMul,Nat.reduceLeDiff,Nat.reduceEqDiff,Nat.reduceGT,Nat.reduceBEq,reduceCtorEq,↓reduceIte,Int.reduceToNat,Int.reduceLE,Int.reduceLT,Int.reduceNe,Int.reduceEq];rw[ew s k];have hrl:=dC s.data.toList
  have hrp:pre.length≤s.size:=by
   have:=congrArg List.length hpre;rw[Rk]at this;omega
  refine⟨fun hk'=>?_,fun hk'=>?_⟩
  ·rw[dz (by omega),RU]at hpre;rw[hpre]at hlet ⊢;refine aq (LI _ s hs _) ?_;simp(maxDischargeDepth:=12) (maxSteps:=1000000) -implicitDefEqProofs only[go_sem,Nat.reduceAdd,Nat.reduceSub,Nat.reduceMul,Nat.reduceLeDiff,Nat.reduceEqDiff,Nat.reduceGT,Nat.reduceBEq,reduceCtorEq,↓reduceIte,Int.reduceToNat,Int.reduceLE,Int.reduceLT,Int.reduceNe,Int.reduceEq];exact AF hlet
  ·have h1:=fH (L:=s.data.toList) (k:=k) (by omega);have h2:=mJ (L:=s.data.toList) (k:=k) (by omega);generalize hD:dl (s.data.toList.drop k)=D at h1 h2;change Lib.decodeL _=D at hD;rw[hD];obtain⟨c,n⟩:=D;dsimp only at h1 h2 ⊢;refine aq (GJ _ c _) ?_;simp(maxDischargeDepth:=12) (maxSteps:=1000000) -implicitDefEqProofs only[go_sem,Nat.reduceAdd,Nat.reduceSub,Nat.reduceMul,Nat.reduceLeDiff,Nat.reduceEqDiff,Nat.reduceGT,Nat.reduceBEq,reduceCtorEq,↓reduceIte,Int.reduceToNat,Int.reduceLE,Int.reduceLT,Int.reduceNe,Int.reduceEq];refine⟨fun q=>⟨(k+n,pre++[(c,(s.data.toList.drop k).take n)]),⟨by dsimp only;omega,?_,?_⟩,by dsimp only;omega,?_,.refl _⟩,fun q hN=>?_⟩
   ·dsimp only;rw[RJ,S9,←h1];exact hpre
   ·intro r hr;rcases RB.1 hr with hr|hr
    ·exact hlet r hr
    ·rw[RX.1 hr];exact q
   ·rw[kx (by omega) (by omega)];simp
   ·have:=hN.vQ (c,(s.data.toList.drop k).take n) (by rw[←hpre,h1];simp);rw[q]at this;cases this
attribute [go_sem] aK
def bB(l:List (List UInt8))(s:List UInt8):Int:=if s∈l then((l.idxOf s:Nat):Int)else -1
theorem gJ{l:List (List UInt8)}{s:List UInt8}:bB l s<0↔s∉l:=by
 unfold bB;split <;>simp_all <;>omega
theorem yU{l:List (List UInt8)}{s:List UInt8}{k:Nat}(h0:s∉l.take k)(h:l[k]? =some s):bB l s=(k:Int):=by
 unfold bB;obtain⟨hk,e⟩:=Rp.1 h;rw[if_pos (Rj h)];have h1:l=l.take k++s::l.drop (k+1):=by rw[←e,←List.drop_eq_getElem_cons hk,SC]
 have:l.idxOf s=k:=by
  rw[h1,List.idxOf_append,if_neg h0,List.idxOf_cons_self,RA];omega
 rw[this]
theorem o6{l:List (List UInt8)}{s:List UInt8}(h:s∉l):bB l s= -1:=by unfold bB;rw[if_neg h]
theorem vx{l:List (List UInt8)}{s x:List UInt8}{k:Nat}(h0:s∉l.take k)(hx:l[k]? =some x)(hne:¬s=x):s∉l.take (k+1):=by
 rw[Sm,hx];intro hm;rcases RB.1 hm with hm|hm
 ·exact h0 hm
 ·simp only[Option.toList_some,RX]at hm;exact hne hm
theorem CX(w0:W0)(l:List (List UInt8))(s:List UInt8)(hl:l.length≤4611686018427387904)(S:St):ab Tryz.prog w0 70 [.sl 1 false (aU l),dS (tx s)] S (fun d S'=>d=dI (bB l s)∧S'=S):=by
 refine cR [] mx Tryz.func70 rfl rfl (by kernel_rfl) ?_;simp(maxDischargeDepth:=12) (maxSteps:=1000000) -implicitDefEqProofs only[Tryz.ntmps70,go_sem,Nat.reduceAdd,Nat.reduceSub,Nat.reduceMul,Nat.reduceLeDiff,Nat.reduceEqDiff,Nat.reduceGT,Nat.reduceBEq,reduceCtorEq,↓reduceIte,Int.reduceToNat,Int.reduceLE,Int.reduceLT,Int.reduceNe,Int.reduceEq];refine bw [] l.length [0,1,7,8] (fun a=>[(8,dI a)]) (fun _=>S) (fun a=>s∉l.take a) mx (by kernel_rfl) ?_ ?_
 ·simp(maxDischargeDepth:=12) (maxSteps:=1000000) -implicitDefEqProofs only[go_sem,Nat.reduceAdd,Nat.reduceSub,Nat.reduceMul,Nat.reduceLeDiff,Nat.reduceEqDiff,Nat.reduceGT,Nat.reduceBEq,reduceCtorEq,↓reduceIte,Int.reduceToNat,Int.reduceLE,Int.reduceLT,Int.reduceNe,Int.reduceEq];exact SL
 ·intro a ha hA;simp(maxDischargeDepth:=12) (maxSteps:=1000000) -implicitDefEqProofs only[go_sem,Nat.reduceAdd,Nat.reduceSub,Nat.reduceMul,Nat.reduceLeDiff,Nat.reduceEqDiff,Nat.reduceGT,Nat.reduceBEq,reduceCtorEq,↓reduceIte,Int.reduceToNat,Int.reduceLE,Int.reduceLT,Int.reduceNe,Int.reduceEq];refine⟨fun hla=>⟨hla,fun x hx=>⟨fun e=>(yU hA (e▸hx)).symm,fun e=>⟨hla,vx hA hx e,ax (by omega)⟩⟩⟩,fun hge=>?_⟩;rw[RN (by omega)]at hA;exact(o6 hA).symm
theorem Jm(w0:W0)(l:List (List UInt8))(s:List UInt8)(hl:l.length≤4611686018427387904)(S:St):ab Tryz.prog w0 42 [.sl 1 false (aU l),dS (tx s)] S (fun d S'=>d=dI (bB l s)∧S'=S):=by
 refine cR [] mx Tryz.func42 rfl rfl (by kernel_rfl) ?_;simp(maxDischargeDepth:=12) (maxSteps:=1000000) -implicitDefEqProofs only[Tryz.ntmps42,go_sem,Nat.reduceAdd,Nat.reduceSub,Nat.reduceMul,Nat.reduceLeDiff,Nat.reduceEqDiff,Nat.reduceGT,Nat.reduceBEq,reduceCtorEq,↓reduceIte,Int.reduceToNat,Int.reduceLE,Int.reduceLT,Int.reduceNe,Int.reduceEq];refine bw [] l.length [0,1,5] (fun a=>[(5,dI a)]) (fun _=>S) (fun a=>s∉l.take a) mx (by kernel_rfl) ?_ ?_
 ·simp(maxDischargeDepth:=12) (maxSteps:=1000000) -implicitDefEqProofs only[go_sem,Nat.reduceAdd,Nat.reduceSub,Nat.reduceMul,Nat.reduceLeDiff,Nat.reduceEqDiff,Nat.reduceGT,Nat.reduceBEq,reduceCtorEq,↓reduceIte,Int.reduceToNat,Int.reduceLE,Int.reduceLT,Int.reduceNe,Int.reduceEq];exact SL
 ·intro a ha hA;simp(maxDischargeDepth:=12) (maxSteps:=1000000) -implicitDefEqProofs only[go_sem,Nat.reduceAdd,Nat.reduceSub,Nat.reduceMul,Nat.reduceLeDiff,Nat.reduceEqDiff,Nat.reduceGT,Nat.reduceBEq,reduceCtorEq,↓reduceIte,Int.reduceToNat,Int.reduceLE,Int.reduceLT,Int.reduceNe,Int.reduceEq];refine⟨fun hla=>⟨hla,fun x hx=>⟨fun e=>(yU hA (e▸hx)).symm,fun e=>⟨hla,vx hA hx (fun q=>e q.symm),ax (by omega)⟩⟩⟩,fun hge=>?_⟩;rw[RN (by omega)]at hA;exact(o6 hA).symm
theorem z8(w0:W0)(l:List (List UInt8))(s:List UInt8)(hl:l.length≤4611686018427387904)(S:St):ab Tryz.prog w0 39 [.sl 1 false (aU l),dS (tx s)] S (fun d S'=>d=dB (decide (s∈l))∧S'=S):=by
 refine cR [] mx Tryz.func39 rfl rfl (by kernel_rfl) ?_;simp(maxDischargeDepth:=12) (maxSteps:=1000000) -implicitDefEqProofs only[Tryz.ntmps39,go_sem,Nat.reduceAdd,Nat.reduceSub,Nat.reduceMul,Nat.reduceLeDiff,Nat.reduceEqDiff,Nat.reduceGT,Nat.reduceBEq,reduceCtorEq,↓reduceIte,Int.reduceToNat,Int.reduceLE,Int.reduceLT,Int.reduceNe,Int.reduceEq];refine aq (CX _ l s hl _) ?_;simp(maxDischargeDepth:=12) (maxSteps:=1000000) -implicitDefEqProofs only[go_sem,Nat.reduceAdd,Nat.reduceSub,Nat.reduceMul,Nat.reduceLeDiff,Nat.reduceEqDiff,Nat.reduceGT,Nat.reduceBEq,reduceCtorEq,↓reduceIte,Int.reduceToNat,Int.reduceLE,Int.reduceLT,Int.reduceNe,Int.reduceEq];have:=gJ (l:=l) (s:=s);by_cases h:s∈l
 ·exact⟨fun _=>h,fun _=>Int.not_lt.1 fun q=>this.1 q h⟩
 ·exact⟨fun q=>by have:=this.2 h;omega,fun q=>absurd q h⟩
theorem D5(w0:W0)(n:Int)(S:St):ab Tryz.prog w0 38 [dI n] S (fun d S'=>d=dB (decide (4≤n∧n≤1000))∧S'=S):=by
 refine cR [] mx Tryz.func38 rfl rfl (by kernel_rfl) ?_;simp(maxDischargeDepth:=12) (maxSteps:=1000000) -implicitDefEqProofs only[Tryz.ntmps38,go_sem,Nat.reduceAdd,Nat.reduceSub,Nat.reduceMul,Nat.reduceLeDiff,Nat.reduceEqDiff,Nat.reduceGT,Nat.reduceBEq,reduceCtorEq,↓reduceIte,Int.reduceToNat,Int.reduceLE,Int.reduceLT,Int.reduceNe,Int.reduceEq];refine⟨fun h=>⟨fun q=>⟨h,q⟩,fun q=>q.2⟩,fun h q=>h q.1⟩
structure Cf where
 nm:List (List UInt8)
 up:List Nat
 qu:List Int
 gr:List G
@[go_sem] def nJ (l:List Int):DV:= .sl 1 false (l.map dI)
@[go_sem] def AJ (c:Cf):DV:= .agg [.sl 1 false (aU c.nm),eH c.up,nJ c.qu,lN c.gr]
structure gv(c:Cf):Prop where
 cu:c.nm.length=c.up.length
 eJ:c.qu.length=c.up.length
 tK:qi c.up
 vu:I4 c.up c.gr
 name:∀s,s∈c.nm→bL s
 quo:∀n,n∈c.qu→4≤n∧n≤1000
 uniq:c.nm.Nodup
structure kj(c:Cf):Prop where
 L7:c.nm.length≤1048576
 Od:∀s,s∈c.nm→s.length≤1048576
 Nv:c.up.length≤1048576
 vE:dD c.up
 Nz:c.qu.length≤1048576
 Nl:c.gr.length≤1048576
def Gr(c:Cf)(k:Nat):Prop:=∀i,i<k→∀s n,c.nm[i]? =some s→c.qu[i]? =some n→bL s∧(4≤n∧n≤1000)∧s∉c.nm.take i
theorem yT{c:Cf}(h1:c.nm.length=c.up.length)(h2:c.qu.length=c.up.length):gv c↔qi c.up∧I4 c.up c.gr∧Gr c c.nm.length:=by
 constructor
 ·intro h;refine⟨h.tK,h.vu,fun i hi s n hs hn=>⟨h.name s (Rj hs),h.quo n (Rj hn),fun hm=>?_⟩⟩;obtain⟨j,hj,e⟩:=Th.1 hm;rw[RA]at hj;rw[List.getElem_take]at e;obtain⟨hi',e'⟩:=Rp.1 hs;have:=SQ.1 h.uniq j i (by omega) hi' (by omega);exact this (by rw[e,e'])
 ·rintro⟨a1,a2,a3⟩;have key:∀i,(hi:i<c.nm.length)→bL (c.nm[i])∧(4≤c.qu[i]'(by omega)∧c.qu[i]'(by omega)≤1000)∧c.nm[i]∉c.nm.take i:=fun i hi=>a3 i hi _ _ (so hi) (so (by omega));refine⟨h1,h2,a1,a2,fun s hs=>?_,fun n hn=>?_,?_⟩
  ·obtain⟨i,hi,rfl⟩:=Th.1 hs;exact(key i hi).1
  ·obtain⟨i,hi,rfl⟩:=Th.1 hn;exact(key i (by omega)).2.1
  ·refine SQ.2 fun i j hi hj hij e=>(key j hj).2.2 ?_;rw[←e];exact Th.2 ⟨i,by rw[RA];omega,by rw[List.getElem_take]⟩
theorem tX{c:Cf}{k:Nat}{s:List UInt8}{n:Int}(h:Gr c k)(hs:c.nm[k]? =some s)(hn:c.qu[k]? =some n)(h1:bL s)(h2:4≤n∧n≤1000)(h3:s∉c.nm.take k):Gr c (k+1):=fun i hi s' n' hs' hn'=>by
 by_cases e:i=k
 ·subst e;rw[hs]at hs';rw[hn]at hn';cases hs';cases hn';exact⟨h1,h2,h3⟩
 ·exact h i (by omega) s' n' hs' hn'
theorem Jl{c:Cf}(h2:c.qu.length=c.up.length)(h1:c.nm.length=c.up.length){k:Nat}(hk:k<c.nm.length):∃n,c.qu[k]? =some n:=⟨_,so (by omega)⟩
theorem me(w0:W0)(hg:cV w0)(hk:KU w0)(c:Cf)(hc:kj c)(S:St):ab Tryz.prog w0 15 [AJ c] S (fun d S'=>d=dB (pB (gv c))∧S'=S):=by
 have h1:=hc.L7;have h2:=hc.Nv;have h3:=hc.Nz;have h4:=hc.Nl;refine cR [] mx Tryz.func15 rfl rfl (by kernel_rfl) ?_;simp(maxDischargeDepth:=12) (maxSteps:=1000000) -implicitDefEqProofs only[Tryz.ntmps15,go_sem,Nat.reduceAdd,Nat.reduceSub,Nat.reduceMul,Nat.reduceLeDiff,Nat.reduceEqDiff,Nat.reduceGT,Nat.reduceBEq,reduceCtorEq,↓reduceIte,Int.reduceToNat,Int.reduceLE,Int.reduceLT,Int.reduceNe,Int.reduceEq];intro b;refine⟨fun h hp=>h hp.cu,fun e1=>⟨fun h hp=>h hp.eJ,fun e2=>?_⟩⟩;have e1:=RH.1 e1;have e2:=RH.1 e2;refine aq (O0 _ hg c.up hc.vE (by omega) _) ?_;simp(maxDischargeDepth:=12) (maxSteps:=1000000) -implicitDefEqProofs only[go_sem,Nat.reduceAdd,Nat.reduceSub,Nat.reduceMul,Nat.reduceLeDiff,Nat.reduceEqDiff,Nat.reduceGT,Nat.reduceBEq,reduceCtorEq,↓reduceIte,Int.reduceToNat,Int.reduceLE,Int.reduceLT,Int.reduceNe,Int.reduceEq];refine⟨fun hL hp=>hL hp.tK,fun hL=>aq (Qn _ c.up hc.vE c.gr (by omega) _) ?_⟩;simp(maxDischargeDepth:=12) (maxSteps:=1000000) -implicitDefEqProofs only[go_sem,Nat.reduceAdd,Nat.reduceSub,Nat.reduceMul,Nat.reduceLeDiff,Nat.reduceEqDiff,Nat.reduceGT,Nat.reduceBEq,reduceCtorEq,↓reduceIte,Int.reduceToNat,Int.reduceLE,Int.reduceLT,Int.reduceNe,Int.reduceEq];refine⟨fun hG hp=>hG hp.vu,fun hG=>?_⟩;rw[yT e1 e2];refine bw [] c.nm.length [1,36,37,38] (fun a=>[(38,dI a)]) (fun _=>⟨(b.n,[.sl 1 false (aU c.nm),eH c.up,nJ c.qu,lN c.gr])::S.box,S.acc⟩) (fun a=>Gr c a) mx (by kernel_rfl) ?_ ?_
 ·simp(maxDischargeDepth:=12) (maxSteps:=1000000) -implicitDefEqProofs only[go_sem,Nat.reduceAdd,Nat.reduceSub,Nat.reduceMul,Nat.reduceLeDiff,Nat.reduceEqDiff,Nat.reduceGT,Nat.reduceBEq,reduceCtorEq,↓reduceIte,Int.reduceToNat,Int.reduceLE,Int.reduceLT,Int.reduceNe,Int.reduceEq];intro i hi;omega
 ·intro a ha hA;simp(maxDischargeDepth:=12) (maxSteps:=1000000) -implicitDefEqProofs only[go_sem,Nat.reduceAdd,Nat.reduceSub,Nat.reduceMul,Nat.reduceLeDiff,Nat.reduceEqDiff,Nat.reduceGT,Nat.reduceBEq,reduceCtorEq,↓reduceIte,Int.reduceToNat,Int.reduceLE,Int.reduceLT,Int.reduceNe,Int.reduceEq];refine⟨fun hla=>⟨hla,fun s hs=>?_⟩,fun hge=>?_⟩
  ·refine Exists.elim (Jl e2 e1 hla) fun n hn=>?_;have hsl:=hc.Od s (Rj hs);refine aq (jL _ hk (tx s) (by rw[aP];exact hsl) _) ?_;simp(maxDischargeDepth:=12) (maxSteps:=1000000) -implicitDefEqProofs only[go_sem,Nat.reduceAdd,Nat.reduceSub,Nat.reduceMul,Nat.reduceLeDiff,Nat.reduceEqDiff,Nat.reduceGT,Nat.reduceBEq,reduceCtorEq,↓reduceIte,Int.reduceToNat,Int.reduceLE,Int.reduceLT,Int.reduceNe,Int.reduceEq];refine⟨fun q hp=>q (hp.2.2 a hla s n hs hn).1,fun q=>⟨by omega,fun n' hn'=>?_⟩⟩;rw[hn]at hn';cases hn';refine aq (D5 _ n _) ?_;simp(maxDischargeDepth:=12) (maxSteps:=1000000) -implicitDefEqProofs only[go_sem,Nat.reduceAdd,Nat.reduceSub,Nat.reduceMul,Nat.reduceLeDiff,Nat.reduceEqDiff,Nat.reduceGT,Nat.reduceBEq,reduceCtorEq,↓reduceIte,Int.reduceToNat,Int.reduceLE,Int.reduceLT,Int.reduceNe,Int.reduceEq];refine⟨fun q2 hp=>q2 (hp.2.2 a hla s n hs hn).2.1,fun q2=>⟨by omega,?_⟩⟩;refine aq (z8 _ (c.nm.take a) s (by rw[RA];omega) _) ?_;simp(maxDischargeDepth:=12) (maxSteps:=1000000) -implicitDefEqProofs only[go_sem,Nat.reduceAdd,Nat.reduceSub,Nat.reduceMul,Nat.reduceLeDiff,Nat.reduceEqDiff,Nat.reduceGT,Nat.reduceBEq,reduceCtorEq,↓reduceIte,Int.reduceToNat,Int.reduceLE,Int.reduceLT,Int.reduceNe,Int.reduceEq];have z1:s∈List.take a c.nm→¬(qi c.up∧I4 c.up c.gr∧Gr c c.nm.length):=fun q3 hp=>(hp.2.2 a hla s n hs hn).2.2 q3;have z2:¬s∈List.take a c.nm→Gr c (a+1):=fun q3=>tX hA hs hn (RH.1 q) (RH.1 q2) q3;exact⟨z1,fun q3=>⟨hla,z2 q3,ax (show a<4611686018427387905 by omega)⟩⟩
  ·have e:a=c.nm.length:=by omega
   subst e;exact⟨RH.1 hL,RH.1 hG,hA⟩
theorem rG(w0:W0)(c:Cf)(hc:kj c)(S:St):ab Tryz.prog w0 16 [AJ c] S (fun d S'=>d=dB (pB (gv c))∧S'=S):=by
 have h1:=hc.L7;have h2:=hc.Nv;have h3:=hc.Nz;have h4:=hc.Nl;refine cR [] mx Tryz.func16 rfl rfl (by kernel_rfl) ?_;simp(maxDischargeDepth:=12) (maxSteps:=1000000) -implicitDefEqProofs only[Tryz.ntmps16,go_sem,Nat.reduceAdd,Nat.reduceSub,Nat.reduceMul,Nat.reduceLeDiff,Nat.reduceEqDiff,Nat.reduceGT,Nat.reduceBEq,reduceCtorEq,↓reduceIte,Int.reduceToNat,Int.reduceLE,Int.reduceLT,Int.reduceNe,Int.reduceEq];intro b;refine⟨fun h hp=>h hp.cu,fun e1=>⟨fun h hp=>h (by rw[hp.cu,hp.eJ]),fun e2=>?_⟩⟩;have e1:=RH.1 e1;have e2:c.qu.length=c.up.length:=by rw[←RH.1 e2,e1]
 refine aq (ON _ c.up hc.vE (by omega) _) ?_;simp(maxDischargeDepth:=12) (maxSteps:=1000000) -implicitDefEqProofs only[go_sem,Nat.reduceAdd,Nat.reduceSub,Nat.reduceMul,Nat.reduceLeDiff,Nat.reduceEqDiff,Nat.reduceGT,Nat.reduceBEq,reduceCtorEq,↓reduceIte,Int.reduceToNat,Int.reduceLE,Int.reduceLT,Int.reduceNe,Int.reduceEq];refine⟨fun hL hp=>hL hp.tK,fun hL=>aq (Qs _ c.up hc.vE c.gr (by omega) _) ?_⟩;simp(maxDischargeDepth:=12) (maxSteps:=1000000) -implicitDefEqProofs only[go_sem,Nat.reduceAdd,Nat.reduceSub,Nat.reduceMul,Nat.reduceLeDiff,Nat.reduceEqDiff,Nat.reduceGT,Nat.reduceBEq,reduceCtorEq,↓reduceIte,Int.reduceToNat,Int.reduceLE,Int.reduceLT,Int.reduceNe,Int.reduceEq];refine⟨fun hG hp=>hG hp.vu,fun hG=>?_⟩;rw[yT e1 e2];refine bw [] c.nm.length [1,3] (fun a=>[(3,dI a)]) (fun _=>⟨(b.n,[.sl 1 false (aU c.nm),eH c.up,nJ c.qu,lN c.gr])::S.box,S.acc⟩) (fun a=>Gr c a) mx (by kernel_rfl) ?_ ?_
 ·simp(maxDischargeDepth:=12) (maxSteps:=1000000) -implicitDefEqProofs only[go_sem,Nat.reduceAdd,Nat.reduceSub,Nat.reduceMul,Nat.reduceLeDiff,Nat.reduceEqDiff,Nat.reduceGT,Nat.reduceBEq,reduceCtorEq,↓reduceIte,Int.reduceToNat,Int.reduceLE,Int.reduceLT,Int.reduceNe,Int.reduceEq];intro i hi;omega
 ·intro a ha hA;simp(maxDischargeDepth:=12) (maxSteps:=1000000) -implicitDefEqProofs only[go_sem,Nat.reduceAdd,Nat.reduceSub,Nat.reduceMul,Nat.reduceLeDiff,Nat.reduceEqDiff,Nat.reduceGT,Nat.reduceBEq,reduceCtorEq,↓reduceIte,Int.reduceToNat,Int.reduceLE,Int.reduceLT,Int.reduceNe,Int.reduceEq];refine⟨fun hla=>⟨hla,fun s hs=>?_⟩,fun hge=>?_⟩
  ·refine Exists.elim (Jl e2 e1 hla) fun n hn=>?_;have hsl:=hc.Od s (Rj hs);refine aq (Da _ (tx s) (by rw[aP];exact hsl) _) ?_;simp(maxDischargeDepth:=12) (maxSteps:=1000000) -implicitDefEqProofs only[go_sem,Nat.reduceAdd,Nat.reduceSub,Nat.reduceMul,Nat.reduceLeDiff,Nat.reduceEqDiff,Nat.reduceGT,Nat.reduceBEq,reduceCtorEq,↓reduceIte,Int.reduceToNat,Int.reduceLE,Int.reduceLT,Int.reduceNe,Int.reduceEq];have K:=fun hp:qi c.up∧I4 c.up c.gr∧Gr c c.nm.length=>hp.2.2 a hla s n hs hn;refine⟨fun q hp=>q (K hp).1,fun q=>⟨by omega,fun n' hn'=>?_⟩⟩;obtain rfl:n=n':=RG (hn.symm.trans hn');refine⟨fun q2 hp=>by have:=(K hp).2.1;omega,fun q2=>⟨by omega,fun n' hn'=>?_⟩⟩;obtain rfl:n=n':=RG (hn.symm.trans hn');refine⟨fun q3 hp=>by have:=(K hp).2.1;omega,fun q3=>⟨by omega,by omega,fun s' hs'=>?_⟩⟩;obtain rfl:s=s':=RG (hs.symm.trans hs');refine dL (Jm _ (c.nm.take a) s (by rw[RA];omega) _) ?_;simp(maxDischargeDepth:=12) (maxSteps:=1000000) -implicitDefEqProofs only[go_sem,Nat.reduceAdd,Nat.reduceSub,Nat.reduceMul,Nat.reduceLeDiff,Nat.reduceEqDiff,Nat.reduceGT,Nat.reduceBEq,reduceCtorEq,↓reduceIte,Int.reduceToNat,Int.reduceLE,Int.reduceLT,Int.reduceNe,Int.reduceEq];have fn:=gJ (l:=c.nm.take a) (s:=s);have z1:bB (List.take a c.nm) s≥0→¬(qi c.up∧I4 c.up c.gr∧Gr c c.nm.length):=fun q4 hp=>(K hp).2.2 (RH.1 fun g=>by have:=fn.2 g;omega);have z2:¬bB (List.take a c.nm) s≥0→Gr c (a+1):=fun q4=>tX hA hs hn (RH.1 q) (by omega) (fn.1 (by omega));exact⟨z1,fun q4=>⟨hla,z2 q4,ax (show a<4611686018427387905 by omega)⟩⟩
  ·have e:a=c.nm.length:=by omega
   subst e;exact⟨RH.1 hL,RH.1 hG,hA⟩
abbrev Wd:=List UInt8×Nat
def jC(c:Option Wd)(b:List UInt8)(a:Nat):Wd:=match c with
 |none=>(b,a)
 |some w=>(w.1++b,w.2)
def cj:Nat→Nat→Option Wd→List (Nat×List UInt8)→List Wd×Nat
 |_,e,c,[]=>(c.toList,e)
 |n,e,c,r::t=>
  if r.1=35 then(c.toList,e)
  else if r.1=32∨r.1=9 then(c.toList++(cj (n+1) e none t).1,(cj (n+1) e none t).2)
  else cj (n+1) (n+2) (some (jC c r.2 (n+1))) t
def gP(l:List UInt8):List Wd×Nat:=cj 0 1 none (ak l)
@[go_sem] def dW (w:Wd):DV:= .agg [dS (tx w.1),dI w.2]
theorem lv:∀(R:List (Nat×List UInt8)) (n e:Nat) (c:Option Wd),(cj n e c R).1.length≤R.length+c.toList.length
 |[],n,e,c=>by simp[cj]
 |r::t,n,e,c=>by
  rw[cj];split
  ·simp
  ·split
   ·have:=lv t (n+1) e none;simp at this ⊢;omega
   ·have:=lv t (n+1) (n+2) (some (jC c r.2 (n+1)));simp at this ⊢;omega
def fI(f:Option Nat):Int:=match f with|some x=>(x:Int)|none=> -1
theorem EN{f:Option Nat}:fI f<0↔f=none:=by cases f <;>simp[fI]
@[go_sem] def wS (S:St) (b1 b4 b5 b6 l li:Nat) (s:ByteArray) (k:Nat) (f:Int) (bg:Nat) (W:List Wd):St:=⟨(b6,[dI bg])::(b5,[dI f])::(b4,[.acc l W.length])::(b1,[dS s])::S.box,(l,.arr 2 (W.map dW))::(li,.xo (.si s k))::S.acc⟩
theorem zZ(w0:W0)(S:St)(b1 b4 b5 b6 l li:Nat)(e65:(b6=b5)=False)(e64:(b6=b4)=False)(e61:(b6=b1)=False)(e54:(b5=b4)=False)(e51:(b5=b1)=False)(e41:(b4=b1)=False)(ea:(li=l)=False)
 (s:ByteArray) (hs:s.size≤1048576) (k:Nat) (f:Option Nat) (bg:Nat) (W:List Wd) (hW:W.length≤1048576) (i:Nat) (hi:i≤s.size) (hf:∀x,f=some x→x≤i):
 ab Tryz.prog w0 82 [dI i,.v (.pointer (some ⟨b5,0,none⟩)),.v (.pointer (some ⟨b4,0,none⟩)),.v (.pointer (some ⟨b1,0,none⟩)),.v (.pointer (some ⟨b6,0,none⟩))] (wS S b1 b4 b5 b6 l li s k (fI f) bg W)
  (fun d S'=>d= .bU []∧S'=wS S b1 b4 b5 b6 l li s k (-1) bg (W++(f.map fun x=>((s.data.toList.take i).drop x,bg)).toList)):=by
 have OS:(b5=b6)=False:=by rw[←e65];exact propext eq_comm
 have e46:(b4=b6)=False:=by rw[←e64];exact propext eq_comm
 have e16:(b1=b6)=False:=by rw[←e61];exact propext eq_comm
 have e45:(b4=b5)=False:=by rw[←e54];exact propext eq_comm
 have e15:(b1=b5)=False:=by rw[←e51];exact propext eq_comm
 have e14:(b1=b4)=False:=by rw[←e41];exact propext eq_comm
 have ea':(l=li)=False:=by rw[←ea];exact propext eq_comm
 have hm8:maxLen=9223372036854775807:=rfl
 cases f with
 |none=>
  have hfi:fI none= -1:=rfl;refine yy [] mx Tryz.func82 rfl rfl (by kernel_rfl) ?_;simp only[Tryz.ntmps82,Ru,Sf,Nat.reduceAdd,Nat.reduceSub,List.reduceReplicate,RQ,Sb];simp(maxDischargeDepth:=12) (maxSteps:=1000000) -implicitDefEqProofs only[Tryz.ntmps82,go_sem,Nat.reduceAdd,Nat.reduceSub,Nat.reduceMul,Nat.reduceLeDiff,Nat.reduceEqDiff,Nat.reduceGT,Nat.reduceBEq,reduceCtorEq,↓reduceIte,Int.reduceToNat,Int.reduceLE,Int.reduceLT,Int.reduceNe,Int.reduceEq,e65,e64,e61,e54,e51,e41,OS,e46,e16,e45,e15,e14,ea,ea',hfi];refine⟨fun h=>by omega,fun _=>?_⟩;simp
 |some x=>
  have hx:=hf x rfl;have hfi:fI (some x)=(x:Int):=rfl;refine yy [] mx Tryz.func82 rfl rfl (by kernel_rfl) ?_;simp only[Tryz.ntmps82,Ru,Sf,Nat.reduceAdd,Nat.reduceSub,List.reduceReplicate,RQ,Sb];simp(maxDischargeDepth:=12) (maxSteps:=1000000) -implicitDefEqProofs only[Tryz.ntmps82,go_sem,Nat.reduceAdd,Nat.reduceSub,Nat.reduceMul,Nat.reduceLeDiff,Nat.reduceEqDiff,Nat.reduceGT,Nat.reduceBEq,reduceCtorEq,↓reduceIte,Int.reduceToNat,Int.reduceLE,Int.reduceLT,Int.reduceNe,Int.reduceEq,e65,e64,e61,e54,e51,e41,OS,e46,e16,e45,e15,e14,ea,ea',hfi];refine⟨by omega,hi,by omega,by omega,?_⟩;have e:s.extract x i=tx ((s.data.toList.take i).drop x):=eI (by rw[dm,aK]);rw[e];simp only[R8,dW,Option.toList_some,R6,Rz,SN,Rk,Ru,Sf];rfl
def ov(L:List UInt8)(k:Nat)(c:Option (Nat×Nat)):Option Wd:=c.map fun p=>((L.take k).drop p.1,p.2)
theorem CC{L:List UInt8}{k n a:Nat}(hk:k≤L.length)(c:Option (Nat×Nat))(hc:∀p,c=some p→p.1≤k):some (jC (ov L k c) ((L.drop k).take n) a)=ov L (k+n) (some (c.getD (k,a))):=by
 have hpc:∀f,f≤k→(L.take (k+n)).drop f=(L.take k).drop f++(L.drop k).take n:=fun f hf=>by
  rw[List.take_add,List.drop_append_of_le_length (by rw[RA];omega)]
 cases c with
 |none=>
  have:=hpc k (Ro _);simp only[ov,jC,Option.map_none,Option.getD_none,R6];have e:(L.take k).drop k=[]:=Tp (by rw[RA];omega);rw[this,e,Sb]
 |some p=>
  have:=hpc p.1 (hc p rfl);simp only[ov,jC,R6,To];rw[this]
theorem Kx(w0:W0)(s:ByteArray)(hs:s.size≤1048576)(S:St):ab Tryz.prog w0 53 [dS s] S (fun d S'=>d= .bU [.sl 2 false ((gP s.data.toList).1.map dW),dI (gP s.data.toList).2]∧S'=S):=by
 have hm8:maxLen=9223372036854775807:=rfl;have hsz:=aw s;have hrl:=dC s.data.toList;refine cR [] mx Tryz.func53 rfl rfl (by kernel_rfl) ?_;simp(maxDischargeDepth:=12) (maxSteps:=1000000) -implicitDefEqProofs only[Tryz.ntmps53,go_sem,Nat.reduceAdd,Nat.reduceSub,Nat.reduceMul,Nat.reduceLeDiff,Nat.reduceEqDiff,Nat.reduceGT,Nat.reduceBEq,reduceCtorEq,↓reduceIte,Int.reduceToNat,Int.reduceLE,Int.reduceLT,Int.reduceNe,Int.reduceEq];intro b1 b4 b5 b6;intro li;refine dT b4.n 0 2 (by omega) (ds:=[.sl 0 true []]) (by simp(maxDischargeDepth:=12) (maxSteps:=1000000) -implicitDefEqProofs only[go_sem,Nat.reduceAdd,Nat.reduceSub,Nat.reduceMul,Nat.reduceLeDiff,Nat.reduceEqDiff,Nat.reduceGT,Nat.reduceBEq,reduceCtorEq,↓reduceIte,Int.reduceToNat,Int.reduceLE,Int.reduceLT,Int.reduceNe,Int.reduceEq]) rfl fun l=>?_;have hwl:=lv (ak s.data.toList) 0 1 none
 refine bS [] [1,4,5,6,7,8,9,14] (σ:=Nat×Nat×Nat×Option Nat×Nat×List Wd) (fun p=>[(7,dI p.2.1),(8,dI p.2.2.1)]) (fun p=>wS S b1.n b4.n b5.n b6.n l.n li.n s p.1 (fI p.2.2.2.1) p.2.2.2.2.1 p.2.2.2.2.2)
  (fun p=>p.1≤s.size∧p.2.1≤p.1∧p.2.2.1≤p.2.1+1∧(∀x,p.2.2.2.1=some x→x≤p.1)∧p.2.2.2.2.2++(cj p.2.1 p.2.2.1 (ov s.data.toList p.1 (p.2.2.2.1.map fun x=>(x,p.2.2.2.2.1))) (ak (s.data.toList.drop p.1))).1=(gP s.data.toList).1∧(cj p.2.1 p.2.2.1 (ov s.data.toList p.1 (p.2.2.2.1.map fun x=>(x,p.2.2.2.2.1))) (ak (s.data.toList.drop p.1))).2=(gP s.data.toList).2)
  (fun p=>s.size-p.1) (0,0,1,none,0,[]) mx (by kernel_rfl) ⟨⟨RL _,Ro _,Ro _,(fun x hx=>nomatch hx),rfl,rfl⟩,?_⟩ fun p hp=>?_
 ·simp(maxDischargeDepth:=12) (maxSteps:=1000000) -implicitDefEqProofs only[go_sem,Nat.reduceAdd,Nat.reduceSub,Nat.reduceMul,Nat.reduceLeDiff,Nat.reduceEqDiff,Nat.reduceGT,Nat.reduceBEq,reduceCtorEq,↓reduceIte,Int.reduceToNat,Int.reduceLE,Int.reduceLT,Int.reduceNe,Int.reduceEq];exact .refl _
 ·obtain⟨k,n,e,f,bg,W⟩:=p;obtain⟨hk1,hn1,he1,hf1,hW,hE⟩:=hp;dsimp only at hk1 hn1 he1 hf1 hW hE
  have hWl:W.length≤s.size:=by
   have h1:=congrArg List.length hW;rw[Rk]at h1;have h2:(gP s.data.toList).1.length≤_:=hwl;simp at h2;omega
  have e65:(b6.n=b5.n)=False:=by simp(maxDischargeDepth:=12) (maxSteps:=1000000) -implicitDefEqProofs only[go_sem,Nat.reduceAdd,Nat.reduceSub,Nat.reduceMul,Nat.reduceLeDiff,Nat.reduceEqDiff,Nat.reduceGT,Nat.reduceBEq,reduceCtorEq,↓reduceIte,Int.reduceToNat,Int.reduceLE,Int.reduceLT,Int.reduceNe,Int.reduceEq]
  have e64:(b6.n=b4.n)=False:=by simp(maxDischargeDepth:=12) (maxSteps:=1000000) -implicitDefEqProofs only[go_sem,Nat.reduceAdd,Nat.reduceSub,Nat.reduceMul,Nat.reduceLeDiff,Nat.reduceEqDiff,Nat.reduceGT,Nat.reduceBEq,reduceCtorEq,↓reduceIte,Int.reduceToNat,Int.reduceLE,Int.reduceLT,Int.reduceNe,Int.reduceEq]
  have e61:(b6.n=b1.n)=False:=by simp(maxDischargeDepth:=12) (maxSteps:=1000000) -implicitDefEqProofs only[go_sem,Nat.reduceAdd,Nat.reduceSub,Nat.reduceMul,Nat.reduceLeDiff,Nat.reduceEqDiff,Nat.reduceGT,Nat.reduceBEq,reduceCtorEq,↓reduceIte,Int.reduceToNat,Int.reduceLE,Int.reduceLT,Int.reduceNe,Int.reduceEq]
  have e54:(b5.n=b4.n)=False:=by simp(maxDischargeDepth:=12) (maxSteps:=1000000) -implicitDefEqProofs only[go_sem,Nat.reduceAdd,Nat.reduceSub,Nat.reduceMul,Nat.reduceLeDiff,Nat.reduceEqDiff,Nat.reduceGT,Nat.reduceBEq,reduceCtorEq,↓reduceIte,Int.reduceToNat,Int.reduceLE,Int.reduceLT,Int.reduceNe,Int.reduceEq]
  have e51:(b5.n=b1.n)=False:=by simp(maxDischargeDepth:=12) (maxSteps:=1000000) -implicitDefEqProofs only[go_sem,Nat.reduceAdd,Nat.reduceSub,Nat.reduceMul,Nat.reduceLeDiff,Nat.reduceEqDiff,Nat.reduceGT,Nat.reduceBEq,reduceCtorEq,↓reduceIte,Int.reduceToNat,Int.reduceLE,Int.reduceLT,Int.reduceNe,Int.reduceEq]
  have e41:(b4.n=b1.n)=False:=by simp(maxDischargeDepth:=12) (maxSteps:=1000000) -implicitDefEqProofs only[go_sem,Nat.reduceAdd,Nat.reduceSub,Nat.reduceMul,Nat.reduceLeDiff,Nat.reduceEqDiff,Nat.reduceGT,Nat.reduceBEq,reduceCtorEq,↓reduceIte,Int.reduceToNat,Int.reduceLE,Int.reduceLT,Int.reduceNe,Int.reduceEq]
  have ea:(li.n=l.n)=False:=by simp(maxDischargeDepth:=12) (maxSteps:=1000000) -implicitDefEqProofs only[go_sem,Nat.reduceAdd,Nat.reduceSub,Nat.reduceMul,Nat.reduceLeDiff,Nat.reduceEqDiff,Nat.reduceGT,Nat.reduceBEq,reduceCtorEq,↓reduceIte,Int.reduceToNat,Int.reduceLE,Int.reduceLT,Int.reduceNe,Int.reduceEq]
  simp(maxDischargeDepth:=12) (maxSteps:=1000000) -implicitDefEqProofs only[go_sem,Nat.reduceAdd,Nat.reduceSub,Nat.reduceMul,Nat.reduceLeDiff,Nat.reduceEqDiff,Nat.reduceGT,Nat.reduceBEq,reduceCtorEq,↓reduceIte,Int.reduceToNat,Int.reduceLE,Int.reduceLT,Int.reduceNe,Int.reduceEq];have hl1:=fH (L:=s.data.toList) (k:=k);have hl2:=mJ (L:=s.data.toList) (k:=k);have hD:Utf8.decode s k=dl (s.data.toList.drop k):=ew s k;generalize Utf8.decode s k=D at hD ⊢;rw[←hD]at hl1 hl2;obtain⟨c,m⟩:=D;dsimp only at hl1 hl2 ⊢;have hop:ov s.data.toList k (f.map fun x=>(x,bg))=f.map fun x=>((s.data.toList.take k).drop x,bg):=by cases f <;>rfl
  have go:k<s.size→(c:Int)≠35→(c:Int)≠32→(c:Int)≠9→∀bg',(∀x,f=some x→bg'=bg)→(f=none→bg'=n+1)→W++(cj (n+1) (n+2) (ov s.data.toList (k+m) (some (f.getD k,bg'))) (ak (s.data.toList.drop (k+m)))).1=(gP s.data.toList).1∧(cj (n+1) (n+2) (ov s.data.toList (k+m) (some (f.getD k,bg'))) (ak (s.data.toList.drop (k+m)))).2=(gP s.data.toList).2:=by
   intro hk q1 q2 q3 bg' g1 g2;rw[hl1 (by omega),cj,if_neg (by dsimp only;omega),if_neg (by dsimp only;omega)]at hW hE;dsimp only at hW hE
   have e1:some (jC (ov s.data.toList k (f.map fun x=>(x,bg))) ((s.data.toList.drop k).take m) (n+1))=ov s.data.toList (k+m) (some (f.getD k,bg')):=by
    rw[CC (by omega) _ (fun p hp=>by
     obtain⟨x,hx,rfl⟩:=Rw.1 hp;exact hf1 x hx)]
    cases f with
    |none=>rw[g2 rfl];rfl
    |some x=>rw[g1 x rfl];rfl
   rw[e1]at hW hE;exact⟨hW,hE⟩
  have hst:k<s.size→(c:Int)=32∨(c:Int)=9→(W++(f.map fun x=>((s.data.toList.take k).drop x,bg)).toList)++(cj (n+1) e none (ak (s.data.toList.drop (k+m)))).1=(gP s.data.toList).1∧(cj (n+1) e none (ak (s.data.toList.drop (k+m)))).2=(gP s.data.toList).2:=by
   intro hk q;rw[hl1 (by omega),cj,if_neg (by dsimp only;omega),if_pos (by dsimp only;omega)]at hW hE;rw[hop]at hW;exact⟨by rw[RJ];exact hW,hE⟩
  have h35':k<s.size→(c:Int)=35→W++(f.map fun x=>((s.data.toList.take k).drop x,bg)).toList=(gP s.data.toList).1∧e=(gP s.data.toList).2:=by
   intro hk q;rw[hl1 (by omega),cj,if_pos (by dsimp only;omega)]at hW hE;rw[hop]at hW;exact⟨hW,hE⟩
  have hend:¬k<s.size→W++(f.map fun x=>((s.data.toList.take s.size).drop x,bg)).toList=(gP s.data.toList).1∧e=(gP s.data.toList).2:=by
   intro hk;rw[dz (by omega),cj,hop]at hW;rw[dz (by omega),cj]at hE;have:k=s.size:=by omega
   rw[←this];exact⟨hW,hE⟩
  have w1:IntKind.i64.wrap ((n:Int)+1)=((n+1:Nat):Int):=by rw[kx (by omega) (by omega)];omega
  have w2:IntKind.i64.wrap (((n+1:Nat):Int)+1)=((n+2:Nat):Int):=by rw[kx (by omega) (by omega)];omega
  rw[w1,w2];clear hW hE hl1 hD;refine⟨fun hk=>?_,fun hk=>⟨fun h35=>?_,fun h35=>?_⟩⟩
  ·refine bQ (zZ _ S b1.n b4.n b5.n b6.n l.n li.n e65 e64 e61 e54 e51 e41 ea s hs k f bg W (by omega) s.size (Ro _) (fun x hx=>by have:=hf1 x hx;omega)) ?_;rintro _ _ ⟨rfl,rfl⟩;simp(maxDischargeDepth:=12) (maxSteps:=1000000) -implicitDefEqProofs only[go_sem,Nat.reduceAdd,Nat.reduceSub,Nat.reduceMul,Nat.reduceLeDiff,Nat.reduceEqDiff,Nat.reduceGT,Nat.reduceBEq,reduceCtorEq,↓reduceIte,Int.reduceToNat,Int.reduceLE,Int.reduceLT,Int.reduceNe,Int.reduceEq];rw[(hend hk).1,(hend hk).2];exact .refl _
  ·refine bQ (zZ _ S b1.n b4.n b5.n b6.n l.n li.n e65 e64 e61 e54 e51 e41 ea s hs (k+m) f bg W (by omega) k (by omega) hf1) ?_;rintro _ _ ⟨rfl,rfl⟩;simp(maxDischargeDepth:=12) (maxSteps:=1000000) -implicitDefEqProofs only[go_sem,Nat.reduceAdd,Nat.reduceSub,Nat.reduceMul,Nat.reduceLeDiff,Nat.reduceEqDiff,Nat.reduceGT,Nat.reduceBEq,reduceCtorEq,↓reduceIte,Int.reduceToNat,Int.reduceLE,Int.reduceLT,Int.reduceNe,Int.reduceEq];rw[(h35' hk h35).1,(h35' hk h35).2];exact .refl _
  ·have hl2:=hl2 (by omega);refine⟨fun h32=>⟨fun _=>?_,fun h=>absurd h32 h⟩,fun h32=>⟨fun h9=>?_,fun h9=>⟨fun hf=>?_,fun hf=>?_⟩⟩⟩
   ·skip
    refine bQ (zZ _ S b1.n b4.n b5.n b6.n l.n li.n e65 e64 e61 e54 e51 e41 ea s hs (k+m) f bg W (by omega) k (by omega) hf1) ?_;rintro _ _ ⟨rfl,rfl⟩;simp(maxDischargeDepth:=12) (maxSteps:=1000000) -implicitDefEqProofs only[go_sem,Nat.reduceAdd,Nat.reduceSub,Nat.reduceMul,Nat.reduceLeDiff,Nat.reduceEqDiff,Nat.reduceGT,Nat.reduceBEq,reduceCtorEq,↓reduceIte,Int.reduceToNat,Int.reduceLE,Int.reduceLT,Int.reduceNe,Int.reduceEq];have z:=hst hk (.inl h32);refine⟨(k+m,n+1,e,none,bg,W++(f.map fun x=>((s.data.toList.take k).drop x,bg)).toList),⟨by dsimp only;omega,by dsimp only;omega,by dsimp only;omega,(fun x hx=>nomatch hx),z.1,z.2⟩,by dsimp only;omega,⟨rfl,rfl⟩,by dsimp only;rw[Rk];exact .refl _⟩
   ·skip
    refine bQ (zZ _ S b1.n b4.n b5.n b6.n l.n li.n e65 e64 e61 e54 e51 e41 ea s hs (k+m) f bg W (by omega) k (by omega) hf1) ?_;rintro _ _ ⟨rfl,rfl⟩;simp(maxDischargeDepth:=12) (maxSteps:=1000000) -implicitDefEqProofs only[go_sem,Nat.reduceAdd,Nat.reduceSub,Nat.reduceMul,Nat.reduceLeDiff,Nat.reduceEqDiff,Nat.reduceGT,Nat.reduceBEq,reduceCtorEq,↓reduceIte,Int.reduceToNat,Int.reduceLE,Int.reduceLT,Int.reduceNe,Int.reduceEq];have z:=hst hk (.inr h9);refine⟨(k+m,n+1,e,none,bg,W++(f.map fun x=>((s.data.toList.take k).drop x,bg)).toList),⟨by dsimp only;omega,by dsimp only;omega,by dsimp only;omega,(fun x hx=>nomatch hx),z.1,z.2⟩,by dsimp only;omega,⟨rfl,rfl⟩,by dsimp only;rw[Rk];exact .refl _⟩
   ·have hfn:f=none:=EN.1 hf;have z:=go hk h35 h32 h9 (n+1) (fun x hx=>by rw[hfn]at hx;cases hx) (fun _=>rfl);rw[hfn]at z;refine⟨(k+m,n+1,n+2,some k,n+1,W),⟨by dsimp only;omega,by dsimp only;omega,by dsimp only;omega,fun x hx=>by cases hx;dsimp only;omega,z.1,z.2⟩,by dsimp only;omega,⟨rfl,rfl⟩,.refl _⟩
   ·have hfn:∃x,f=some x:=Option.ne_none_iff_exists'.1 fun e=>hf (EN.2 e);refine Exists.elim hfn fun x hx=>?_;have z:=go hk h35 h32 h9 bg (fun x hx=>rfl) (fun q=>by rw[q]at hx;cases hx);rw[hx]at z;rw[hx];refine⟨(k+m,n+1,n+2,some x,bg,W),⟨by dsimp only;omega,by dsimp only;omega,by dsimp only;omega,fun y hy=>by cases hy;have:=hf1 x hx;dsimp only;omega,z.1,z.2⟩,by dsimp only;omega,⟨rfl,rfl⟩,.refl _⟩
theorem LK(l:List UInt8):(dl l).2≤4:=by
 unfold dl;rw[Lib.decodeL_N];rcases Lib.decodeN_shape l.length (l.getD 0 0).toNat (l.getD 1 0).toNat (l.getD 2 0).toNat (l.getD 3 0).toNat with⟨c,e⟩|⟨c1,c2,c3,cv,e⟩|⟨c1,c2,c3,c4,cv,cs,e⟩|⟨c1,c2,c3,c4,c5,cv,cw,e⟩|e <;>rw[e] <;>simp
theorem GM(w0:W0)(s:ByteArray)(hs:s.size≤1048576)(i d:Nat)(h1:1≤d)(h2:d≤(dl (s.data.toList.drop i)).2)(h3:i+d<s.size)(S:St):
 ab Tryz.prog w0 59 [dS s,dI i,dI ((i+d:Nat):Int)] S (fun e S'=>e=dB (decide (d=(dl (s.data.toList.drop i)).2))∧S'=S):=by
 have hsz:=aw s;refine cR [] mx Tryz.func59 rfl rfl (by kernel_rfl) ?_;simp(maxDischargeDepth:=12) (maxSteps:=1000000) -implicitDefEqProofs only[Tryz.ntmps59,go_sem,Nat.reduceAdd,Nat.reduceSub,Nat.reduceMul,Nat.reduceLeDiff,Nat.reduceEqDiff,Nat.reduceGT,Nat.reduceBEq,reduceCtorEq,↓reduceIte,Int.reduceToNat,Int.reduceLE,Int.reduceLT,Int.reduceNe,Int.reduceEq];refine⟨by omega,fun li=>?_⟩;obtain⟨t,ht⟩:∃t,s.extract i s.size=t:=⟨_,rfl⟩;have htl:t.data.toList=s.data.toList.drop i:=by rw[←ht,dm,RN (by omega)]
 have htz:t.size+i=s.size:=by rw[←aw t,htl,RP];omega
 obtain⟨m,hm⟩:∃m,(dl (s.data.toList.drop i)).2=m:=⟨_,rfl⟩;rw[hm]at h2 ⊢;rw[ht];refine bS [] [1,2,7,12] (σ:=Nat×Nat) (fun p=>[(7,dI p.2)]) (fun p=>⟨S.box,(li.n,.xo (.si t p.1))::S.acc⟩) (fun p=>p.1≤t.size∧p.2≤p.1∧((p.1=0∧p.2=0)∨(1≤p.2∧m≤p.1∧(d=m→p.1=m)))) (fun p=>t.size-p.1) (0,0) mx (by kernel_rfl) ⟨⟨RL _,Ro _,.inl ⟨rfl,rfl⟩⟩,?_⟩ fun p hp=>?_
 ·simp(maxDischargeDepth:=12) (maxSteps:=1000000) -implicitDefEqProofs only[go_sem,Nat.reduceAdd,Nat.reduceSub,Nat.reduceMul,Nat.reduceLeDiff,Nat.reduceEqDiff,Nat.reduceGT,Nat.reduceBEq,reduceCtorEq,↓reduceIte,Int.reduceToNat,Int.reduceLE,Int.reduceLT,Int.reduceNe,Int.reduceEq]
 ·obtain⟨k,n⟩:=p;obtain⟨hk1,hn1,hp⟩:=hp;dsimp only at hk1 hn1 hp;simp(maxDischargeDepth:=12) (maxSteps:=1000000) -implicitDefEqProofs only[go_sem,Nat.reduceAdd,Nat.reduceSub,Nat.reduceMul,Nat.reduceLeDiff,Nat.reduceEqDiff,Nat.reduceGT,Nat.reduceBEq,reduceCtorEq,↓reduceIte,Int.reduceToNat,Int.reduceLE,Int.reduceLT,Int.reduceNe,Int.reduceEq]
  have hdec:k<t.size→1≤(Utf8.decode t k).2∧k+(Utf8.decode t k).2≤t.size∧(k=0→(Utf8.decode t k).2=m):=by
   intro hk;have hd:=ew t k;have h:=mJ (L:=t.data.toList) (k:=k) (by rw[aw];exact hk);unfold dl at h;rw[←hd,aw]at h;refine⟨h.1,h.2,fun e=>?_⟩;rw[hd,e,List.drop_zero,htl];exact hm
  generalize (Utf8.decode t k).2=q at hdec ⊢;refine⟨fun hk e=>?_,fun hk=>?_⟩
  ·rcases hp with⟨p1,p2⟩|⟨p1,p2,p3⟩
   ·omega
   ·have:=p3 e;omega
  ·obtain⟨z1,z2,z3⟩:=hdec hk;have w1:IntKind.i64.wrap ((i:Int)+(k:Int))=((i+k:Nat):Int):=by rw[kx (by omega) (by omega)];omega
   rw[w1,show IntKind.i64.wrap ((n:Int)+1)=((n+1:Nat):Int)from ax (by omega)];refine⟨fun hn=>⟨fun e=>?_,fun e=>?_⟩,fun hn=>?_⟩
   ·rcases hp with⟨p1,p2⟩|⟨p1,p2,p3⟩ <;>omega
   ·refine⟨(k+q,n+1),⟨by dsimp only;omega,by dsimp only;omega,.inr ⟨by dsimp only;omega,?_,fun hd=>?_⟩⟩,by dsimp only;omega,rfl,.refl _⟩
    ·rcases hp with⟨p1,p2⟩|⟨p1,p2,p3⟩ <;>dsimp only <;>omega
    ·rcases hp with⟨p1,p2⟩|⟨p1,p2,p3⟩
     ·omega
     ·have:=p3 hd;omega
   ·have e0:k=0:=by rcases hp with⟨p1,p2⟩|⟨p1,p2,p3⟩ <;>omega
    have:=z3 e0;refine⟨(k+q,n+1),⟨by dsimp only;omega,by dsimp only;omega,.inr ⟨by dsimp only;omega,by dsimp only;omega,fun hd=>by dsimp only;omega⟩⟩,by dsimp only;omega,rfl,.refl _⟩
theorem CL(w0:W0)(s:ByteArray)(hs:s.size≤1048576)(S:St):ab Tryz.prog w0 26 [dS s] S (fun d S'=>d= .bU [.sl 2 false ((gP s.data.toList).1.map dW),dI (gP s.data.toList).2]∧S'=S):=by
 have hm8:maxLen=9223372036854775807:=rfl;have hsz:=aw s;have hrl:=dC s.data.toList;have hwl:=lv (ak s.data.toList) 0 1 none;refine cR [] mx Tryz.func26 rfl rfl (by kernel_rfl) ?_;simp(maxDischargeDepth:=12) (maxSteps:=1000000) -implicitDefEqProofs only[Tryz.ntmps26,go_sem,Nat.reduceAdd,Nat.reduceSub,Nat.reduceMul,Nat.reduceLeDiff,Nat.reduceEqDiff,Nat.reduceGT,Nat.reduceBEq,reduceCtorEq,↓reduceIte,Int.reduceToNat,Int.reduceLE,Int.reduceLT,Int.reduceNe,Int.reduceEq];intro li;refine vU 4 2 rfl (by omega) fun l=>?_
 refine bS [1002] [0,4,5,6,7,12] (σ:=Nat×Nat×Nat×Option Wd×List Wd) (fun p=>[(4,.acc l.n (p.2.2.2.2++p.2.2.2.1.toList).length),(5,dI p.2.1),(6,dI p.2.2.1),(7,dB p.2.2.2.1.isSome)]) (fun p=>⟨S.box,(l.n,.arr 2 ((p.2.2.2.2++p.2.2.2.1.toList).map dW))::(li.n,.xo (.si s p.1))::S.acc⟩)
  (fun p=>p.1≤s.size∧p.2.1≤p.1∧p.2.2.1≤p.2.1+1∧(p.2.2.2.2++p.2.2.2.1.toList).length≤p.1∧(∀w,p.2.2.2.1=some w→w.1.length≤p.1)∧p.2.2.2.2++(cj p.2.1 p.2.2.1 p.2.2.2.1 (ak (s.data.toList.drop p.1))).1=(gP s.data.toList).1∧(cj p.2.1 p.2.2.1 p.2.2.2.1 (ak (s.data.toList.drop p.1))).2=(gP s.data.toList).2)
  (fun p=>s.size-p.1) (0,0,1,none,[]) mx (by kernel_rfl) ⟨⟨RL _,Ro _,Ro _,Ro _,(fun x hx=>nomatch hx),rfl,rfl⟩,?_⟩ fun p hp=>?_
 ·simp(maxDischargeDepth:=12) (maxSteps:=1000000) -implicitDefEqProofs only[go_sem,Nat.reduceAdd,Nat.reduceSub,Nat.reduceMul,Nat.reduceLeDiff,Nat.reduceEqDiff,Nat.reduceGT,Nat.reduceBEq,reduceCtorEq,↓reduceIte,Int.reduceToNat,Int.reduceLE,Int.reduceLT,Int.reduceNe,Int.reduceEq];exact⟨.refl _,.refl _⟩
 ·obtain⟨k,n,e,c,W⟩:=p;obtain⟨hk1,hn1,he1,hWl,hcl,hW,hE⟩:=hp;dsimp only at hk1 hn1 he1 hWl hcl hW hE;simp(maxDischargeDepth:=12) (maxSteps:=1000000) -implicitDefEqProofs only[go_sem,Nat.reduceAdd,Nat.reduceSub,Nat.reduceMul,Nat.reduceLeDiff,Nat.reduceEqDiff,Nat.reduceGT,Nat.reduceBEq,reduceCtorEq,↓reduceIte,Int.reduceToNat,Int.reduceLE,Int.reduceLT,Int.reduceNe,Int.reduceEq];rw[Rk]at hWl;have hl1:=fH (L:=s.data.toList) (k:=k);have hl2:=mJ (L:=s.data.toList) (k:=k);have hl4:=LK (s.data.toList.drop k);have hD:Utf8.decode s k=dl (s.data.toList.drop k):=ew s k;have hbeg:=fun T d g1 g2 g3=>GM w0 s hs k d g1 g2 g3 T;rw[←hD]at hl1 hl2 hl4 hbeg;generalize Utf8.decode s k=D at hD hl1 hl2 hl4 hbeg ⊢;obtain⟨r,m⟩:=D;dsimp only at hl1 hl2 hl4 hbeg ⊢;clear hD;have w1:IntKind.i64.wrap ((n:Int)+1)=((n+1:Nat):Int):=ax (by omega);rw[w1]
  have hst:k<s.size→(r:Int)≠35→(r:Int)=32∨(r:Int)=9→(W++c.toList)++(cj (n+1) e none (ak (s.data.toList.drop (k+m)))).1=(gP s.data.toList).1∧(cj (n+1) e none (ak (s.data.toList.drop (k+m)))).2=(gP s.data.toList).2:=by
   intro hk q0 q;rw[hl1 (by omega),cj,if_neg (by dsimp only;omega),if_pos (by dsimp only;omega)]at hW hE;exact⟨by rw[RJ];exact hW,hE⟩
  have go:k<s.size→(r:Int)≠35→(r:Int)≠32→(r:Int)≠9→W++(cj (n+1) (n+2) (some (jC c ((s.data.toList.drop k).take m) (n+1))) (ak (s.data.toList.drop (k+m)))).1=(gP s.data.toList).1∧(cj (n+1) (n+2) (some (jC c ((s.data.toList.drop k).take m) (n+1))) (ak (s.data.toList.drop (k+m)))).2=(gP s.data.toList).2:=by
   intro hk q1 q2 q3;rw[hl1 (by omega),cj,if_neg (by dsimp only;omega),if_neg (by dsimp only;omega)]at hW hE;exact⟨hW,hE⟩
  have h35:k<s.size→(r:Int)=35→W++c.toList=(gP s.data.toList).1∧e=(gP s.data.toList).2:=by
   intro hk q;rw[hl1 (by omega),cj,if_pos (by dsimp only;omega)]at hW hE;exact⟨hW,hE⟩
  have hend:¬k<s.size→W++c.toList=(gP s.data.toList).1∧e=(gP s.data.toList).2:=by
   intro hk;rw[dz (by omega),cj]at hW hE;exact⟨hW,hE⟩
  clear hW hE hl1;refine⟨fun hk=>?_,fun hk=>⟨fun q=>?_,fun q0=>⟨fun q=>?_,fun q1=>⟨fun q=>?_,fun q2=>?_⟩⟩⟩⟩
  ·rw[(hend hk).1,(hend hk).2];exact .refl _
  ·rw[(h35 hk q).1,(h35 hk q).2];exact .refl _
  ·have z:=hst hk q0 (.inl q);have hl2:=hl2 (by omega);exact⟨(k+m,n+1,e,none,W++c.toList),⟨by dsimp only;omega,by dsimp only;omega,by dsimp only;omega,by simp;omega,(fun x hx=>nomatch hx),z.1,z.2⟩,by dsimp only;omega,⟨by simp;exact .refl _,rfl,rfl,rfl⟩,by simp;exact .refl _⟩
  ·have z:=hst hk q0 (.inr q);have hl2:=hl2 (by omega);exact⟨(k+m,n+1,e,none,W++c.toList),⟨by dsimp only;omega,by dsimp only;omega,by dsimp only;omega,by simp;omega,(fun x hx=>nomatch hx),z.1,z.2⟩,by dsimp only;omega,⟨by simp;exact .refl _,rfl,rfl,rfl⟩,by simp;exact .refl _⟩
  ·have z:=go hk q0 q1 q2;have hl2:=hl2 (by omega);refine Nn (σ:=Unit) [] [0,4,5,7,8,10,12] (fun _=>[(10,dI (m:Int))]) (fun _=>⟨S.box,(l.n,.arr 2 ((W++c.toList).map dW))::(li.n,.xo (.si s (k+m)))::S.acc⟩) (fun _=>True) mx (by kernel_rfl) ?_ ?_
   ·simp(maxDischargeDepth:=12) (maxSteps:=1000000) -implicitDefEqProofs only[go_sem,Nat.reduceAdd,Nat.reduceSub,Nat.reduceMul,Nat.reduceLeDiff,Nat.reduceEqDiff,Nat.reduceGT,Nat.reduceBEq,reduceCtorEq,↓reduceIte,Int.reduceToNat,Int.reduceLE,Int.reduceLT,Int.reduceNe,Int.reduceEq];refine bw [] (m-1) [0,4,5,7,8,10,12] (fun a=>[(10,dI ((a+1:Nat):Int))]) (fun _=>⟨S.box,(l.n,.arr 2 ((W++c.toList).map dW))::(li.n,.xo (.si s (k+m)))::S.acc⟩) (fun _=>True) mx (by kernel_rfl) ?_ ?_
    ·simp(maxDischargeDepth:=12) (maxSteps:=1000000) -implicitDefEqProofs only[go_sem,Nat.reduceAdd,Nat.reduceSub,Nat.reduceMul,Nat.reduceLeDiff,Nat.reduceEqDiff,Nat.reduceGT,Nat.reduceBEq,reduceCtorEq,↓reduceIte,Int.reduceToNat,Int.reduceLE,Int.reduceLT,Int.reduceNe,Int.reduceEq]
    ·intro a ha _;simp(maxDischargeDepth:=12) (maxSteps:=1000000) -implicitDefEqProofs only[go_sem,Nat.reduceAdd,Nat.reduceSub,Nat.reduceMul,Nat.reduceLeDiff,Nat.reduceEqDiff,Nat.reduceGT,Nat.reduceBEq,reduceCtorEq,↓reduceIte,Int.reduceToNat,Int.reduceLE,Int.reduceLT,Int.reduceNe,Int.reduceEq];have w3:IntKind.i64.wrap ((k:Int)+((a+1:Nat):Int))=((k+(a+1):Nat):Int):=by rw[kx (by omega) (by omega)];omega
     rw[w3];refine⟨fun q3=>⟨fun q4=>?_,fun q4=>⟨(),by omega⟩⟩,fun q3=>⟨(),by omega⟩⟩;refine aq (hbeg _ (a+1) (by omega) (by omega) (by omega)) ?_;simp(maxDischargeDepth:=12) (maxSteps:=1000000) -implicitDefEqProofs only[go_sem,Nat.reduceAdd,Nat.reduceSub,Nat.reduceMul,Nat.reduceLeDiff,Nat.reduceEqDiff,Nat.reduceGT,Nat.reduceBEq,reduceCtorEq,↓reduceIte,Int.reduceToNat,Int.reduceLE,Int.reduceLT,Int.reduceNe,Int.reduceEq];exact⟨fun q=>⟨by omega,ax (by omega)⟩,fun q=>⟨(),RH.1 q⟩⟩
   ·intro _ _;simp(maxDischargeDepth:=12) (maxSteps:=1000000) -implicitDefEqProofs only[go_sem,Nat.reduceAdd,Nat.reduceSub,Nat.reduceMul,Nat.reduceLeDiff,Nat.reduceEqDiff,Nat.reduceGT,Nat.reduceBEq,reduceCtorEq,↓reduceIte,Int.reduceToNat,Int.reduceLE,Int.reduceLT,Int.reduceNe,Int.reduceEq];have w4:IntKind.i64.wrap ((k:Int)+(m:Int))=((k+m:Nat):Int):=by rw[kx (by omega) (by omega)];omega
    have w5:IntKind.i64.wrap (((n+1:Nat):Int)+1)=((n+2:Nat):Int):=by rw[kx (by omega) (by omega)];omega
    have hx:s.extract k (k+m)=tx ((s.data.toList.drop k).take m):=eI (by rw[dm,aK,List.take_drop,Te]);have hxl:((s.data.toList.drop k).take m).length=m:=by rw[RA,RP];omega
    rw[w4,w5];refine⟨fun hc=>?_,fun hc=>?_⟩
    ·refine Exists.elim (Td.1 hc) fun w hw=>?_;subst hw;have e1:IntKind.i64.wrap (((W.length+(some w).toList.length:Nat):Int)-1)=(W.length:Int):=by simp;rw[kx (by omega) (by omega)]
     have hg:∀a,(W++(some w).toList)[((W.length:Int)).toNat]? =some a→a=w:=by
      intro a ha;simp at ha;exact ha.symm
     have hwl:=hcl w rfl;rw[e1];have e0:(some w).toList.length=1:=rfl;refine⟨by omega,by omega,by omega,fun a ha=>⟨by omega,by omega,?_,by omega,by omega,by omega,fun a2 ha2=>?_⟩⟩
     ·obtain rfl:=hg a ha;rw[aP];have:(s.extract k ((k+m:Nat):Int).toNat).size≤s.size:=by rw[ByteArray.size_extract];omega
      omega
     ·obtain rfl:=hg a ha;obtain rfl:=hg a2 ha2;refine⟨(k+m,n+1,n+2,some (jC (some a2) ((s.data.toList.drop k).take m) (n+1)),W),⟨by dsimp only;omega,by dsimp only;omega,by dsimp only;omega,?_,?_,z.1,z.2⟩,by dsimp only;omega,⟨.refl _,rfl,rfl,rfl⟩,?_⟩
      ·simp at hWl ⊢;omega
      ·intro x hx;cases hx;simp only[jC,Rk];omega
      ·dsimp only;rw[show(((k+m:Nat):Int)).toNat=k+m from by omega,hx,xc,show((W.length:Nat):Int).toNat=W.length from by omega]
       have:(List.map dW (W++(some a2).toList)).set W.length (.agg [.v (.string (tx (a2.1++(s.data.toList.drop k).take m))),.v (.int .i64 (a2.2:Int))])=List.map dW (W++(some (jC (some a2) (List.take m (List.drop k s.data.toList)) (n+1))).toList):=by
        rw[R8,R8,S8 _ _ (by simp)];simp[jC,dW];exact⟨rfl,rfl⟩
       rw[this];exact .refl _
    ·have hw:c=none:=by cases c <;>simp_all
     subst hw;have e1:IntKind.i64.wrap (((W.length+(none:Option Wd).toList.length+1:Nat):Int)-1)=(W.length:Int):=by simp;rw[kx (by omega) (by omega)]
     have e3:W++(none:Option Wd).toList=W:=RU W;have e4:(none:Option Wd).toList.length=0:=rfl;have e5:((W.length:Nat):Int).toNat=W.length:=by omega
     rw[e1,e3,e4,e5]
     have hex:∀x F,wa (List.map dW W++[x]) W.length F=(dA x=true∧F x):=by
      intro x F;unfold wa;rw[RO (by simp)];simp
     have hset:∀x y,(List.map dW W++[x]).set W.length y=List.map dW W++[y]:=by
      intro x y;rw[S8 _ _ (by simp)];simp
     simp(maxDischargeDepth:=12) (maxSteps:=1000000) -implicitDefEqProofs only[go_sem,Nat.reduceAdd,Nat.reduceSub,Nat.reduceMul,Nat.reduceLeDiff,Nat.reduceEqDiff,Nat.reduceGT,Nat.reduceBEq,reduceCtorEq,↓reduceIte,Int.reduceToNat,Int.reduceLE,Int.reduceLT,Int.reduceNe,Int.reduceEq,hset,hex];have hee:ByteArray.empty=tx []:=rfl;have hz0:(tx []).size=0:=rfl;rw[hx,hee,xc,Sb,hz0,aP,hxl];refine⟨by omega,by omega,by omega,by omega,by omega,(k+m,n+1,n+2,some (jC none ((s.data.toList.drop k).take m) (n+1)),W),⟨by dsimp only;omega,by dsimp only;omega,by dsimp only;omega,?_,?_,z.1,z.2⟩,by dsimp only;omega,⟨.refl _,rfl,rfl,rfl⟩,?_⟩
     ·simp at hWl ⊢;omega
     ·intro x hx;cases hx;simp only[jC];omega
     ·dsimp only;rw[R8];exact .refl _
def qU(c:UInt8):Bool:=decide (48≤c.toNat∧c.toNat≤57)
def dQ(a:Nat)(s:List UInt8):Nat:=s.foldl (fun a c=>10*a+(c.toNat-48)) a
theorem fx(a:Nat):dQ a []=a:=by unfold dQ;exact List.foldl_nil
theorem fb(a:Nat)(c:UInt8)(r:List UInt8):dQ a (c::r)=dQ (10*a+(c.toNat-48)) r:=by unfold dQ;exact SP ..
def dM(s:List UInt8):Prop:=s.all qU=true∧s.length≤4∧4≤dQ 0 s∧dQ 0 s≤1000
instance (s:List UInt8):Decidable (dM s):=by unfold dM;exact inferInstance
def iD(s:List UInt8):Nat:=if dM s then dQ 0 s else 0
theorem Dr{s:List UInt8}:0<iD s↔dM s:=by
 unfold iD;split
 ·rename_i h;exact⟨fun _=>h,fun _=>by have:=h.2.2.1;omega⟩
 ·rename_i h;exact⟨fun q=>by omega,fun q=>absurd q h⟩
theorem ia{c:UInt8}:qU c=true↔48≤c.toNat∧c.toNat≤57:=decide_eq_true_iff
theorem mg{c:UInt8}{r:List UInt8}:(c::r).all qU=true↔qU c=true∧r.all qU=true:=by rw[SU,Rm]
theorem tE:∀(s:List UInt8) (a:Nat),s.all qU=true→dQ a s<(a+1)*10^s.length
 |[],a,_=>by rw[fx,Sf,Nat.pow_zero];omega
 |c::r,a,h=>by
  have h:=mg.1 h;have hc:=ia.1 h.1;have ih:=tE r (10*a+(c.toNat-48)) h.2;rw[fb,Ru,SK];refine Sx ih ?_;rw[Nat.mul_comm (10^r.length) 10,←Nat.mul_assoc];exact RZ _ (by omega)
theorem rh:∀(s:List UInt8) (a:Nat),s.all qU=true→(a+1)*10^s.length≤1000000000000000→Lib.parseUint10 a s= .ok (dQ a s)
 |[],a,_,_=>rfl
 |c::r,a,h,hb=>by
  have h:=mg.1 h;have hc:=ia.1 h.1;rw[Ru,SK,Nat.mul_comm (10^r.length) 10,←Nat.mul_assoc]at hb;have hp:1≤10^r.length:=Nat.pow_pos (by decide);have hb2:(a+1)*10≤1000000000000000:=Se (Nat.le_mul_of_pos_right _ hp) hb;have ih:=rh r (10*a+(c.toNat-48)) h.2 (Se (RZ _ (by omega)) hb);simp only[Lib.parseUint10];rw[if_pos (by omega),if_neg (by omega),if_neg (by omega),fb,←ih];congr 1;omega
theorem LP{s:List UInt8}(h:s.all qU=true)(hl:s.length≤4)(hne:s≠[]):JU s=dQ 0 s:=by
 have hp:10^s.length≤10^4:=SV (by decide) hl;have h10:(10:Nat)^4=10000:=rfl;have hv:=tE s 0 h
 have hm:Lib.parseMag s= .ok (dQ 0 s):=by
  unfold Lib.parseMag;rw[if_neg hne,rh s 0 h (by omega)]
 unfold JU
 cases s with
 |nil=>exact absurd rfl hne
 |cons c r=>
  have hc:=ia.1 (mg.1 h).1;simp only[Lib.atoiAll];rw[if_neg (by omega),hm];dsimp only;rw[if_neg (by omega),if_neg (by omega),if_neg (by omega)]
def FA:List UInt8:=[48,49,50,51,52,53,54,55,56,57]
theorem IZ(c:UInt8):FA.contains c=qU c:=by
 have:∀n:Fin 256,FA.contains (UInt8.ofNat n.val)=qU (UInt8.ofNat n.val):=by decide +kernel
 have:=this ⟨c.toNat,c.toNat_lt⟩;simpa using this
theorem dropWhile_nil{p:UInt8→Bool}:∀{l:List UInt8},l.dropWhile p=[]↔l.all p=true
 |[]=>by simp
 |c::l=>by
  rw[List.dropWhile_cons,SU];cases h:p c
  ·simp
  ·simp[dropWhile_nil (l:=l)]
theorem Gm{s:List UInt8}:Lib.trimS s FA=[]↔s.all qU=true:=by
 unfold Lib.trimS Lib.trimLeftS Lib.trimRightS;have e:(fun x=>FA.contains x)=qU:=funext IZ;rw[e,dropWhile_nil,List.all_reverse];constructor
 ·intro h;have h1:∀x,x∈s.reverse.dropWhile qU→qU x=true:=fun x hx=>RD.1 h x hx
  cases hd:s.reverse.dropWhile qU with
  |nil=>rw[dropWhile_nil,List.all_reverse]at hd;exact hd
  |cons x t=>
   have h2:=h1 x (by rw[hd];simp);have h3:=List.head?_dropWhile_not qU s.reverse;rw[hd]at h3;simp[h2]at h3
 ·intro h;have:(s.reverse.dropWhile qU)=[]:=dropWhile_nil.2 (by rw[List.all_reverse];exact h);rw[this];rfl
theorem nB{s:List UInt8}(h:dM s):iD s=dQ 0 s:=if_pos h
theorem rL{s:List UInt8}(h:¬dM s):iD s=0:=if_neg h
theorem zq(w0:W0)(hk:KE w0)(s:List UInt8)(hs:s.length≤1048576)(S:St):ab Tryz.prog w0 88 [dS (tx s)] S (fun d S'=>d=dI (iD s:Int)∧S'=S):=by
 have hz:(tx s).size≤1048576:=by rw[aP];exact hs
 have hd:(⟨#[48,49,50,51,52,53,54,55,56,57]⟩:ByteArray).data.toList=FA:=rfl;refine cR [] mx Tryz.func88 rfl rfl (by kernel_rfl) ?_;simp(maxDischargeDepth:=12) (maxSteps:=1000000) -implicitDefEqProofs only[Tryz.ntmps88,go_sem,Nat.reduceAdd,Nat.reduceSub,Nat.reduceMul,Nat.reduceLeDiff,Nat.reduceEqDiff,Nat.reduceGT,Nat.reduceBEq,reduceCtorEq,↓reduceIte,Int.reduceToNat,Int.reduceLE,Int.reduceLT,Int.reduceNe,Int.reduceEq];refine aq (NH _ hk.1 (tx s) ⟨#[48,49,50,51,52,53,54,55,56,57]⟩ hz (by decide) (by decide) _) ?_;simp(maxDischargeDepth:=12) (maxSteps:=1000000) -implicitDefEqProofs only[go_sem,Nat.reduceAdd,Nat.reduceSub,Nat.reduceMul,Nat.reduceLeDiff,Nat.reduceEqDiff,Nat.reduceGT,Nat.reduceBEq,reduceCtorEq,↓reduceIte,Int.reduceToNat,Int.reduceLE,Int.reduceLT,Int.reduceNe,Int.reduceEq,hd];refine bQ (Np _ hk (tx s) hz _) ?_;rintro _ _ ⟨⟨e,rfl,he⟩,rfl⟩;simp(maxDischargeDepth:=12) (maxSteps:=1000000) -implicitDefEqProofs only[go_sem,Nat.reduceAdd,Nat.reduceSub,Nat.reduceMul,Nat.reduceLeDiff,Nat.reduceEqDiff,Nat.reduceGT,Nat.reduceBEq,reduceCtorEq,↓reduceIte,Int.reduceToNat,Int.reduceLE,Int.reduceLT,Int.reduceNe,Int.reduceEq];have h0:Lib.trimS s [48,49,50,51,52,53,54,55,56,57]=[]↔s.all qU=true:=Gm (s:=s);rw[aP];refine⟨fun h=>by rw[rL fun q=>h (h0.2 q.1)];rfl,fun h=>⟨fun h2=>by rw[rL fun q=>by have:=q.2.1;omega];rfl,fun h2=>aq (D5 _ _ _) ?_⟩⟩;have h:=h0.1 (RH.1 h);have hv:s≠[]→JU s=dQ 0 s:=LP h (by omega);have hv0:s=[]→JU s=0:=fun e=>by rw[e];rfl
 have hv1:s=[]→dQ 0 s=0:=fun e=>by rw[e];exact fx 0
 have hva:JU s=dQ 0 s:=by
  by_cases e:s=[]
  ·rw[hv0 e,hv1 e];rfl
  ·exact hv e
 rw[hva];simp(maxDischargeDepth:=12) (maxSteps:=1000000) -implicitDefEqProofs only[go_sem,Nat.reduceAdd,Nat.reduceSub,Nat.reduceMul,Nat.reduceLeDiff,Nat.reduceEqDiff,Nat.reduceGT,Nat.reduceBEq,reduceCtorEq,↓reduceIte,Int.reduceToNat,Int.reduceLE,Int.reduceLT,Int.reduceNe,Int.reduceEq];refine⟨fun q=>by rw[rL fun q'=>q (by have:=q'.2.2;omega)];rfl,fun q=>?_⟩;have q:=RH.1 q;rw[nB ⟨h,by omega,by omega,by omega⟩]
theorem zH(w0:W0)(s:List UInt8)(hs:s.length≤1048576)(S:St):ab Tryz.prog w0 61 [dS (tx s)] S (fun d S'=>d=dI (if dM s then(dQ 0 s:Int)else -1)∧S'=S):=by
 have hz:(tx s).size=s.length:=aP s;refine cR [] mx Tryz.func61 rfl rfl (by kernel_rfl) ?_;simp(maxDischargeDepth:=12) (maxSteps:=1000000) -implicitDefEqProofs only[Tryz.ntmps61,go_sem,Nat.reduceAdd,Nat.reduceSub,Nat.reduceMul,Nat.reduceLeDiff,Nat.reduceEqDiff,Nat.reduceGT,Nat.reduceBEq,reduceCtorEq,↓reduceIte,Int.reduceToNat,Int.reduceLE,Int.reduceLT,Int.reduceNe,Int.reduceEq];refine bS [] [0,3,4] (σ:=Nat) (fun k=>[(3,dI (dQ 0 (s.take k):Int)),(4,dI k)]) (fun _=>S) (fun k=>k≤s.length∧k≤4∧(s.take k).all qU=true) (fun k=>s.length-k) 0 mx (by kernel_rfl) ⟨⟨RL _,by omega,rfl⟩,?_⟩ fun k hk=>?_
 ·simp(maxDischargeDepth:=12) (maxSteps:=1000000) -implicitDefEqProofs only[go_sem,Nat.reduceAdd,Nat.reduceSub,Nat.reduceMul,Nat.reduceLeDiff,Nat.reduceEqDiff,Nat.reduceGT,Nat.reduceBEq,reduceCtorEq,↓reduceIte,Int.reduceToNat,Int.reduceLE,Int.reduceLT,Int.reduceNe,Int.reduceEq];rw[fx];rfl
 ·obtain⟨hk1,hk2,hk3⟩:=hk;simp(maxDischargeDepth:=12) (maxSteps:=1000000) -implicitDefEqProofs only[go_sem,Nat.reduceAdd,Nat.reduceSub,Nat.reduceMul,Nat.reduceLeDiff,Nat.reduceEqDiff,Nat.reduceGT,Nat.reduceBEq,reduceCtorEq,↓reduceIte,Int.reduceToNat,Int.reduceLE,Int.reduceLT,Int.reduceNe,Int.reduceEq];rw[hz];have hno:¬dM s→(-1:Int)=if dM s then(dQ 0 s:Int)else -1:=fun h=>by rw[if_neg h]
  have hvl:=tE (s.take k) 0 hk3;have hp:10^(s.take k).length≤10^4:=SV (by decide) (by rw[RA];omega);have h10:(10:Nat)^4=10000:=rfl;have hnum:k<s.length→∀c,s[k]? =some c→dM s→qU c=true∧k<4:=fun h c hc q=>⟨RD.1 q.1 c (Rj hc),by have:=q.2.1;omega⟩;refine⟨fun hlt=>⟨hlt,fun c hc=>?_⟩,fun hge=>?_⟩
  ·have hN:=hnum hlt c hc;refine⟨fun q=>hno fun g=>by have:=ia.1 (hN g).1;omega,fun q=>⟨hlt,fun c' hc'=>?_⟩⟩;obtain rfl:c=c':=RG (hc.symm.trans hc');refine⟨fun q2=>hno fun g=>by have:=ia.1 (hN g).1;omega,fun q2=>⟨hlt,fun c' hc'=>?_⟩⟩;obtain rfl:c=c':=RG (hc.symm.trans hc');refine⟨fun q3=>hno fun g=>by have:=(hN g).2;omega,fun q3=>⟨k+1,⟨by omega,by omega,?_⟩,by omega,?_,ax (by omega)⟩⟩
   ·rw[Sm,hc,List.all_append,hk3];simp only[Option.toList_some,SU,List.all_nil,Bool.and_true,Tk];exact ia.2 ⟨by omega,by omega⟩
   ·have e1:dQ 0 (s.take (k+1))=10*dQ 0 (s.take k)+(c.toNat-48):=by
     rw[Sm,hc];unfold dQ;rw[Tj];rfl
    have e2:IntKind.u8.wrap ((c.toNat:Int)-48)=((c.toNat-48:Nat):Int):=by
     have e:IntKind.u8.wrap ((c.toNat:Int)-48)=((c.toNat:Int)-48)%256:=rfl;rw[e];omega
    rw[e1,e2,kx (n:=((dQ 0 (List.take k s):Nat):Int)*10) (by omega) (by omega),kx (n:=((c.toNat-48:Nat):Int)) (by omega) (by omega),kx (by omega) (by omega)];omega
  ·have ek:k=s.length:=by omega
   rw[ek,List.take_length]at hk3 ⊢;refine⟨fun q=>hno fun g=>?_,fun q=>⟨fun q2=>hno fun g=>?_,fun q2=>⟨fun q3=>hno fun g=>?_,fun q3=>?_⟩⟩⟩
   ·have:=g.2.2.1;rw[q,fx]at this;omega
   ·have:=g.2.2.1;omega
   ·have:=g.2.2.2;omega
   ·rw[if_pos ⟨hk3,by omega,by omega,by omega⟩]
theorem rk{P:Program}{w0:W0}(b j s:Nat)(hs:0<s){c:Code}{fr:List DV}{S:St}{Q:Exit→List DV→St→Prop}{ds:List DV}{s0:Nat}(hb:lk S.box b=some ds)(hi:ds[j]? =some (.sl s0 true []))
 (h:∀l:FN S.acc,fK P w0 c fr ⟨up S.box b (ds.set j (.acc l.n 0)),(l.n,.tl s [])::S.acc⟩ Q):fK P w0 c fr S Q:=by
 intro g a w h1 h2 h3;obtain⟨ow,o1,o2⟩:=h1.own;obtain⟨q1,q2,q3,us,e,q4,q5,q6⟩:=o1 _ _ (bd hb);have hlt:j<us.toList.length:=by rw[←q5.len];exact(Rp.1 hi).1
 have hr:=q5.at_ j _ _ hi (so hlt);have hr':aA g (.sl s true []) us.toList[j]:=by obtain⟨o',ho'⟩:=cq hr;rw[ho'];exact .nil _ _ _ _ fun _=>rfl
 obtain⟨l,g',hle,hne,hR,hA⟩:=h1.oX hs hr' (.tl s []) (.inl rfl);have hR':=hR.zw (ds':=ds.set j (.acc l 0)) (b:=b) hb ?_
 ·exact bC (h ⟨l,bN hne⟩ g' a w hR' (h2.mono hle) (hle.dk h3)) fun _ _ _ k=>k.of_le hle
 ·intro us' e' hh hr2;rw[hh]at q4;cases q4;exact fc hr2 (so hlt) hA
def Cd(w0:W0)(S:St)(n:Int):Prop:=∀T,Has S T→w0.pq (.fN 83 (dI n)) T
structure iF(S:St)(bp:Nat)(nm:List (List UInt8)):Prop where
 at_:∃ln u q g,lk S.box bp=some [.acc ln nm.length,u,q,g]∧lk S.acc ln=some (.tl 1 (aU nm))
theorem iF.mono{S T:St}{bp:Nat}{nm:List (List UInt8)}(h:iF S bp nm)(hT:Has S T):iF T bp nm:=by
 obtain⟨ln,u,q,g,h1,h2⟩:=h.at_;exact⟨ln,u,q,g,hT.box _ _ h1,hT.acc _ _ h2⟩
theorem yD(w0:W0)(S:St)(bp:Nat)(nm:List (List UInt8))(hN:iF S bp nm)(hl:nm.length≤64)(s:List UInt8):ab Tryz.prog w0 87 [.v (.pointer (some ⟨bp,0,none⟩)),dS (tx s)] S (fun d S'=>d=dI (bB nm s)∧S'=S):=by
 obtain⟨ln,u,q,g,h1,h2⟩:=hN.at_;refine cR [] mx Tryz.func87 rfl rfl (by kernel_rfl) ?_;simp(maxDischargeDepth:=12) (maxSteps:=1000000) -implicitDefEqProofs only[Tryz.ntmps87,go_sem,Nat.reduceAdd,Nat.reduceSub,Nat.reduceMul,Nat.reduceLeDiff,Nat.reduceEqDiff,Nat.reduceGT,Nat.reduceBEq,reduceCtorEq,↓reduceIte,Int.reduceToNat,Int.reduceLE,Int.reduceLT,Int.reduceNe,Int.reduceEq,h1,h2];refine .inr (aq (CX _ nm s (by omega) _) ?_);simp(maxDischargeDepth:=12) (maxSteps:=1000000) -implicitDefEqProofs only[go_sem,Nat.reduceAdd,Nat.reduceSub,Nat.reduceMul,Nat.reduceLeDiff,Nat.reduceEqDiff,Nat.reduceGT,Nat.reduceBEq,reduceCtorEq,↓reduceIte,Int.reduceToNat,Int.reduceLE,Int.reduceLT,Int.reduceNe,Int.reduceEq]
def jE(s:List UInt8):Bool:=decide (s=[108,97,98,101,108]∨s=[117,110,100,101,114]∨s=[103,114,97,110,116])
theorem tc(w0:W0)(S:St)(s:List UInt8):ab Tryz.prog w0 85 [dS (tx s)] S (fun d S'=>d=dB (jE s)∧S'=S):=by
 refine cR [] mx Tryz.func85 rfl rfl (by kernel_rfl) ?_;simp(maxDischargeDepth:=12) (maxSteps:=1000000) -implicitDefEqProofs only[Tryz.ntmps85,go_sem,Nat.reduceAdd,Nat.reduceSub,Nat.reduceMul,Nat.reduceLeDiff,Nat.reduceEqDiff,Nat.reduceGT,Nat.reduceBEq,reduceCtorEq,↓reduceIte,Int.reduceToNat,Int.reduceLE,Int.reduceLT,Int.reduceNe,Int.reduceEq];unfold jE;refine⟨fun h=>by simp[h],fun h=>⟨fun h2=>by simp[h2],fun h2=>by simp[h,h2]⟩⟩
theorem KY(w0:W0)(hk:KE w0)(S:St)(s:List UInt8)(hs:s.length≤1048576):ab Tryz.prog w0 89 [dS (tx s)] S (fun d S'=>d=dB (decide (dM s))∧S'=S):=by
 refine cR [] mx Tryz.func89 rfl rfl (by kernel_rfl) ?_;simp(maxDischargeDepth:=12) (maxSteps:=1000000) -implicitDefEqProofs only[Tryz.ntmps89,go_sem,Nat.reduceAdd,Nat.reduceSub,Nat.reduceMul,Nat.reduceLeDiff,Nat.reduceEqDiff,Nat.reduceGT,Nat.reduceBEq,reduceCtorEq,↓reduceIte,Int.reduceToNat,Int.reduceLE,Int.reduceLT,Int.reduceNe,Int.reduceEq];refine aq (zq _ hk s hs _) ?_;simp(maxDischargeDepth:=12) (maxSteps:=1000000) -implicitDefEqProofs only[go_sem,Nat.reduceAdd,Nat.reduceSub,Nat.reduceMul,Nat.reduceLeDiff,Nat.reduceEqDiff,Nat.reduceGT,Nat.reduceBEq,reduceCtorEq,↓reduceIte,Int.reduceToNat,Int.reduceLE,Int.reduceLT,Int.reduceNe,Int.reduceEq];rw[←Dr];exact⟨fun h=>by omega,fun h=>by omega⟩
def jY(nm:List (List UInt8))(s:List UInt8):Prop:=bL s∧s∉nm∧nm.length<64
theorem Ky(w0:W0)(hk:KU w0)(S:St)(bp b2:Nat)(h2:lk S.box b2=some [.v (.pointer (some ⟨bp,0,none⟩))])(nm:List (List UInt8))(hN:iF S bp nm)(hl:nm.length≤64)(s:List UInt8)(hs:s.length≤1048576):ab Tryz.prog w0 86 [dS (tx s),.v (.pointer (some ⟨b2,0,none⟩))] S (fun d S'=>d=dB (pB (jY nm s))∧S'=S):=by
 obtain⟨ln,u,q,g,h1,h3⟩:=hN.at_;refine cR [] mx Tryz.func86 rfl rfl (by kernel_rfl) ?_;simp only[Tryz.ntmps86,Ru,Sf,Nat.reduceAdd,Nat.reduceSub,List.reduceReplicate,RQ,Sb];simp(maxDischargeDepth:=12) (maxSteps:=1000000) -implicitDefEqProofs only[Tryz.ntmps86,go_sem,Nat.reduceAdd,Nat.reduceSub,Nat.reduceMul,Nat.reduceLeDiff,Nat.reduceEqDiff,Nat.reduceGT,Nat.reduceBEq,reduceCtorEq,↓reduceIte,Int.reduceToNat,Int.reduceLE,Int.reduceLT,Int.reduceNe,Int.reduceEq,h1,h2,h3];refine aq (jL _ hk (tx s) (by rw[aP];exact hs) _) ?_;simp(maxDischargeDepth:=12) (maxSteps:=1000000) -implicitDefEqProofs only[go_sem,Nat.reduceAdd,Nat.reduceSub,Nat.reduceMul,Nat.reduceLeDiff,Nat.reduceEqDiff,Nat.reduceGT,Nat.reduceBEq,reduceCtorEq,↓reduceIte,Int.reduceToNat,Int.reduceLE,Int.reduceLT,Int.reduceNe,Int.reduceEq,h1,h2,h3];refine⟨fun hnm=>aq (yD _ S bp nm hN hl s) ?_,fun hnm hp=>hnm hp.1⟩;simp(maxDischargeDepth:=12) (maxSteps:=1000000) -implicitDefEqProofs only[go_sem,Nat.reduceAdd,Nat.reduceSub,Nat.reduceMul,Nat.reduceLeDiff,Nat.reduceEqDiff,Nat.reduceGT,Nat.reduceBEq,reduceCtorEq,↓reduceIte,Int.reduceToNat,Int.reduceLE,Int.reduceLT,Int.reduceNe,Int.reduceEq,h1,h2,h3];have hf:=gJ (l:=nm) (s:=s);exact⟨fun q=>⟨fun q2=>⟨RH.1 fun g=>by first|exact g hnm|exact absurd hnm g,hf.1 q,by omega⟩,fun q2=>by have:=q2.2.2;omega⟩,fun q q2=>q (hf.2 q2.2.1)⟩
theorem He(w0:W0)(S:St)(bp b2:Nat)(h2:lk S.box b2=some [.v (.pointer (some ⟨bp,0,none⟩))])(nm:List (List UInt8))(hN:iF S bp nm)(hl:nm.length≤64)(s:List UInt8):ab Tryz.prog w0 122 [dS (tx s),.v (.pointer (some ⟨b2,0,none⟩))] S (fun d S'=>d=dB (decide (s∈nm))∧S'=S):=by
 refine cR [] mx Tryz.func122 rfl rfl (by kernel_rfl) ?_;simp only[Tryz.ntmps122,Ru,Sf,Nat.reduceAdd,Nat.reduceSub,List.reduceReplicate,RQ,Sb];simp(maxDischargeDepth:=12) (maxSteps:=1000000) -implicitDefEqProofs only[Tryz.ntmps122,go_sem,Nat.reduceAdd,Nat.reduceSub,Nat.reduceMul,Nat.reduceLeDiff,Nat.reduceEqDiff,Nat.reduceGT,Nat.reduceBEq,reduceCtorEq,↓reduceIte,Int.reduceToNat,Int.reduceLE,Int.reduceLT,Int.reduceNe,Int.reduceEq,h2];refine aq (yD _ S bp nm hN hl s) ?_;simp(maxDischargeDepth:=12) (maxSteps:=1000000) -implicitDefEqProofs only[go_sem,Nat.reduceAdd,Nat.reduceSub,Nat.reduceMul,Nat.reduceLeDiff,Nat.reduceEqDiff,Nat.reduceGT,Nat.reduceBEq,reduceCtorEq,↓reduceIte,Int.reduceToNat,Int.reduceLE,Int.reduceLT,Int.reduceNe,Int.reduceEq];have:=gJ (l:=nm) (s:=s);by_cases h:s∈nm
 ·exact⟨fun _=>h,fun _=>Int.not_lt.1 fun q=>this.1 q h⟩
 ·exact⟨fun q=>by have:=this.2 h;omega,fun q=>absurd q h⟩
@[go_sem] def mC (ws:List Wd) (e:Nat):List DV:=[.sl 2 false (ws.map dW),dI e]
theorem yL(w0:W0)(S:St)(br:Nat)(ws:List Wd)(e:Nat)(hr:lk S.box br=some (mC ws e))(F:FuncId)(hF:okF Tryz.prog F=true)(cap:Array Value)(hcap:cap.toList.all (fun u=>u.oneCell')=true)(isb:List UInt8→Bool)
 (his:∀T w,Has S T→w∈ws→ab Tryz.prog w0 F (dS (tx w.1)::cap.toList.map .v) T (fun d T'=>d=dB (isb w.1)∧T'=T))
 (hq0:ws=[]→Cd w0 S e) (hq1:∀w t,ws=w::t→isb w.1=false→Cd w0 S w.2):
 ab Tryz.prog w0 84 [.v (.pointer (some ⟨br,0,none⟩)),.v (.func (.func F) #[] cap)] S (fun d S'=>∃w t,ws=w::t∧isb w.1=true∧d=dS (tx w.1)∧S'=⟨up S.box br (mC t e),S.acc⟩):=by
 cases ws with
 |nil=>
  refine yy [] mx Tryz.func84 rfl rfl (by kernel_rfl) ?_;simp(maxDischargeDepth:=12) (maxSteps:=1000000) -implicitDefEqProofs only[Tryz.ntmps84,go_sem,Nat.reduceAdd,Nat.reduceSub,Nat.reduceMul,Nat.reduceLeDiff,Nat.reduceEqDiff,Nat.reduceGT,Nat.reduceBEq,reduceCtorEq,↓reduceIte,Int.reduceToNat,Int.reduceLE,Int.reduceLT,Int.reduceNe,Int.reduceEq,hr];exact hq0 rfl S (.refl S)
 |cons w t=>
  refine Oq [] mx Tryz.func84 rfl rfl (by kernel_rfl) ?_;simp(maxDischargeDepth:=12) (maxSteps:=1000000) -implicitDefEqProofs only[go_sem,Nat.reduceAdd,Nat.reduceSub,Nat.reduceMul,Nat.reduceLeDiff,Nat.reduceEqDiff,Nat.reduceGT,Nat.reduceBEq,reduceCtorEq,↓reduceIte,Int.reduceToNat,Int.reduceLE,Int.reduceLT,Int.reduceNe,Int.reduceEq,Tryz.ntmps84,hr];refine⟨fun h=>by omega,fun _=>⟨by omega,fun b=>⟨hcap,?_⟩⟩⟩;have eb:=fm b hr;have hH:∀ds,Has S ⟨(b.n,ds)::S.box,S.acc⟩:=fun ds=>(Has.refl S).oL b ds rfl;rw[hF];simp(maxDischargeDepth:=12) (maxSteps:=1000000) -implicitDefEqProofs only[go_sem,Nat.reduceAdd,Nat.reduceSub,Nat.reduceMul,Nat.reduceLeDiff,Nat.reduceEqDiff,Nat.reduceGT,Nat.reduceBEq,reduceCtorEq,↓reduceIte,Int.reduceToNat,Int.reduceLE,Int.reduceLT,Int.reduceNe,Int.reduceEq];refine aq (his _ w (hH _) (by simp)) ?_;simp(maxDischargeDepth:=12) (maxSteps:=1000000) -implicitDefEqProofs only[go_sem,Nat.reduceAdd,Nat.reduceSub,Nat.reduceMul,Nat.reduceLeDiff,Nat.reduceEqDiff,Nat.reduceGT,Nat.reduceBEq,reduceCtorEq,↓reduceIte,Int.reduceToNat,Int.reduceLE,Int.reduceLT,Int.reduceNe,Int.reduceEq,eb,hr];exact⟨fun q=>⟨by omega,_,⟨up S.box br (mC t e),S.acc⟩,.refl _,⟨.cons _ (.refl _),.refl _⟩,w,t,rfl,q,rfl,rfl⟩,fun q=>hq1 w t rfl q _ (hH _)⟩
theorem rm(w0:W0)(S:St)(br b3:Nat)(h3:lk S.box b3=some [.v (.pointer (some ⟨br,0,none⟩))])(ws:List Wd)(e:Nat)(hr:lk S.box br=some (mC ws e))(hq:∀w t,ws=w::t→Cd w0 S w.2):
 ab Tryz.prog w0 83 [.v (.pointer (some ⟨b3,0,none⟩))] S (fun d S'=>ws=[]∧d= .bU []∧S'=S):=by
 cases ws with
 |nil=>
  refine yy [] mx Tryz.func83 rfl rfl (by kernel_rfl) ?_;simp only[Tryz.ntmps83,Ru,Sf,Nat.reduceAdd,Nat.reduceSub,List.reduceReplicate,RQ,Sb];simp(maxDischargeDepth:=12) (maxSteps:=1000000) -implicitDefEqProofs only[Tryz.ntmps83,go_sem,Nat.reduceAdd,Nat.reduceSub,Nat.reduceMul,Nat.reduceLeDiff,Nat.reduceEqDiff,Nat.reduceGT,Nat.reduceBEq,reduceCtorEq,↓reduceIte,Int.reduceToNat,Int.reduceLE,Int.reduceLT,Int.reduceNe,Int.reduceEq,hr,h3];exact fun h=>by omega
 |cons w t=>
  refine yy [] mx Tryz.func83 rfl rfl (by kernel_rfl) ?_;simp only[Tryz.ntmps83,Ru,Sf,Nat.reduceAdd,Nat.reduceSub,List.reduceReplicate,RQ,Sb];simp(maxDischargeDepth:=12) (maxSteps:=1000000) -implicitDefEqProofs only[Tryz.ntmps83,go_sem,Nat.reduceAdd,Nat.reduceSub,Nat.reduceMul,Nat.reduceLeDiff,Nat.reduceEqDiff,Nat.reduceGT,Nat.reduceBEq,reduceCtorEq,↓reduceIte,Int.reduceToNat,Int.reduceLE,Int.reduceLT,Int.reduceNe,Int.reduceEq,hr,h3];exact⟨fun _=>⟨by omega,hq w t rfl S (.refl S)⟩,fun h=>by omega⟩
theorem tq{A B C:St}(h:Has A B)(k:Has B C):Has A C:=⟨fun b x hb=>k.box b x (h.box b x hb),fun l o hl=>k.acc l o (h.acc l o hl)⟩
theorem pE(X:St)(b:Nat)(ds:List DV):Has (Y.Bd [b] X) ⟨up X.box b ds,X.acc⟩:=⟨fun c x hc=>by
 by_cases h:Y.y0 [b] c
 ·rw[Y.gC h]at hc;cases hc
 ·rw[Y.j5 h]at hc;have hne:¬b=c:=fun e=>h (.inl e);show lk (up X.box b ds) c=some x;rw[jd hne];exact hc,fun l o hl=>hl⟩
theorem iF.up{S:St}{bp b:Nat}{nm:List (List UInt8)}(h:iF S bp nm)(hb:(b=bp)=False)(ds:List DV):iF ⟨up S.box b ds,S.acc⟩ bp nm:=by
 obtain⟨ln,u,q,g,h1,h2⟩:=h.at_;exact⟨ln,u,q,g,by rw[jd (fun e=>hb.mp e)];exact h1,h2⟩
theorem iF.cons{S:St}{bp:Nat}{nm:List (List UInt8)}(h:iF S bp nm)(b:FN S.box)(ds:List DV):iF ⟨(b.n,ds)::S.box,S.acc⟩ bp nm:=h.mono ((Has.refl S).oL b ds rfl)
theorem fG(w0:W0)(S:St)(bp br:Nat)(hne:(br=bp)=False)(nm:List (List UInt8))(hN:iF S bp nm)(hl:nm.length≤64)(ws:List Wd)(e:Nat)(hr:lk S.box br=some (mC ws e))
 (hq0:ws=[]→Cd w0 S e) (hq1:∀w t,ws=w::t→w.1∉nm→Cd w0 S w.2):
 ab Tryz.prog w0 90 [.v (.pointer (some ⟨bp,0,none⟩)),.v (.pointer (some ⟨br,0,none⟩))] S (fun d S'=>∃w t,ws=w::t∧w.1∈nm∧d=dI (bB nm w.1)∧S'=⟨up S.box br (mC t e),S.acc⟩):=by
 refine Oq [1] mx Tryz.func90 rfl rfl (by kernel_rfl) ?_;simp(maxDischargeDepth:=12) (maxSteps:=1000000) -implicitDefEqProofs only[go_sem,Nat.reduceAdd,Nat.reduceSub,Nat.reduceMul,Nat.reduceLeDiff,Nat.reduceEqDiff,Nat.reduceGT,Nat.reduceBEq,reduceCtorEq,↓reduceIte,Int.reduceToNat,Int.reduceLE,Int.reduceLT,Int.reduceNe,Int.reduceEq,Tryz.ntmps90];intro b2;have eb:=fm b2 hr;have eb':(br=b2.n)=False:=by rw[←eb];exact propext eq_comm
 refine Y.MM [br] [3,4] [] [1,2,0,3,4,5] mx (by kernel_rfl) ?_
 have hb2:lk (Y.Bd [br] ⟨(b2.n,[.v (.pointer (some ⟨bp,0,none⟩))])::S.box,S.acc⟩).box b2.n=some [.v (.pointer (some ⟨bp,0,none⟩))]:=by
  rw[Y.j5 (by simp[Y.y0];exact fun e=>eb.mp e.symm)];simp[lk]
 simp(maxDischargeDepth:=12) (maxSteps:=1000000) -implicitDefEqProofs only[go_sem,Nat.reduceAdd,Nat.reduceSub,Nat.reduceMul,Nat.reduceLeDiff,Nat.reduceEqDiff,Nat.reduceGT,Nat.reduceBEq,reduceCtorEq,↓reduceIte,Int.reduceToNat,Int.reduceLE,Int.reduceLT,Int.reduceNe,Int.reduceEq,hb2];have hSb:Has S ⟨(b2.n,[.v (.pointer (some ⟨bp,0,none⟩))])::S.box,S.acc⟩:=(Has.refl S).oL b2 _ rfl;refine bQ (yL _ _ br ws e (by simp(maxDischargeDepth:=12) (maxSteps:=1000000) -implicitDefEqProofs only[go_sem,Nat.reduceAdd,Nat.reduceSub,Nat.reduceMul,Nat.reduceLeDiff,Nat.reduceEqDiff,Nat.reduceGT,Nat.reduceBEq,reduceCtorEq,↓reduceIte,Int.reduceToNat,Int.reduceLE,Int.reduceLT,Int.reduceNe,Int.reduceEq,eb,hr]) 122 (by kernel_rfl) #[.pointer (some ⟨b2.n,0,none⟩)] rfl (fun s=>decide (s∈nm)) (fun T w hT hw=>?_) (fun h T hT=>hq0 h T ?_) (fun w t h hb T hT=>hq1 w t h (by simpa using hb) T ?_)) ?_
 ·exact He _ T bp b2.n (hT.box _ _ (by simp(maxDischargeDepth:=12) (maxSteps:=1000000) -implicitDefEqProofs only[go_sem,Nat.reduceAdd,Nat.reduceSub,Nat.reduceMul,Nat.reduceLeDiff,Nat.reduceEqDiff,Nat.reduceGT,Nat.reduceBEq,reduceCtorEq,↓reduceIte,Int.reduceToNat,Int.reduceLE,Int.reduceLT,Int.reduceNe,Int.reduceEq])) nm (hN.mono (tq hSb hT)) hl w.1
 ·exact tq hSb hT
 ·exact tq hSb hT
 ·rintro _ _ ⟨w,t,rfl,hw,rfl,rfl⟩;have hup:∀x,(b2.n,[.v (.pointer (some ⟨bp,0,none⟩))])::up S.box br x=up ((b2.n,[DV.v (.pointer (some ⟨bp,0,none⟩))])::S.box) br x:=fun x=>by simp[up,eb]
  simp(maxDischargeDepth:=12) (maxSteps:=1000000) -implicitDefEqProofs only[go_sem,Nat.reduceAdd,Nat.reduceSub,Nat.reduceMul,Nat.reduceLeDiff,Nat.reduceEqDiff,Nat.reduceGT,Nat.reduceBEq,reduceCtorEq,↓reduceIte,Int.reduceToNat,Int.reduceLE,Int.reduceLT,Int.reduceNe,Int.reduceEq,eb,eb'];refine⟨by rw[hup];exact pE _ br _,?_⟩
  have hNu:iF ⟨(b2.n,[.v (.pointer (some ⟨bp,0,none⟩))])::up S.box br (mC t e),S.acc⟩ bp nm:=by
   rw[hup];exact iF.up (hN.cons b2 _) hne _
  refine aq (yD _ _ bp nm hNu hl w.1) ?_;simp(maxDischargeDepth:=12) (maxSteps:=1000000) -implicitDefEqProofs only[go_sem,Nat.reduceAdd,Nat.reduceSub,Nat.reduceMul,Nat.reduceLeDiff,Nat.reduceEqDiff,Nat.reduceGT,Nat.reduceBEq,reduceCtorEq,↓reduceIte,Int.reduceToNat,Int.reduceLE,Int.reduceLT,Int.reduceNe,Int.reduceEq,eb,eb'];have hw:w.1∈nm:=by simpa using hw
  exact⟨by rw[hup];exact pE _ br _,_,⟨up S.box br (mC t e),S.acc⟩,.refl _,⟨.cons _ (.refl _),.refl _⟩,w,t,rfl,hw,rfl,rfl⟩
def fO:List UInt8:=[108,97,98,101,108]
def jI:List UInt8:=[117,110,100,101,114]
def mw:List UInt8:=[103,114,97,110,116]
def az(p:List UInt8→Bool)(ws:List Wd)(e:Nat)(K:List UInt8→List Wd→Nat ⊕ Cf):Nat ⊕ Cf:=match ws with
 |[]=> .inl e
 |w::t=>if p w.1 then K w.1 t else .inl w.2
def gp(ws:List Wd)(c:Cf):Nat ⊕ Cf:=match ws with
 |[]=> .inr c
 |w::_=> .inl w.2
noncomputable def nS(c:Cf)(ws:List Wd)(e:Nat):Nat ⊕ Cf:=
 az (fun s=>pB (jY c.nm s)) ws e fun n t=>az (fun s=>decide (dM s)) t e fun q t=>gp t ⟨c.nm++[n],c.up++[0],c.qu++[(iD q:Int)],c.gr⟩
def ix(c:Cf)(s:List UInt8):Nat:=c.nm.idxOf s
def oG(c:Cf)(ws:List Wd)(e:Nat):Nat ⊕ Cf:=
 az (fun s=>decide (s∈c.nm)) ws e fun a t=>az (fun s=>decide (s∈c.nm)) t e fun b t=>gp t ⟨c.nm,c.up.set (ix c a) (c.up.getD (ix c a) 0 ||| 2^ix c b),c.qu,c.gr⟩
def dq(c:Cf)(ws:List Wd)(e:Nat):Nat ⊕ Cf:=
 az (fun s=>decide (s∈c.nm)) ws e fun a t=>az (fun s=>decide (s∈c.nm)) t e fun f t=>az (fun s=>decide (s∈c.nm)) t e fun o t=>gp t ⟨c.nm,c.up,c.qu,c.gr++[⟨(ix c a:Int),(ix c f:Int),(ix c o:Int)⟩]⟩
noncomputable def cX(c:Cf)(ws:List Wd)(e:Nat):Nat ⊕ Cf:=
 az jE ws e fun k t=>if k=fO then nS c t e else if k=jI then oG c t e else dq c t e
noncomputable def kv(c:Cf)(l:List UInt8):Nat ⊕ Cf:=if(gP l).1=[]then .inr c else cX c (gP l).1 (gP l).2
noncomputable def pL:Cf→Nat→List (List UInt8)→(Nat×Nat) ⊕ Cf
 |c,_,[]=> .inr c
 |c,k,l::r=>match kv c l with
  | .inl a=> .inl (k,a)
  | .inr c'=>pL c' (k+1) r
structure Cw(c:Cf):Prop where
 cu:c.up.length=c.nm.length
 eJ:c.qu.length=c.nm.length
 le:c.nm.length≤64
 name:∀s,s∈c.nm→bL s
 quo:∀n,n∈c.qu→4≤n∧n≤1000
 uniq:c.nm.Nodup
 bit:∀x,x∈c.up→x<2^c.nm.length
 vu:∀g,g∈c.gr→∃a f t:Nat,g=⟨(a:Int),(f:Int),(t:Int)⟩∧a<c.nm.length∧f<c.nm.length∧t<c.nm.length
def fZ:Cf:=⟨[],[],[],[]⟩
theorem L6:Cw fZ:=⟨rfl,rfl,by simp[fZ],fun s h=>by simp[fZ]at h,fun s h=>by simp[fZ]at h,by simp[fZ],fun s h=>by simp[fZ]at h,fun s h=>by simp[fZ]at h⟩
theorem my{c:Cf}{s:List UInt8}(h:s∈c.nm):ix c s<c.nm.length:=List.idxOf_lt_length_of_mem h
theorem ez{p:List UInt8→Bool}{ws:List Wd}{e:Nat}{K:List UInt8→List Wd→Nat ⊕ Cf}{c:Cf}(h:az p ws e K= .inr c):∃w t,ws=w::t∧p w.1=true∧K w.1 t= .inr c:=by
 unfold az at h;split at h
 ·cases h
 ·rename_i w t;split at h
  ·exact⟨w,t,rfl,by assumption,h⟩
  ·cases h
theorem sC{ws:List Wd}{c c':Cf}(h:gp ws c= .inr c'):ws=[]∧c'=c:=by
 unfold gp at h;split at h
 ·cases h;exact⟨rfl,rfl⟩
 ·cases h
theorem DS{p:List UInt8→Bool}{ws:List Wd}{e:Nat}{K:List UInt8→List Wd→Nat ⊕ Cf}{a:Nat}(h:az p ws e K= .inl a):a=e∨(∃w,w∈ws∧a=w.2)∨∃w t,ws=w::t∧p w.1=true∧K w.1 t= .inl a:=by
 unfold az at h;split at h
 ·cases h;exact .inl rfl
 ·rename_i w t;split at h
  ·exact .inr (.inr ⟨w,t,rfl,by assumption,h⟩)
  ·cases h;exact .inr (.inl ⟨w,by simp,rfl⟩)
theorem tA{ws:List Wd}{c:Cf}{a:Nat}(h:gp ws c= .inl a):∃w,w∈ws∧a=w.2:=by
 unfold gp at h;split at h
 ·cases h
 ·cases h;exact⟨_,by simp,rfl⟩
def tB(ws:List Wd)(e a:Nat):Prop:=a=e∨∃w,w∈ws∧a=w.2
theorem tB.cons{w:Wd}{ws:List Wd}{e a:Nat}(h:tB ws e a):tB (w::ws) e a:=h.imp id fun⟨x,hx,q⟩=>⟨x,Rr _ hx,q⟩
theorem eu{p:List UInt8→Bool}{ws:List Wd}{e:Nat}{K:List UInt8→List Wd→Nat ⊕ Cf}{a:Nat}(hK:∀w t,ws=w::t→p w.1=true→K w.1 t= .inl a→tB t e a)(h:az p ws e K= .inl a):tB ws e a:=by
 rcases DS h with h|h|⟨w,t,rfl,hp,h⟩
 ·exact .inl h
 ·exact .inr h
 ·exact(hK w t rfl hp h).cons
theorem Hj{c:Cf}{ws:List Wd}{e a:Nat}(h:nS c ws e= .inl a):tB ws e a:=
 eu (fun w t _ _ h=>eu (fun w t _ _ h=> .inr (tA h)) h) h
theorem G9{c:Cf}{ws:List Wd}{e a:Nat}(h:oG c ws e= .inl a):tB ws e a:=
 eu (fun w t _ _ h=>eu (fun w t _ _ h=> .inr (tA h)) h) h
theorem HX{c:Cf}{ws:List Wd}{e a:Nat}(h:dq c ws e= .inl a):tB ws e a:=
 eu (fun w t _ _ h=>eu (fun w t _ _ h=>eu (fun w t _ _ h=> .inr (tA h)) h) h) h
theorem E8{c:Cf}{ws:List Wd}{e a:Nat}(h:cX c ws e= .inl a):tB ws e a:=
 eu (fun w t _ _ h=>by
  split at h
  ·exact Hj h
  ·split at h
   ·exact G9 h
   ·exact HX h) h
theorem tD:∀(R:List (Nat×List UInt8)) (n e N:Nat) (c:Option Wd),n+R.length≤N→1≤e→e≤N+1→(∀w,c=some w→1≤w.2∧w.2≤N)→
 (∀w,w∈(cj n e c R).1→1≤w.2∧w.2≤N)∧1≤(cj n e c R).2∧(cj n e c R).2≤N+1
 |[],n,e,N,c,h1,h2,h3,h4=>by
  rw[cj];exact⟨fun w hw=>h4 w (by simpa using hw),h2,h3⟩
 |r::t,n,e,N,c,h1,h2,h3,h4=>by
  rw[Ru]at h1;rw[cj];split
  ·exact⟨fun w hw=>h4 w (by simpa using hw),h2,h3⟩
  ·split
   ·obtain⟨k1,k2,k3⟩:=tD t (n+1) e N none (by omega) h2 h3 (fun w h=>by cases h);refine⟨fun w hw=>?_,k2,k3⟩;rcases RB.1 hw with hw|hw
    ·exact h4 w (by simpa using hw)
    ·exact k1 w hw
   ·refine tD t (n+1) (n+2) N _ (by omega) (by omega) (by omega) fun w hw=>?_;cases hw
    cases c with
    |none=>exact⟨by show 1≤n+1;omega,by show n+1≤N;omega⟩
    |some v=>exact h4 v rfl
theorem KJ(l:List UInt8):(∀w,w∈(gP l).1→1≤w.2∧w.2≤(ak l).length)∧1≤(gP l).2∧(gP l).2≤(ak l).length+1:=
 tD (ak l) 0 1 _ none (by omega) (by omega) (by omega) (fun w h=>by cases h)
theorem td{c:Cf}{l:List UInt8}{a:Nat}(h:kv c l= .inl a):1≤a∧a≤(ak l).length+1:=by
 unfold kv at h;split at h
 ·cases h
 ·obtain⟨k1,k2,k3⟩:=KJ l;rcases E8 h with rfl|⟨w,hw,rfl⟩
  ·exact⟨k2,k3⟩
  ·have:=k1 w hw;omega
theorem Eh:∀(a:List (List UInt8)) (c:Cf) (k:Nat) (b:List (List UInt8)),pL c k (a++b)=(match pL c k a with
 | .inl x=> .inl x
 | .inr c'=>pL c' (k+a.length) b)
 |[],c,k,b=>by simp[pL]
 |l::a,c,k,b=>by
  rw[RQ,pL,pL]
  cases h:kv c l with
  |inl x=>rfl
  |inr c'=>
   simp only;rw[Eh a c' (k+1) b,Ru,show k+1+a.length=k+(a.length+1)by omega]
theorem MS{ls:List (List UInt8)}:∀{c:Cf} {k:Nat} {x:Nat×Nat},pL c k ls= .inl x→k≤x.1∧x.1<k+ls.length∧1≤x.2∧∀l,ls[x.1-k]? =some l→x.2≤(ak l).length+1:=by
 induction ls with
 |nil=>intro c k x h;cases h
 |cons l r ih=>
  intro c k x h;rw[pL]at h;rw[Ru]
  cases hl:kv c l with
  |inl a=>
   rw[hl]at h;cases h;have:=td hl;refine⟨Ro _,by omega,this.1,fun l' hl'=>?_⟩;simp at hl';rw[←hl'];exact this.2
  |inr c'=>
   rw[hl]at h;obtain⟨h1,h2,h3,h4⟩:=ih h;refine⟨by omega,by omega,h3,fun l' hl'=>?_⟩;rw[show x.1-k=x.1-(k+1)+1 by omega,SE]at hl';exact h4 l' hl'
theorem sK:∀(s cur t:List UInt8),lD cur (s++10::t)=lD cur s++lD [] t
 |[],cur,t=>by simp[lD]
 |c::s,cur,t=>by
  rw[RQ,lD,lD];split
  ·rw[sK s [] t];rfl
  ·exact sK s _ t
theorem Hv(s t:List UInt8):im (s++10::t)=im s++im t:=sK s [] t
theorem IP{c c':Cf}{ws:List Wd}{e:Nat}(h:nS c ws e= .inr c'):∃n q a b,ws=[(n,a),(q,b)]∧jY c.nm n∧dM q∧c'=⟨c.nm++[n],c.up++[0],c.qu++[(iD q:Int)],c.gr⟩:=by
 obtain⟨⟨n,a⟩,t,rfl,h1,h⟩:=ez h;obtain⟨⟨q,b⟩,t,rfl,h2,h⟩:=ez h;obtain⟨rfl,rfl⟩:=sC h;exact⟨n,q,a,b,rfl,(mA _).mp h1,of_decide_eq_true h2,rfl⟩
theorem I5{c c':Cf}{ws:List Wd}{e:Nat}(h:oG c ws e= .inr c'):∃n q a b,ws=[(n,a),(q,b)]∧n∈c.nm∧q∈c.nm∧c'=⟨c.nm,c.up.set (ix c n) (c.up.getD (ix c n) 0 ||| 2^ix c q),c.qu,c.gr⟩:=by
 obtain⟨⟨n,a⟩,t,rfl,h1,h⟩:=ez h;obtain⟨⟨q,b⟩,t,rfl,h2,h⟩:=ez h;obtain⟨rfl,rfl⟩:=sC h;exact⟨n,q,a,b,rfl,of_decide_eq_true h1,of_decide_eq_true h2,rfl⟩
theorem Jd{c c':Cf}{ws:List Wd}{e:Nat}(h:dq c ws e= .inr c'):∃n q r a b d,ws=[(n,a),(q,b),(r,d)]∧n∈c.nm∧q∈c.nm∧r∈c.nm∧c'=⟨c.nm,c.up,c.qu,c.gr++[⟨(ix c n:Int),(ix c q:Int),(ix c r:Int)⟩]⟩:=by
 obtain⟨⟨n,a⟩,t,rfl,h1,h⟩:=ez h;obtain⟨⟨q,b⟩,t,rfl,h2,h⟩:=ez h;obtain⟨⟨r,d⟩,t,rfl,h3,h⟩:=ez h;obtain⟨rfl,rfl⟩:=sC h;exact⟨n,q,r,a,b,d,rfl,of_decide_eq_true h1,of_decide_eq_true h2,of_decide_eq_true h3,rfl⟩
theorem Hz{q:List UInt8}(h:dM q):4≤(iD q:Int)∧(iD q:Int)≤1000:=by
 rw[nB h];have:=h.2.2;omega
theorem Cw.IJ{c:Cf}(h:Cw c){n q:List UInt8}(hn:jY c.nm n)(hq:dM q):Cw ⟨c.nm++[n],c.up++[0],c.qu++[(iD q:Int)],c.gr⟩ where
 cu:=by simp[h.cu]
 eJ:=by simp[h.eJ]
 le:=by have:=hn.2.2;simp;omega
 name:=fun s hs=>by
  rcases RB.1 hs with hs|hs
  ·exact h.name s hs
  ·rw[RX.1 hs];exact hn.1
 quo:=fun x hx=>by
  rcases RB.1 hx with hx|hx
  ·exact h.quo x hx
  ·rw[RX.1 hx];exact Hz hq
 uniq:=List.nodup_append.2 ⟨h.uniq,by simp,fun a ha b hb e=>hn.2.1 (by rw[RX]at hb;rw[←hb,←e];exact ha)⟩
 bit:=fun x hx=>by
  rw[Rk,Sg];rcases RB.1 hx with hx|hx
  ·exact Nat.lt_trans (h.bit x hx) (fQ (by omega))
  ·rw[RX.1 hx];exact SG _
 vu:=fun g hg=>by
  obtain⟨a,f,t,rfl,h1,h2,h3⟩:=h.vu g hg;exact⟨a,f,t,rfl,by simp;omega,by simp;omega,by simp;omega⟩
theorem FZ{o:List Nat}{n a:Nat}(h:∀x,x∈o→x<2^n):o.getD a 0<2^n:=by
 rcases oH (o:=o) (a:=a)with q|q
 ·exact h _ q
 ·rw[q];exact SG _
theorem Cw.Qq{c:Cf}(h:Cw c){n q:List UInt8}(hn:n∈c.nm)(hq:q∈c.nm):Cw ⟨c.nm,c.up.set (ix c n) (c.up.getD (ix c n) 0 ||| 2^ix c q),c.qu,c.gr⟩ where
 cu:=by simp[h.cu]
 eJ:=h.eJ
 le:=h.le
 name:=h.name
 quo:=h.quo
 uniq:=h.uniq
 bit:=fun x hx=>by
  rcases SO hx with hx|rfl
  ·exact h.bit x hx
  ·exact nU (FZ h.bit) (fQ (my hq))
 vu:=h.vu
theorem Cw.Qv{c:Cf}(h:Cw c){n q r:List UInt8}(hn:n∈c.nm)(hq:q∈c.nm)(hr:r∈c.nm):Cw ⟨c.nm,c.up,c.qu,c.gr++[⟨(ix c n:Int),(ix c q:Int),(ix c r:Int)⟩]⟩ where
 cu:=h.cu
 eJ:=h.eJ
 le:=h.le
 name:=h.name
 quo:=h.quo
 uniq:=h.uniq
 bit:=h.bit
 vu:=fun g hg=>by
  rcases RB.1 hg with hg|hg
  ·exact h.vu g hg
  ·rw[RX.1 hg];exact⟨_,_,_,rfl,my hn,my hq,my hr⟩
theorem pc{c c':Cf}{ws:List Wd}{e:Nat}(hc:Cw c)(h:cX c ws e= .inr c'):Cw c'∧c'.gr.length≤c.gr.length+1:=by
 obtain⟨w,t,rfl,h1,h⟩:=ez h;split at h
 ·obtain⟨n,q,a,b,rfl,k1,k2,rfl⟩:=IP h;exact⟨hc.IJ k1 k2,by simp⟩
 ·split at h
  ·obtain⟨n,q,a,b,rfl,k1,k2,rfl⟩:=I5 h;exact⟨hc.Qq k1 k2,by simp⟩
  ·obtain⟨n,q,r,a,b,d,rfl,k1,k2,k3,rfl⟩:=Jd h;exact⟨hc.Qv k1 k2 k3,by simp⟩
theorem Fs{c c':Cf}{l:List UInt8}(hc:Cw c)(h:kv c l= .inr c'):Cw c'∧c'.gr.length≤c.gr.length+1:=by
 unfold kv at h;split at h
 ·cases h;exact⟨hc,by omega⟩
 ·exact pc hc h
theorem Jw:∀{ls:List (List UInt8)} {c c':Cf} {k:Nat},Cw c→pL c k ls= .inr c'→Cw c'∧c'.gr.length≤c.gr.length+ls.length
 |[],c,c',k,hc,h=>by cases h;exact⟨hc,by simp⟩
 |l::r,c,c',k,hc,h=>by
  rw[pL]at h
  cases hl:kv c l with
  |inl a=>rw[hl]at h;cases h
  |inr c1=>
   rw[hl]at h;obtain⟨h1,h2⟩:=Fs hc hl;obtain⟨h3,h4⟩:=Jw h1 h;exact⟨h3,by rw[Ru];omega⟩
def gQ(c:Cf):Cf:=⟨c.nm,aV c.up,c.qu,fM c.gr⟩
noncomputable def cQ(s:List UInt8):Option Cf×Nat×Nat:=match pL fZ 1 (im s)with
 | .inl x=>(none,x.1,x.2)
 | .inr c=>if pB (gv (gQ c))then(some (gQ c),0,0)else(none,0,0)
theorem ye:∀l:List UInt8,l.length≤4*(ak l).length:=by
 refine eD (by simp) fun l hne ih=>?_;rw[bh hne,Ru]
 have h1:(dl l).2≤4:=by
  have:=(Jv l hne).1;have:=ED (dl l).1;omega
 rw[RP]at ih;omega
theorem bL.short{l:List UInt8}(h:bL l):l.length≤48:=by
 have:=ye l;have:=h.le;omega
theorem Cw.J2{c:Cf}(h:Cw c)(hg:c.gr.length≤1048576):kj c where
 L7:=by have:=h.le;omega
 Od:=fun s hs=>by have:=(h.name s hs).short;omega
 Nv:=by have:=h.le;have:=h.cu;omega
 vE:=fun x hx=>nY h.le (h.bit x hx)
 Nz:=by have:=h.le;have:=h.eJ;omega
 Nl:=hg
end Go.Proofs.YtiihljlagmmljaaGreatDoor
