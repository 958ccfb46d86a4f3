/-
  The six laws of configurations. By an AI agent.
-/
import Derived.Test.YtiihljlagmmljaaGreatDoorMC11
import Derived.Test.YtiihljlagmmljaaGreatDoorMC9
import Derived.Test.YtiihljlagmmljaaGreatDoorTie
import Derived.Test.YtiihljlagmmljaaGreatDoorCards
import Derived.Deep.DeepHandedRow
import Derived.Lib.LaidTab
import Derived.Lib.LaidU8T
import Derived.Stop.LaidErr
import Derived.Shelf.Vars
import Derived.Lib.SmallJoins
set_option linter.unusedVariables false
set_option linter.unusedSimpArgs false
set_option maxRecDepth 100000
set_option maxHeartbeats 16000000
namespace Go.Proofs.YtiihljlagmmljaaGreatDoor
open Aml Go Lat Grs Rn
def cf(line:Nat)(p:Nat×Nat)(r:Nat×List UInt8):Nat×Nat:=(if r.1=10 then p.1+1 else p.1,if p.1=line∧r.1≠10 then p.2+1 else p.2)
def qp(line n:Nat)(ls:List (List UInt8)):Nat:=if n≤line then(match ls[line-n]? with|some l=>(ak l).length|none=>0)else 0
theorem tg(line:Nat):∀(R:List (Nat×List UInt8)) (n g:Nat),(∀r,r∈R→r.1≠10)→R.foldl (cf line) (n,g)=(n,if n=line then g+R.length else g)
 |[],n,g,h=>by simp
 |r::R,n,g,h=>by
  have h1:=h r (by simp);rw[SP];unfold cf;simp only[h1,if_false,ne_eq,not_false_eq_true,and_true];have ih:=tg line R n (if n=line then g+1 else g) fun x hx=>h x (Rr _ hx);unfold cf at ih;rw[ih];split
  ·rw[Ru];congr 1;omega
  ·rfl
theorem zp:∀(t cur:List UInt8),1≤(lD cur t).length
 |[],cur=>by simp[lD]
 |x::t,cur=>by
  rw[lD];split
  ·simp
  ·exact zp t _
theorem oE{a:List UInt8}(h:∀x,x∈a→x≠10):∀r,r∈ak a→r.1≠10:=fun r hr e=>by
 obtain⟨c,rfl⟩:=zn hr (by omega);have h1:=h c (vz hr (by simp));exact h1 (Tx.1 e)
theorem Gg(line:Nat):∀(m:Nat) (s:List UInt8),s.length≤m→∀n g,(ak s).foldl (cf line) (n,g)=(n+((im s).length-1),g+qp line n (im s)):=by
 intro m
 induction m with
 |zero=>
  intro s hs n g;obtain rfl:s=[]:=Rs (by omega);rw[dw]
  have:qp line n (im [])=0:=by
   unfold qp;split
   ·rw[sB (fun x hx=>by cases hx)];cases line-n <;>simp[dw]
   ·rfl
  rw[this];rfl
 |succ m ih=>
  intro s hs n g;by_cases h:(10:UInt8)∈s
  ·obtain⟨a,t,rfl,ha⟩:=List.eq_append_cons_of_mem h;have ha':∀x,x∈a→x≠10:=fun x hx e=>ha (e▸hx);have hl:1≤(im t).length:=zp t [];rw[gT ha',qK (by decide),aM (by decide),Tj,tg line _ n g (oE ha'),SP];rw[Rk,Ru]at hs
   have e:cf line (n,if n=line then g+(ak a).length else g) ((10:UInt8).toNat,[10])=(n+1,if n=line then g+(ak a).length else g):=by
    unfold cf;have q:(UInt8.toNat 10)=10:=rfl;simp[q]
   rw[e,ih t (by omega),Ru]
   have e2:(if n=line then g+(ak a).length else g)+qp line (n+1) (im t)=g+qp line n (a::im t):=by
    unfold qp;by_cases h1:n=line
    ·subst h1;rw[if_pos rfl,if_neg (by omega),if_pos (Ro _),Nat.sub_self];rfl
    ·rw[if_neg h1];by_cases h2:n≤line
     ·rw[if_pos (show n+1≤line by omega),if_pos h2,show line-n=line-(n+1)+1 by omega,SE]
     ·rw[if_neg (by omega),if_neg h2]
   rw[e2];congr 1;omega
  ·have ha':∀x,x∈s→x≠10:=fun x hx e=>h (e▸hx);rw[sB ha',tg line _ n g (oE ha')]
   have e2:(if n=line then g+(ak s).length else g)=g+qp line n [s]:=by
    unfold qp;by_cases h1:n=line
    ·subst h1;rw[if_pos rfl,if_pos (Ro _),Nat.sub_self];rfl
    ·rw[if_neg h1];by_cases h2:n≤line
     ·rw[if_pos h2,show line-n=line-(n+1)+1 by omega,SE];rfl
     ·rw[if_neg h2];rfl
   rw[e2];rfl
theorem Lu(w0:W0)(hg:cV w0)(hk:KU w0)(hke:KE w0)(hp:KP w0)(hm:KM w0)(s t:ByteArray)(S:St):ab Tryz.prog w0 6 [dS s,dS t] S (fun d S'=>d=dB true∧S'=S):=by
 refine cR [] mx Tryz.func6 rfl rfl (by kernel_rfl) ?_;simp(maxDischargeDepth:=12) (maxSteps:=1000000) -implicitDefEqProofs only[Tryz.ntmps6,go_sem,Nat.reduceAdd,Nat.reduceSub,Nat.reduceMul,Nat.reduceLeDiff,Nat.reduceEqDiff,Nat.reduceGT,Nat.reduceBEq,reduceCtorEq,↓reduceIte,Int.reduceToNat,Int.reduceLE,Int.reduceLT,Int.reduceNe,Int.reduceEq];refine aq (lJ _ hg hk hke hp hm _) ?_;simp(maxDischargeDepth:=12) (maxSteps:=1000000) -implicitDefEqProofs only[go_sem,Nat.reduceAdd,Nat.reduceSub,Nat.reduceMul,Nat.reduceLeDiff,Nat.reduceEqDiff,Nat.reduceGT,Nat.reduceBEq,reduceCtorEq,↓reduceIte,Int.reduceToNat,Int.reduceLE,Int.reduceLT,Int.reduceNe,Int.reduceEq];intro h1 h2;have hsl:s.data.toList.length≤1000000:=by rw[aw];omega
 refine aq (ie _ hk hke hm hg s (by omega) _) ?_
 cases hr:(cQ s.data.toList).1 with
 |some c=>
  obtain⟨hc,he⟩:=zb hr;have hci:=rB hsl hr;have hck:=fun S=>me w0 hg hk c hci S;rw[aI hc]at hck;rw[he];simp(maxDischargeDepth:=12) (maxSteps:=1000000) -implicitDefEqProofs only[go_sem,Nat.reduceAdd,Nat.reduceSub,Nat.reduceMul,Nat.reduceLeDiff,Nat.reduceEqDiff,Nat.reduceGT,Nat.reduceBEq,reduceCtorEq,↓reduceIte,Int.reduceToNat,Int.reduceLE,Int.reduceLT,Int.reduceNe,Int.reduceEq];intro b1;refine aq (hck _) ?_;simp(maxDischargeDepth:=12) (maxSteps:=1000000) -implicitDefEqProofs only[go_sem,Nat.reduceAdd,Nat.reduceSub,Nat.reduceMul,Nat.reduceLeDiff,Nat.reduceEqDiff,Nat.reduceGT,Nat.reduceBEq,reduceCtorEq,↓reduceIte,Int.reduceToNat,Int.reduceLE,Int.reduceLT,Int.reduceNe,Int.reduceEq]
 |none=>
  rcases IE hr with he|⟨x,hx,he⟩
  ·rw[he];simp(maxDischargeDepth:=12) (maxSteps:=1000000) -implicitDefEqProofs only[go_sem,Nat.reduceAdd,Nat.reduceSub,Nat.reduceMul,Nat.reduceLeDiff,Nat.reduceEqDiff,Nat.reduceGT,Nat.reduceBEq,reduceCtorEq,↓reduceIte,Int.reduceToNat,Int.reduceLE,Int.reduceLT,Int.reduceNe,Int.reduceEq];exact fun _ h=>by simp[fZ]at h
  ·obtain⟨q1,q2,q3,q4⟩:=MS hx;have hmo:=AQ hx t.data.toList
   have hcat:(s++⟨#[10]⟩++t).data.toList=s.data.toList++10::t.data.toList:=by
    have h2:(⟨#[10]⟩:ByteArray).data.toList=[10]:=rfl;simp only[dj,h2];simp
   have hpm:=fun S=>ie w0 hk hke hm hg (s++⟨#[10]⟩++t) (by rw[←aw,hcat,Rk,Ru,aw,aw];omega) S;rw[hcat,hmo]at hpm;rw[he];simp(maxDischargeDepth:=12) (maxSteps:=1000000) -implicitDefEqProofs only[go_sem,Nat.reduceAdd,Nat.reduceSub,Nat.reduceMul,Nat.reduceLeDiff,Nat.reduceEqDiff,Nat.reduceGT,Nat.reduceBEq,reduceCtorEq,↓reduceIte,Int.reduceToNat,Int.reduceLE,Int.reduceLT,Int.reduceNe,Int.reduceEq];intro b1;refine⟨fun h=>by simp[fZ]at h,fun _=>⟨fun h=>by omega,fun _=>⟨by omega,by omega,?_⟩⟩⟩;refine aq (hpm _) ?_;simp(maxDischargeDepth:=12) (maxSteps:=1000000) -implicitDefEqProofs only[go_sem,Nat.reduceAdd,Nat.reduceSub,Nat.reduceMul,Nat.reduceLeDiff,Nat.reduceEqDiff,Nat.reduceGT,Nat.reduceBEq,reduceCtorEq,↓reduceIte,Int.reduceToNat,Int.reduceLE,Int.reduceLT,Int.reduceNe,Int.reduceEq];intro b2;have eb:=af b2 b1.n (by simp(maxDischargeDepth:=12) (maxSteps:=1000000) -implicitDefEqProofs only[go_sem,Nat.reduceAdd,Nat.reduceSub,Nat.reduceMul,Nat.reduceLeDiff,Nat.reduceEqDiff,Nat.reduceGT,Nat.reduceBEq,reduceCtorEq,↓reduceIte,Int.reduceToNat,Int.reduceLE,Int.reduceLT,Int.reduceNe,Int.reduceEq]);have q0:¬((x.2:Int)<1):=by omega
   refine⟨q0,fun _ li=>?_⟩;have hsz:=aw s;have hll:(im s.data.toList).length≤s.data.toList.length+1:=jk [] _;have hfl:=Gg x.1 _ s.data.toList (Ro _) 1 0
   have hcn:x.2≤qp x.1 1 (im s.data.toList)+1:=by
    have hi:(im s.data.toList)[x.1-1]? =some ((im s.data.toList)[x.1-1]'(by omega)):=so (by omega);have:=q4 _ hi;unfold qp;rw[if_pos q1,hi];exact this
   have hB:∀(R:List (Nat×List UInt8)) n g,n≤(R.foldl (cf x.1) (n,g)).1∧(R.foldl (cf x.1) (n,g)).1≤n+R.length∧(R.foldl (cf x.1) (n,g)).2≤g+R.length:=fun R=>by
    induction R with
    |nil=>intro n g;simp
    |cons r R ih=>
     intro n g;rw[SP,Ru];have h2:n≤(cf x.1 (n,g) r).1∧(cf x.1 (n,g) r).1≤n+1:=by unfold cf;dsimp only;split <;>omega
     have h3:(cf x.1 (n,g) r).2≤g+1:=by unfold cf;dsimp only;split <;>omega
     generalize cf x.1 (n,g) r=q at h2 h3;obtain⟨a,b⟩:=q;have h1:=ih a b;dsimp only at h2 h3;omega
   refine bS [] [8,9,14,15,88] (σ:=Nat×List (Nat×List UInt8)) (fun p=>[(8,dI x.1),(9,dI x.2),(14,dI (p.2.foldl (cf x.1) (1,0)).2),(15,dI (p.2.foldl (cf x.1) (1,0)).1)]) (fun p=>⟨(b2.n,[.sl 1 false (aU fZ.nm),eH fZ.up,nJ fZ.qu,lN fZ.gr])::(b1.n,[.sl 1 false (aU fZ.nm),eH fZ.up,nJ fZ.qu,lN fZ.gr])::S.box,(li.n,.xo (.si s p.1))::S.acc⟩) (fun p=>p.1≤s.size∧p.2++ak (s.data.toList.drop p.1)=ak s.data.toList) (fun p=>s.size-p.1) (0,[]) mx (by kernel_rfl) ⟨⟨RL _,rfl⟩,?_⟩ fun p hp=>?_
   ·simp(maxDischargeDepth:=12) (maxSteps:=1000000) -implicitDefEqProofs only[go_sem,Nat.reduceAdd,Nat.reduceSub,Nat.reduceMul,Nat.reduceLeDiff,Nat.reduceEqDiff,Nat.reduceGT,Nat.reduceBEq,reduceCtorEq,↓reduceIte,Int.reduceToNat,Int.reduceLE,Int.reduceLT,Int.reduceNe,Int.reduceEq];exact⟨⟨rfl,rfl⟩,.refl _⟩
   ·obtain⟨k,pre⟩:=p;obtain⟨hk1,hpre⟩:=hp;dsimp only at hk1 hpre;have hrl:=dC s.data.toList
    have hrp:pre.length≤s.size:=by
     have:=congrArg List.length hpre;rw[Rk]at this;omega
    obtain⟨j1,j2,j3⟩:=hB pre 1 0;have hfa:∀r,(pre++[r]).foldl (cf x.1) (1,0)=cf x.1 (pre.foldl (cf x.1) (1,0)) r:=fun r=>by rw[Tj];rfl
    generalize hF:pre.foldl (cf x.1) (1,0)=F at*;obtain⟨now,sg⟩:=F;dsimp only at j1 j2 j3;simp(maxDischargeDepth:=12) (maxSteps:=1000000) -implicitDefEqProofs only[go_sem,Nat.reduceAdd,Nat.reduceSub,Nat.reduceMul,Nat.reduceLeDiff,Nat.reduceEqDiff,Nat.reduceGT,Nat.reduceBEq,reduceCtorEq,↓reduceIte,Int.reduceToNat,Int.reduceLE,Int.reduceLT,Int.reduceNe,Int.reduceEq];rw[ew s k];refine⟨fun hk'=>?_,fun hk'=>?_⟩
    ·rw[dz (by omega),RU]at hpre;rw[←hpre,hF]at hfl;have f1:=congrArg Prod.fst hfl;have f2:=congrArg Prod.snd hfl;dsimp only at f1 f2;rw[ax (by omega)];exact⟨fun _=>by omega,fun h=>by omega⟩
    ·have h1:=fH (L:=s.data.toList) (k:=k) (by omega);have h2:=mJ (L:=s.data.toList) (k:=k) (by omega);generalize hD:dl (s.data.toList.drop k)=D at h1 h2;change Lib.decodeL _=D at hD;rw[hD];obtain⟨y,n⟩:=D;dsimp only at h1 h2 ⊢;have hpn:(pre++[(y,(s.data.toList.drop k).take n)])++ak (s.data.toList.drop (k+n))=ak s.data.toList:=by rw[RJ,S9,←h1];exact hpre
     have g1:IntKind.i64.wrap ((sg:Int)+1)=((sg+1:Nat):Int):=ax (by omega);have g2:IntKind.i64.wrap ((now:Int)+1)=((now+1:Nat):Int):=ax (by omega);have hfy:=hfa (y,(s.data.toList.drop k).take n);by_cases c2:y=10
     ·have d2:((y:Int)=10)=True:=eq_true (by omega);have e3:cf x.1 (now,sg) (y,(s.data.toList.drop k).take n)=(now+1,sg):=by unfold cf;simp[c2]
      rw[e3]at hfy;by_cases c1:now=x.1
      ·have d1:(now=x.1)=True:=eq_true c1;simp(maxDischargeDepth:=12) (maxSteps:=1000000) -implicitDefEqProofs only[go_sem,Nat.reduceAdd,Nat.reduceSub,Nat.reduceMul,Nat.reduceLeDiff,Nat.reduceEqDiff,Nat.reduceGT,Nat.reduceBEq,reduceCtorEq,↓reduceIte,Int.reduceToNat,Int.reduceLE,Int.reduceLT,Int.reduceNe,Int.reduceEq,d1,d2,g1,g2];exact⟨(k+n,pre++[(y,(s.data.toList.drop k).take n)]),⟨by dsimp only;omega,hpn⟩,by dsimp only;omega,by rw[hfy];exact⟨rfl,rfl⟩,.refl _⟩
      ·have d1:(now=x.1)=False:=eq_false c1;simp(maxDischargeDepth:=12) (maxSteps:=1000000) -implicitDefEqProofs only[go_sem,Nat.reduceAdd,Nat.reduceSub,Nat.reduceMul,Nat.reduceLeDiff,Nat.reduceEqDiff,Nat.reduceGT,Nat.reduceBEq,reduceCtorEq,↓reduceIte,Int.reduceToNat,Int.reduceLE,Int.reduceLT,Int.reduceNe,Int.reduceEq,d1,d2,g1,g2];exact⟨(k+n,pre++[(y,(s.data.toList.drop k).take n)]),⟨by dsimp only;omega,hpn⟩,by dsimp only;omega,by rw[hfy];exact⟨rfl,rfl⟩,.refl _⟩
     ·have d2:((y:Int)=10)=False:=eq_false (by omega);by_cases c1:now=x.1
      ·have d1:(now=x.1)=True:=eq_true c1;have e3:cf x.1 (now,sg) (y,(s.data.toList.drop k).take n)=(now,sg+1):=by unfold cf;simp[c1,c2]
       rw[e3]at hfy;simp(maxDischargeDepth:=12) (maxSteps:=1000000) -implicitDefEqProofs only[go_sem,Nat.reduceAdd,Nat.reduceSub,Nat.reduceMul,Nat.reduceLeDiff,Nat.reduceEqDiff,Nat.reduceGT,Nat.reduceBEq,reduceCtorEq,↓reduceIte,Int.reduceToNat,Int.reduceLE,Int.reduceLT,Int.reduceNe,Int.reduceEq,d1,d2,g1,g2];exact⟨(k+n,pre++[(y,(s.data.toList.drop k).take n)]),⟨by dsimp only;omega,hpn⟩,by dsimp only;omega,by rw[hfy];exact⟨rfl,rfl⟩,.refl _⟩
      ·have d1:(now=x.1)=False:=eq_false c1;have e3:cf x.1 (now,sg) (y,(s.data.toList.drop k).take n)=(now,sg):=by unfold cf;simp[c1,c2]
       rw[e3]at hfy;simp(maxDischargeDepth:=12) (maxSteps:=1000000) -implicitDefEqProofs only[go_sem,Nat.reduceAdd,Nat.reduceSub,Nat.reduceMul,Nat.reduceLeDiff,Nat.reduceEqDiff,Nat.reduceGT,Nat.reduceBEq,reduceCtorEq,↓reduceIte,Int.reduceToNat,Int.reduceLE,Int.reduceLT,Int.reduceNe,Int.reduceEq,d1,d2,g1,g2];exact⟨(k+n,pre++[(y,(s.data.toList.drop k).take n)]),⟨by dsimp only;omega,hpn⟩,by dsimp only;omega,by rw[hfy];exact⟨rfl,rfl⟩,.refl _⟩
end Go.Proofs.YtiihljlagmmljaaGreatDoor
namespace Go.Proofs.YtiihljlagmmljaaGreatDoor
open Aml Go Go.RowKit Go.ChangeShapes Lat Grs Rn
theorem ve: "*" ++ "errors.errorString" = "*errors.errorString" :=by decide
theorem CG(u:TypeId)(h:Tryz.prog.typeName? 3 u=some "*errors.errorString"):u=189:=
 typeName_ptr_named (nm:= "errors.errorString") (by rw[ve];kernel_rfl) (by kernel_rfl) (by decide) u (by rw[ve];exact h)
def iv:List (String×DataW Unit):=[("math/bits.deBruijn32tab",Rows.laid_math_bits_deBruijn32tab),("math/bits.deBruijn64tab",Rows.laid_math_bits_deBruijn64tab),("internal/strconv.uint64pow10",Rows.laid_internal_strconv_uint64pow10),("unicode/utf8.acceptRanges",Rows.laid_unicode_utf8_acceptRanges),("strconv.ErrRange",Rows.laid_strconv_ErrRange),("strconv.ErrSyntax",Rows.laid_strconv_ErrSyntax),("unicode/utf8.first",Rows.laid_unicode_utf8_first)]
theorem D8:Rows.laid_unicode_utf8_first=Lib.firstData:=by kernel_rfl
theorem B9:(Rows.laid_unicode_utf8_acceptRanges:DataW Unit)=Lib.acceptData:=by kernel_rfl
theorem pow_eq:(Rows.laid_internal_strconv_uint64pow10:DataW Unit)=Lib.tabData .u64 Lib.pow10Tab:=by kernel_rfl
theorem NX:(Rows.laid_math_bits_deBruijn64tab:DataW Unit)=Lib.tabData .u8 Mi:=by kernel_rfl
theorem QE:Tryz.prog.globalNamed "math/bits.deBruijn64tab" =some 2:=by kernel_rfl
abbrev vL(W:World):W0:=⟨{W with drawn:=0},gW W,fun _ _=>False⟩
theorem gO{W:World}(h:laidMetH Tryz.prog iv W):cV (vL W):=by
 have hL:laidMet Tryz.prog iv W:=h
 have hT:Lib.TabIs Tryz.prog W "math/bits.deBruijn64tab" .u8 Mi:=
  Lib.tabIs_of_head (rest:=iv.drop 2) (g:=2) (t:=154) (by kernel_rfl) (by kernel_rfl) Tryz.underlying154 Tryz.underlying5 (by kernel_rfl) (by kernel_rfl) (NX▸hL.tail)
 refine⟨fun j=>?_,fun u hu=>?_⟩
 ·show W.cell? ⟨2,j,none⟩=Mp[j]?;rw[World.var?_cell QE hT j,List.getElem?_toArray];rfl
 ·obtain⟨z,_,rfl⟩:=RI.1 hu;rfl
theorem rv{W:World}(h:laidMetH Tryz.prog iv W):KP (vL W):=by
 have hL:laidMet Tryz.prog iv W:=h
 have hT:Lib.TabIs Tryz.prog W "internal/strconv.uint64pow10" .u64 Lib.pow10Tab:=
  Lib.tabIs_of_head (rest:=iv.drop 3) (g:=4) (t:=168) (by kernel_rfl) (by kernel_rfl) Tryz.underlying168 Tryz.underlying40 (by kernel_rfl) (by kernel_rfl) (pow_eq▸hL.tail.tail)
 have hT:Lib.TabIs Tryz.prog {W with drawn:=0} "internal/strconv.uint64pow10" .u64 Lib.pow10Tab:=hT;refine⟨rfl,fun w hw=>?_⟩;exact Joins.var_stays (g:=4) (by kernel_rfl) hT hw (Ro _)
theorem qT{W:World}(h:laidMetH Tryz.prog iv W):KU (vL W):=by
 have hL:laidMet Tryz.prog iv W:=h
 have hU:Lib.Utf8Tabs 0 1 W:=
  utf8Tabs_of_readsT (U8Types.of196 Tryz.zh) ⟨by kernel_rfl,by kernel_rfl,by kernel_rfl,by kernel_rfl,by kernel_rfl,by kernel_rfl,by kernel_rfl⟩
   (D8▸Lib.laidMet.reads hL (by simp[iv])) (B9▸Lib.laidMet.reads hL (by simp[iv]))
 have hU:Lib.Utf8Tabs 0 1 {W with drawn:=0}:=hU;refine⟨rfl,fun w hw=>?_⟩;exact Utf8Tabs_below hU hw
theorem qS{W:World}(h:laidMetH Tryz.prog iv W):KE (vL W):=by
 have hL:laidMet Tryz.prog iv W:=h;obtain⟨a0,t0,hv0,_,_,_⟩:=laid_sentinel (g:=6) hL.tail.tail.tail.tail (by kernel_rfl) (by kernel_rfl) Tryz.underlying73 CG Tryz.underlying189 Tryz.underlying191 rfl rfl Tryz.underlying9 (by kernel_rfl) (by kernel_rfl);obtain⟨a1,t1,hv1,_,_,_⟩:=laid_sentinel (g:=5) hL.tail.tail.tail.tail.tail (by kernel_rfl) (by kernel_rfl) Tryz.underlying73 CG Tryz.underlying189 Tryz.underlying191 rfl rfl Tryz.underlying9 (by kernel_rfl) (by kernel_rfl);refine⟨rfl,fun w hw=>?_⟩;have h0:=Joins.var_stays (W:={W with drawn:=0}) (g:=6) (by kernel_rfl) hv0 hw (Ro _);have h1:=Joins.var_stays (W:={W with drawn:=0}) (g:=5) (by kernel_rfl) hv1 hw (Ro _);have c0:=World.var?_cell (g:=6) (by kernel_rfl) h0 0;have c1:=World.var?_cell (g:=5) (by kernel_rfl) h1 0;exact⟨⟨_,_,by simpa using c1⟩,⟨_,_,by simpa using c0⟩⟩
theorem qY{W:World}(hsh:W.ShapedOpen Tryz.prog):KM (vL W):=by
 obtain⟨m,hm⟩:=cell_of_shapedOpen_int (g:=3) (k:= .i64) (t:=3) (zero:= #[.int .i64 0]) hsh (by decide +kernel) (by kernel_rfl) rfl (by kernel_rfl) (by kernel_rfl) Tryz.underlying3;refine⟨rfl,fun w hw=>?_⟩;exact⟨m,(hw.cell (World.block_lt_of_cell? W _ hm)).trans hm⟩
noncomputable def aQ(os:Os):World:=
 let N:=(World.settled Tryz.prog os).heap.size
 let w0:=World.holding Tryz.prog os ⟨#[.cells #[.string ⟨#[105,110,118,97,108,105,100,32,115,121,110,116,97,120]⟩] 191,.cells #[.string ⟨#[118,97,108,117,101,32,111,117,116,32,111,102,32,114,97,110,103,101]⟩] 191], #[],[]⟩
 let put (h:Array Obj) (g:Nat) (cs:Array Value):Array Obj:=h.modify g fun
  | .cells _ t frozen=> .cells cs t frozen
  |o=>o
 let h0:=put (put w0.heap 5 #[.iface 189 (.pointer (some ⟨N,0,none⟩))]) 6 #[.iface 189 (.pointer (some ⟨N+1,0,none⟩))]
 let h1:=put h0 0 (Lib.firstTab.map fun z=>Value.int .u8 z).toArray
 let h2:=put h1 1 ((List.range 16).flatMap fun i=>[Value.int .u8 (Lib.accLo i),Value.int .u8 (Lib.accHi i)]).toArray
 let h4:=put h2 4 (Lib.pow10Tab.map fun z=>Value.int .u64 z).toArray
 let h5:=put h4 7 (([0,1,28,2,29,14,24,3,30,22,20,15,25,17,4,8,31,27,13,23,21,19,16,7,26,12,18,6,11,5,10,9]:List Int).map fun z=>Value.int .u8 z).toArray
 let h6:=put h5 2 Mp.toArray
 {w0 with heap:=h6}
theorem MN{P:Program}{W:World}{t:TypeId}{α β:Type}{en:α→List DV}{sz:α→Nat}{ok:α→Prop}{en':β→List DV}{sz':β→Nat}{ok':β→Prop}(h:Rd P W t en sz ok)(f:α→β)(he:∀a,ok a→en a=en' (f a))(hs:∀a,sz' (f a)≤sz a)(ho:∀a,ok a→ok' (f a)):Rd P W t en' sz' ok':=
 fun H enc n cs x hx=>let⟨a,h1,h2,h3,h4⟩:=h H enc n cs x hx;⟨f a,ho a h1,Se (hs a) h2,by rw[←he a h1];exact h3,h4⟩
theorem FU(l:List Nat)(x:Nat)(hx:x∈l):x≤l.sum:=by
 induction l with
 |nil=>cases hx
 |cons y l ih=>
  rw[Tl];rcases Rv.1 hx with rfl|hx
  ·omega
  ·have:=ih hx;omega
theorem tz{α:Type}(l:List α):(l.map fun _=>1).sum=l.length:=by
 induction l with
 |nil=>rfl
 |cons a l ih=>simp only[Rz,Tl,Ru,ih];omega
def KT(l:List (List UInt8)):Nat:=(l.map fun s=>s.length+1).sum
theorem It(l:List (List UInt8)):l.length≤KT l:=by
 unfold KT
 induction l with
 |nil=>exact Ro _
 |cons a l ih=>simp only[Rz,Tl,Ru];omega
theorem HB{l:List (List UInt8)}{s:List UInt8}(h:s∈l):s.length≤KT l:=by
 have:=FU _ _ (Sl (f:=fun s:List UInt8=>s.length+1) h);unfold KT;omega
theorem O3{W:World}:Rd Tryz.prog W 23 (fun l:List (List UInt8)=>[.sl 1 false (aU l)]) KT (fun l=>True):=
 (lP (hZ Tryz.underlying9) Tryz.underlying23 (by kernel_rfl)).conv (fun l=>l.map fun s=>s.data.toList) (fun l=>by
  unfold aU;rw[S6];rfl) (fun l=>by
  unfold KT;rw[S6];have e:((fun s:List UInt8=>s.length+1)∘fun s:ByteArray=>s.data.toList)=fun s=>s.size+1:=funext fun s=>by simp[aw]
  rw[e];omega) fun _ _=>trivial
theorem Po{W:World}:Rd Tryz.prog W 24 (fun l:List Nat=>[eH l]) (fun l=>l.length) dD:=
 MN (lP (Kh Tryz.underlying40) Tryz.underlying24 (by kernel_rfl)) (fun l=>l.map Int.toNat) (fun l h=>by
  unfold eH;rw[S6];refine congrArg (fun z=>[DV.sl 1 false z]) (Tm fun x hx=>?_);show dU x=dU ((x.toNat:Nat):Int);rw[S5 (h x hx).1]) (fun l=>by rw[tz,RM];omega) fun l h x hx=>by
  obtain⟨y,hy,rfl⟩:=RI.1 hx;have:=h y hy;omega
theorem Pd{W:World}:Rd Tryz.prog W 25 (fun l:List Int=>[nJ l]) (fun l=>l.length) (fun _=>True):=
 (lP (EH Tryz.underlying3) Tryz.underlying25 (by kernel_rfl)).conv id (fun _=>rfl) (fun l=>by simp only[id,tz];omega) fun _ _=>trivial
theorem OW{W:World}:Rd Tryz.prog W 26 (fun l:List G=>[lN l]) (fun l=>l.length) (fun _=>True):=by
 have rI:=fun{W:World}=>EH (P:=Tryz.prog) (W:=W) Tryz.underlying3
 have h:Rd Tryz.prog W 49 (fun g:G=>[dI g.a,dI g.f,dI g.t]) (fun _=>1) (fun _=>True):=
  (qL (W:=W) Tryz.underlying49 (total:=3) (by kernel_rfl) rfl (fk (k:=1) rI rfl (by kernel_rfl) (fk (k:=1) rI rfl (by kernel_rfl) (fk (k:=1) rI rfl (by kernel_rfl) zJ)))).conv (fun a=>⟨a.1,a.2.1,a.2.2.1⟩) (fun _=>rfl) (fun a=>by omega) fun _ _=>trivial
 exact(AO h Tryz.underlying26 (k:=3) (by kernel_rfl) (by omega)).conv id (fun _=>rfl) (fun l=>by simp only[id,tz];omega) fun _ _=>trivial
def Ov(c:Cf):Nat:=KT c.nm+c.up.length+c.qu.length+c.gr.length
theorem Mt{W:World}:Rd Tryz.prog W 28 (fun c:Cf=>[.sl 1 false (aU c.nm),eH c.up,nJ c.qu,lN c.gr]) Ov (fun c=>dD c.up):=
 (qL (W:=W) Tryz.underlying28 (total:=4) (by kernel_rfl) rfl (fk (k:=1) O3 rfl (by kernel_rfl) (fk (k:=1) Po rfl (by kernel_rfl) (fk (k:=1) Pd rfl (by kernel_rfl) (fk (k:=1) OW rfl (by kernel_rfl) zJ))))).conv (fun a=>⟨a.1,a.2.1,a.2.2.1,a.2.2.2.1⟩) (fun _=>rfl) (fun a=>by unfold Ov;dsimp only;omega) fun a h=>h.2.1
theorem Jj{c:Cf}(h:dD c.up)(hs:Ov c≤1048576):kj c:=by
 unfold Ov at hs;have:=It c.nm;exact⟨by omega,fun s hm=>by have:=HB hm;omega,by omega,h,by omega,by omega⟩
end Go.Proofs.YtiihljlagmmljaaGreatDoor
namespace Go.Proofs.YtiihljlagmmljaaGreatDoor
open Aml Go Go.RowKit Go.ChangeShapes Go.WideShapes Go.ChangeAt Lat Grs Rn
theorem oO:ownKnob Tryz.prog.godebug=none:=by kernel_rfl
theorem jD(H:Type)(enc:TypeId×Value→H)(W:World)(base:Nat)(args:Array Value)(ds gs:List (DataW H))(before:List MemPlace)
 (hval:∀(j:Nat) t v,Tryz.f3.params[j]? =some t→args[j]? =some v→Value.okWide Tryz.prog W .any base t v)
 (hW:DataW.Whole enc Tryz.prog Tryz.f3.params.toList Rows.confParsesSpec.vars false W args.toList ds gs before) (hk:Rows.uptoBulkAll (ds++gs)≤1048576) (hL:laidMetH Tryz.prog Rows.confParsesUptoRow.laid W) (hsh:W.ShapedOpen Tryz.prog):
 Calls Tryz.prog 3 args W fun e W'=>∃v,e= .returned v∧Rows.confParsesSpec.post enc Tryz.prog Tryz.f3 false true false false W args v W':=
 cF (w0:=vL W) rfl (.refl _) enc (ts:=[9]) (tb:=4) (eU (hZ Tryz.underlying9) (by kernel_rfl) jw) Tryz.params3 rfl Tryz.underlying4 rfl (by kernel_rfl) (by intro t ht;revert t;decide +kernel) (fun ds hd=>by
  first
  |(match ds,hd with|[_],_=>rfl)
  |(match ds,hd with|[_,_],_=>rfl)
  |(match ds,hd with|[_,_,_],_=>rfl)
  |(match ds,hd with|[_,_,_,_],_=>rfl)) (fun a ha hs=>(Ik (vL W) (gO hL) (qT hL) (qS hL) (rv hL) (qY hsh) a.1 ⟨[],[]⟩).mono fun d S' h=>h.1) base args ds gs before hval hW hk
theorem oF(os:Os):laidMet Tryz.prog Rows.confParsesUptoRow.laid ((aQ os).forCall (fun _ _=>0) ⟨#[], #[.string ByteArray.empty],[]⟩).memory:=
 laidMet_of_run' 8 (by kernel_rfl) (by kernel_rfl)
theorem lW(os:Os){H:Type}(enc:TypeId×Value→H):∃places,DataW.whole enc Tryz.prog ((aQ os).forCall (fun _ _=>0) ⟨#[], #[.string ByteArray.empty],[]⟩).memory Tryz.f3.params.toList Rows.confParsesSpec.vars false (#[.string ByteArray.empty]:Array Value).toList 8=some ([.lit (.string [])],[],places):=
 ⟨[],by kernel_rfl⟩
theorem lA(os:Os)(started:os.Started)(H:Type)(enc:TypeId×Value→H)(F:Stop.Interp):
 ReturnsInHanded {} Tryz.checked os 3 .any ((Rows.OpenSpec.upto Rows.confParsesSpec).preRow enc Tryz.prog Tryz.f3 Rows.confParsesUptoRow.domain false Rows.confParsesUptoRow.laid) (((Rows.OpenSpec.upto Rows.confParsesSpec).at F).post enc Tryz.prog Tryz.f3 false true false false):=by
 obtain⟨places,hx⟩:=lW os enc
 refine returnsInHanded_of_row (C:=Tryz.checked) (s:=Rows.OpenSpec.upto Rows.confParsesSpec) oO started (by kernel_rfl) Tryz.func3
  (witness_row_at (enc:=enc) (C:=Tryz.checked) false (aQ os) #[.string ByteArray.empty] rfl (by kernel_rfl) (by kernel_rfl) (by kernel_rfl)
   (OpenSpec.preRow_of_cond 8 hx (by kernel_rfl) (fun k hk=>by cases hk;kernel_rfl) (by kernel_rfl) (oF os))) ?_
 intro W base args ds gs before hval hW _ hc _ hL hsh _;exact jD H enc W base args ds gs before hval hW (of_decide_eq_true (hc _ rfl)) hL hsh
theorem mR:Rows.ConfParsesUptoSaid:=
 OpenClaim.holds_of_cond 3 Tryz.f3 rfl rfl rfl rfl rfl rfl rfl ⟨rfl,rfl,rfl,rfl,rfl⟩ rfl rfl rfl rfl rfl (by kernel_rfl) Tryz.func3 (by kernel_rfl)
  (of_decide_eq_true (by kernel_rfl)) (by unfold Func.isWrapper;first|(rw[if_pos (by decide +kernel)];kernel_rfl)|(rw[if_neg (by decide +kernel)];exact⟨rfl,rfl⟩))
  (fun os started H enc _ F=>by rw[OpenClaim.pre_eq_preRow];exact lA os started H enc F)
theorem lK(f:FuncId)(fn:Func)(hf:Tryz.pinned.checked.prog.funcNamed Rows.confParsesUptoRow.func=some f)(hfn:Tryz.pinned.checked.prog.funcs[f]? =some fn):
 true=Tryz.pinned.checked.prog.looks []∧∀(j:Nat) t,fn.params[j]? =some t→Tryz.pinned.checked.prog.wantsStandIn t=false:=by
 obtain rfl:f=3:=RG ((show Tryz.prog.funcNamed Rows.confParsesUptoRow.func=some 3 by kernel_rfl).symm.trans hf) |>.symm;obtain rfl:fn=Tryz.f3:=(RG (Tryz.func3.symm.trans hfn)).symm;refine⟨by kernel_rfl,fun j t ht=>?_⟩;rw[Tryz.params3]at ht;have hm:t∈([9]:List TypeId):=by simpa using SR ht
 exact(show∀t,t∈([9]:List TypeId)→Tryz.prog.wantsStandIn t=false by decide +kernel) t hm
theorem confParses_holds:Rows.ConfParsesUptoCardSaid:=
 Claim7.holds_tied_plain_at .later [] _ _ _ _ mR (fun _ h=>by cases h) (by kernel_rfl) (fun _ h=>by cases h) confParsesUpto_row_tie rfl ⟨rfl,rfl⟩ (by kernel_rfl) rfl lK (by kernel_rfl)
theorem s5:ownKnob Tryz.prog.godebug=none:=by kernel_rfl
theorem kU(H:Type)(enc:TypeId×Value→H)(W:World)(base:Nat)(args:Array Value)(ds gs:List (DataW H))(before:List MemPlace)
 (hval:∀(j:Nat) t v,Tryz.f8.params[j]? =some t→args[j]? =some v→Value.okWide Tryz.prog W .any base t v)
 (hW:DataW.Whole enc Tryz.prog Tryz.f8.params.toList Rows.confOnceSpec.vars false W args.toList ds gs before) (hk:Rows.uptoBulkAll (ds++gs)≤1048576) (hL:laidMetH Tryz.prog Rows.confOnceUptoRow.laid W) (hsh:W.ShapedOpen Tryz.prog):
 Calls Tryz.prog 8 args W fun e W'=>∃v,e= .returned v∧Rows.confOnceSpec.post enc Tryz.prog Tryz.f8 false true false false W args v W':=
 cF (w0:=vL W) rfl (.refl _) enc (ts:=[9]) (tb:=4) (eU (hZ Tryz.underlying9) (by kernel_rfl) jw) Tryz.params8 rfl Tryz.underlying4 rfl (by kernel_rfl) (by intro t ht;revert t;decide +kernel) (fun ds hd=>by
  first
  |(match ds,hd with|[_],_=>rfl)
  |(match ds,hd with|[_,_],_=>rfl)
  |(match ds,hd with|[_,_,_],_=>rfl)
  |(match ds,hd with|[_,_,_,_],_=>rfl)) (fun a ha hs=>(Nb (vL W) (gO hL) (qT hL) (qS hL) (rv hL) (qY hsh) a.1 ⟨[],[]⟩).mono fun d S' h=>h.1) base args ds gs before hval hW hk
theorem tv(os:Os):laidMet Tryz.prog Rows.confOnceUptoRow.laid ((aQ os).forCall (fun _ _=>0) ⟨#[], #[.string ByteArray.empty],[]⟩).memory:=
 laidMet_of_run' 8 (by kernel_rfl) (by kernel_rfl)
theorem pG(os:Os){H:Type}(enc:TypeId×Value→H):∃places,DataW.whole enc Tryz.prog ((aQ os).forCall (fun _ _=>0) ⟨#[], #[.string ByteArray.empty],[]⟩).memory Tryz.f8.params.toList Rows.confOnceSpec.vars false (#[.string ByteArray.empty]:Array Value).toList 8=some ([.lit (.string [])],[],places):=
 ⟨[],by kernel_rfl⟩
theorem mO(os:Os)(started:os.Started)(H:Type)(enc:TypeId×Value→H)(F:Stop.Interp):
 ReturnsInHanded {} Tryz.checked os 8 .any ((Rows.OpenSpec.upto Rows.confOnceSpec).preRow enc Tryz.prog Tryz.f8 Rows.confOnceUptoRow.domain false Rows.confOnceUptoRow.laid) (((Rows.OpenSpec.upto Rows.confOnceSpec).at F).post enc Tryz.prog Tryz.f8 false true false false):=by
 obtain⟨places,hx⟩:=pG os enc
 refine returnsInHanded_of_row (C:=Tryz.checked) (s:=Rows.OpenSpec.upto Rows.confOnceSpec) s5 started (by kernel_rfl) Tryz.func8
  (witness_row_at (enc:=enc) (C:=Tryz.checked) false (aQ os) #[.string ByteArray.empty] rfl (by kernel_rfl) (by kernel_rfl) (by kernel_rfl)
   (OpenSpec.preRow_of_cond 8 hx (by kernel_rfl) (fun k hk=>by cases hk;kernel_rfl) (by kernel_rfl) (tv os))) ?_
 intro W base args ds gs before hval hW _ hc _ hL hsh _;exact kU H enc W base args ds gs before hval hW (of_decide_eq_true (hc _ rfl)) hL hsh
theorem qn:Rows.ConfOnceUptoSaid:=
 OpenClaim.holds_of_cond 8 Tryz.f8 rfl rfl rfl rfl rfl rfl rfl ⟨rfl,rfl,rfl,rfl,rfl⟩ rfl rfl rfl rfl rfl (by kernel_rfl) Tryz.func8 (by kernel_rfl)
  (of_decide_eq_true (by kernel_rfl)) (by unfold Func.isWrapper;first|(rw[if_pos (by decide +kernel)];kernel_rfl)|(rw[if_neg (by decide +kernel)];exact⟨rfl,rfl⟩))
  (fun os started H enc _ F=>by rw[OpenClaim.pre_eq_preRow];exact mO os started H enc F)
theorem n9(f:FuncId)(fn:Func)(hf:Tryz.pinned.checked.prog.funcNamed Rows.confOnceUptoRow.func=some f)(hfn:Tryz.pinned.checked.prog.funcs[f]? =some fn):
 true=Tryz.pinned.checked.prog.looks []∧∀(j:Nat) t,fn.params[j]? =some t→Tryz.pinned.checked.prog.wantsStandIn t=false:=by
 obtain rfl:f=8:=RG ((show Tryz.prog.funcNamed Rows.confOnceUptoRow.func=some 8 by kernel_rfl).symm.trans hf) |>.symm;obtain rfl:fn=Tryz.f8:=(RG (Tryz.func8.symm.trans hfn)).symm;refine⟨by kernel_rfl,fun j t ht=>?_⟩;rw[Tryz.params8]at ht;have hm:t∈([9]:List TypeId):=by simpa using SR ht
 exact(show∀t,t∈([9]:List TypeId)→Tryz.prog.wantsStandIn t=false by decide +kernel) t hm
theorem confOnce_holds:Rows.ConfOnceUptoCardSaid:=
 Claim7.holds_tied_plain_at .later [] _ _ _ _ qn (fun _ h=>by cases h) (by kernel_rfl) (fun _ h=>by cases h) confOnceUpto_row_tie rfl ⟨rfl,rfl⟩ (by kernel_rfl) rfl n9 (by kernel_rfl)
theorem qz:ownKnob Tryz.prog.godebug=none:=by kernel_rfl
theorem jV(H:Type)(enc:TypeId×Value→H)(W:World)(base:Nat)(args:Array Value)(ds gs:List (DataW H))(before:List MemPlace)
 (hval:∀(j:Nat) t v,Tryz.f4.params[j]? =some t→args[j]? =some v→Value.okWide Tryz.prog W .any base t v)
 (hW:DataW.Whole enc Tryz.prog Tryz.f4.params.toList Rows.confShowsSpec.vars false W args.toList ds gs before) (hk:Rows.uptoBulkAll (ds++gs)≤1048576) (hL:laidMetH Tryz.prog Rows.confShowsUptoRow.laid W) (hsh:W.ShapedOpen Tryz.prog):
 Calls Tryz.prog 4 args W fun e W'=>∃v,e= .returned v∧Rows.confShowsSpec.post enc Tryz.prog Tryz.f4 false true false false W args v W':=
 cF (w0:=vL W) rfl (.refl _) enc (ts:=[28,9]) (tb:=4) (zF Mt Tryz.underlying28 (eU (hZ Tryz.underlying9) (by kernel_rfl) jw)) Tryz.params4 rfl Tryz.underlying4 rfl (by kernel_rfl) (by intro t ht;revert t;decide +kernel) (fun ds hd=>by
  first
  |(match ds,hd with|[_],_=>rfl)
  |(match ds,hd with|[_,_],_=>rfl)
  |(match ds,hd with|[_,_,_],_=>rfl)
  |(match ds,hd with|[_,_,_,_],_=>rfl)) (fun a ha hs=>(wJ (vL W) (gO hL) (qT hL) (qS hL) (rv hL) (qY hsh) a.1 (Jj ha.1 (by omega)) a.2.1 ⟨[],[]⟩).mono fun d S' h=>h.1) base args ds gs before hval hW hk
theorem qj(os:Os):laidMet Tryz.prog Rows.confShowsUptoRow.laid ((aQ os).forCall (fun _ _=>0) ⟨#[], #[.agg #[.slice none 0 0,.slice none 0 0,.slice none 0 0,.slice none 0 0],.string ByteArray.empty],[]⟩).memory:=
 laidMet_of_run' 8 (by kernel_rfl) (by kernel_rfl)
theorem mW(os:Os){H:Type}(enc:TypeId×Value→H):∃places,DataW.whole enc Tryz.prog ((aQ os).forCall (fun _ _=>0) ⟨#[], #[.agg #[.slice none 0 0,.slice none 0 0,.slice none 0 0,.slice none 0 0],.string ByteArray.empty],[]⟩).memory Tryz.f4.params.toList Rows.confShowsSpec.vars false (#[.agg #[.slice none 0 0,.slice none 0 0,.slice none 0 0,.slice none 0 0],.string ByteArray.empty]:Array Value).toList 8=some ([.agg [.nil,.nil,.nil,.nil],.lit (.string [])],[],places):=
 ⟨[],by kernel_rfl⟩
theorem lR(os:Os)(started:os.Started)(H:Type)(enc:TypeId×Value→H)(F:Stop.Interp):
 ReturnsInHanded {} Tryz.checked os 4 .any ((Rows.OpenSpec.upto Rows.confShowsSpec).preRow enc Tryz.prog Tryz.f4 Rows.confShowsUptoRow.domain false Rows.confShowsUptoRow.laid) (((Rows.OpenSpec.upto Rows.confShowsSpec).at F).post enc Tryz.prog Tryz.f4 false true false false):=by
 obtain⟨places,hx⟩:=mW os enc
 refine returnsInHanded_of_row (C:=Tryz.checked) (s:=Rows.OpenSpec.upto Rows.confShowsSpec) qz started (by kernel_rfl) Tryz.func4
  (witness_row_at (enc:=enc) (C:=Tryz.checked) false (aQ os) #[.agg #[.slice none 0 0,.slice none 0 0,.slice none 0 0,.slice none 0 0],.string ByteArray.empty] rfl (by kernel_rfl) (by kernel_rfl) (by kernel_rfl)
   (OpenSpec.preRow_of_cond 8 hx (by kernel_rfl) (fun k hk=>by cases hk;kernel_rfl) (by kernel_rfl) (qj os))) ?_
 intro W base args ds gs before hval hW _ hc _ hL hsh _;exact jV H enc W base args ds gs before hval hW (of_decide_eq_true (hc _ rfl)) hL hsh
theorem oD:Rows.ConfShowsUptoSaid:=
 OpenClaim.holds_of_cond 4 Tryz.f4 rfl rfl rfl rfl rfl rfl rfl ⟨rfl,rfl,rfl,rfl,rfl⟩ rfl rfl rfl rfl rfl (by kernel_rfl) Tryz.func4 (by kernel_rfl)
  (of_decide_eq_true (by kernel_rfl)) (by unfold Func.isWrapper;first|(rw[if_pos (by decide +kernel)];kernel_rfl)|(rw[if_neg (by decide +kernel)];exact⟨rfl,rfl⟩))
  (fun os started H enc _ F=>by rw[OpenClaim.pre_eq_preRow];exact lR os started H enc F)
theorem mP(f:FuncId)(fn:Func)(hf:Tryz.pinned.checked.prog.funcNamed Rows.confShowsUptoRow.func=some f)(hfn:Tryz.pinned.checked.prog.funcs[f]? =some fn):
 true=Tryz.pinned.checked.prog.looks []∧∀(j:Nat) t,fn.params[j]? =some t→Tryz.pinned.checked.prog.wantsStandIn t=false:=by
 obtain rfl:f=4:=RG ((show Tryz.prog.funcNamed Rows.confShowsUptoRow.func=some 4 by kernel_rfl).symm.trans hf) |>.symm;obtain rfl:fn=Tryz.f4:=(RG (Tryz.func4.symm.trans hfn)).symm;refine⟨by kernel_rfl,fun j t ht=>?_⟩;rw[Tryz.params4]at ht;have hm:t∈([28,9]:List TypeId):=by simpa using SR ht
 exact(show∀t,t∈([28,9]:List TypeId)→Tryz.prog.wantsStandIn t=false by decide +kernel) t hm
theorem confShows_holds:Rows.ConfShowsUptoCardSaid:=
 Claim7.holds_tied_plain_at .later [] _ _ _ _ oD (fun _ h=>by cases h) (by kernel_rfl) (fun _ h=>by cases h) confShowsUpto_row_tie rfl ⟨rfl,rfl⟩ (by kernel_rfl) rfl mP (by kernel_rfl)
theorem sq:ownKnob Tryz.prog.godebug=none:=by kernel_rfl
theorem lh(H:Type)(enc:TypeId×Value→H)(W:World)(base:Nat)(args:Array Value)(ds gs:List (DataW H))(before:List MemPlace)
 (hval:∀(j:Nat) t v,Tryz.f5.params[j]? =some t→args[j]? =some v→Value.okWide Tryz.prog W .any base t v)
 (hW:DataW.Whole enc Tryz.prog Tryz.f5.params.toList Rows.confBackSpec.vars false W args.toList ds gs before) (hk:Rows.uptoBulkAll (ds++gs)≤1048576) (hL:laidMetH Tryz.prog Rows.confBackUptoRow.laid W) (hsh:W.ShapedOpen Tryz.prog):
 Calls Tryz.prog 5 args W fun e W'=>∃v,e= .returned v∧Rows.confBackSpec.post enc Tryz.prog Tryz.f5 false true false false W args v W':=
 cF (w0:=vL W) rfl (.refl _) enc (ts:=[28,9]) (tb:=4) (zF Mt Tryz.underlying28 (eU (hZ Tryz.underlying9) (by kernel_rfl) jw)) Tryz.params5 rfl Tryz.underlying4 rfl (by kernel_rfl) (by intro t ht;revert t;decide +kernel) (fun ds hd=>by
  first
  |(match ds,hd with|[_],_=>rfl)
  |(match ds,hd with|[_,_],_=>rfl)
  |(match ds,hd with|[_,_,_],_=>rfl)
  |(match ds,hd with|[_,_,_,_],_=>rfl)) (fun a ha hs=>(M4 (vL W) (gO hL) (qT hL) (qS hL) (rv hL) (qY hsh) a.1 (Jj ha.1 (by omega)) a.2.1 ⟨[],[]⟩).mono fun d S' h=>h.1) base args ds gs before hval hW hk
theorem tn(os:Os):laidMet Tryz.prog Rows.confBackUptoRow.laid ((aQ os).forCall (fun _ _=>0) ⟨#[], #[.agg #[.slice none 0 0,.slice none 0 0,.slice none 0 0,.slice none 0 0],.string ByteArray.empty],[]⟩).memory:=
 laidMet_of_run' 8 (by kernel_rfl) (by kernel_rfl)
theorem nV(os:Os){H:Type}(enc:TypeId×Value→H):∃places,DataW.whole enc Tryz.prog ((aQ os).forCall (fun _ _=>0) ⟨#[], #[.agg #[.slice none 0 0,.slice none 0 0,.slice none 0 0,.slice none 0 0],.string ByteArray.empty],[]⟩).memory Tryz.f5.params.toList Rows.confBackSpec.vars false (#[.agg #[.slice none 0 0,.slice none 0 0,.slice none 0 0,.slice none 0 0],.string ByteArray.empty]:Array Value).toList 8=some ([.agg [.nil,.nil,.nil,.nil],.lit (.string [])],[],places):=
 ⟨[],by kernel_rfl⟩
theorem nj(os:Os)(started:os.Started)(H:Type)(enc:TypeId×Value→H)(F:Stop.Interp):
 ReturnsInHanded {} Tryz.checked os 5 .any ((Rows.OpenSpec.upto Rows.confBackSpec).preRow enc Tryz.prog Tryz.f5 Rows.confBackUptoRow.domain false Rows.confBackUptoRow.laid) (((Rows.OpenSpec.upto Rows.confBackSpec).at F).post enc Tryz.prog Tryz.f5 false true false false):=by
 obtain⟨places,hx⟩:=nV os enc
 refine returnsInHanded_of_row (C:=Tryz.checked) (s:=Rows.OpenSpec.upto Rows.confBackSpec) sq started (by kernel_rfl) Tryz.func5
  (witness_row_at (enc:=enc) (C:=Tryz.checked) false (aQ os) #[.agg #[.slice none 0 0,.slice none 0 0,.slice none 0 0,.slice none 0 0],.string ByteArray.empty] rfl (by kernel_rfl) (by kernel_rfl) (by kernel_rfl)
   (OpenSpec.preRow_of_cond 8 hx (by kernel_rfl) (fun k hk=>by cases hk;kernel_rfl) (by kernel_rfl) (tn os))) ?_
 intro W base args ds gs before hval hW _ hc _ hL hsh _;exact lh H enc W base args ds gs before hval hW (of_decide_eq_true (hc _ rfl)) hL hsh
theorem qf:Rows.ConfBackUptoSaid:=
 OpenClaim.holds_of_cond 5 Tryz.f5 rfl rfl rfl rfl rfl rfl rfl ⟨rfl,rfl,rfl,rfl,rfl⟩ rfl rfl rfl rfl rfl (by kernel_rfl) Tryz.func5 (by kernel_rfl)
  (of_decide_eq_true (by kernel_rfl)) (by unfold Func.isWrapper;first|(rw[if_pos (by decide +kernel)];kernel_rfl)|(rw[if_neg (by decide +kernel)];exact⟨rfl,rfl⟩))
  (fun os started H enc _ F=>by rw[OpenClaim.pre_eq_preRow];exact nj os started H enc F)
theorem ox(f:FuncId)(fn:Func)(hf:Tryz.pinned.checked.prog.funcNamed Rows.confBackUptoRow.func=some f)(hfn:Tryz.pinned.checked.prog.funcs[f]? =some fn):
 true=Tryz.pinned.checked.prog.looks []∧∀(j:Nat) t,fn.params[j]? =some t→Tryz.pinned.checked.prog.wantsStandIn t=false:=by
 obtain rfl:f=5:=RG ((show Tryz.prog.funcNamed Rows.confBackUptoRow.func=some 5 by kernel_rfl).symm.trans hf) |>.symm;obtain rfl:fn=Tryz.f5:=(RG (Tryz.func5.symm.trans hfn)).symm;refine⟨by kernel_rfl,fun j t ht=>?_⟩;rw[Tryz.params5]at ht;have hm:t∈([28,9]:List TypeId):=by simpa using SR ht
 exact(show∀t,t∈([28,9]:List TypeId)→Tryz.prog.wantsStandIn t=false by decide +kernel) t hm
theorem confBack_holds:Rows.ConfBackUptoCardSaid:=
 Claim7.holds_tied_plain_at .later [] _ _ _ _ qf (fun _ h=>by cases h) (by kernel_rfl) (fun _ h=>by cases h) confBackUpto_row_tie rfl ⟨rfl,rfl⟩ (by kernel_rfl) rfl ox (by kernel_rfl)
theorem qq:ownKnob Tryz.prog.godebug=none:=by kernel_rfl
theorem ku(H:Type)(enc:TypeId×Value→H)(W:World)(base:Nat)(args:Array Value)(ds gs:List (DataW H))(before:List MemPlace)
 (hval:∀(j:Nat) t v,Tryz.f6.params[j]? =some t→args[j]? =some v→Value.okWide Tryz.prog W .any base t v)
 (hW:DataW.Whole enc Tryz.prog Tryz.f6.params.toList Rows.confWhereSpec.vars false W args.toList ds gs before) (hk:Rows.uptoBulkAll (ds++gs)≤1048576) (hL:laidMetH Tryz.prog Rows.confWhereUptoRow.laid W) (hsh:W.ShapedOpen Tryz.prog):
 Calls Tryz.prog 6 args W fun e W'=>∃v,e= .returned v∧Rows.confWhereSpec.post enc Tryz.prog Tryz.f6 false true false false W args v W':=
 cF (w0:=vL W) rfl (.refl _) enc (ts:=[9,9]) (tb:=4) (eU (hZ Tryz.underlying9) (by kernel_rfl) (eU (hZ Tryz.underlying9) (by kernel_rfl) jw)) Tryz.params6 rfl Tryz.underlying4 rfl (by kernel_rfl) (by intro t ht;revert t;decide +kernel) (fun ds hd=>by
  first
  |(match ds,hd with|[_],_=>rfl)
  |(match ds,hd with|[_,_],_=>rfl)
  |(match ds,hd with|[_,_,_],_=>rfl)
  |(match ds,hd with|[_,_,_,_],_=>rfl)) (fun a ha hs=>(Lu (vL W) (gO hL) (qT hL) (qS hL) (rv hL) (qY hsh) a.1 a.2.1 ⟨[],[]⟩).mono fun d S' h=>h.1) base args ds gs before hval hW hk
theorem qm(os:Os):laidMet Tryz.prog Rows.confWhereUptoRow.laid ((aQ os).forCall (fun _ _=>0) ⟨#[], #[.string ByteArray.empty,.string ByteArray.empty],[]⟩).memory:=
 laidMet_of_run' 8 (by kernel_rfl) (by kernel_rfl)
theorem mS(os:Os){H:Type}(enc:TypeId×Value→H):∃places,DataW.whole enc Tryz.prog ((aQ os).forCall (fun _ _=>0) ⟨#[], #[.string ByteArray.empty,.string ByteArray.empty],[]⟩).memory Tryz.f6.params.toList Rows.confWhereSpec.vars false (#[.string ByteArray.empty,.string ByteArray.empty]:Array Value).toList 8=some ([.lit (.string []),.lit (.string [])],[],places):=
 ⟨[],by kernel_rfl⟩
theorem lE(os:Os)(started:os.Started)(H:Type)(enc:TypeId×Value→H)(F:Stop.Interp):
 ReturnsInHanded {} Tryz.checked os 6 .any ((Rows.OpenSpec.upto Rows.confWhereSpec).preRow enc Tryz.prog Tryz.f6 Rows.confWhereUptoRow.domain false Rows.confWhereUptoRow.laid) (((Rows.OpenSpec.upto Rows.confWhereSpec).at F).post enc Tryz.prog Tryz.f6 false true false false):=by
 obtain⟨places,hx⟩:=mS os enc
 refine returnsInHanded_of_row (C:=Tryz.checked) (s:=Rows.OpenSpec.upto Rows.confWhereSpec) qq started (by kernel_rfl) Tryz.func6
  (witness_row_at (enc:=enc) (C:=Tryz.checked) false (aQ os) #[.string ByteArray.empty,.string ByteArray.empty] rfl (by kernel_rfl) (by kernel_rfl) (by kernel_rfl)
   (OpenSpec.preRow_of_cond 8 hx (by kernel_rfl) (fun k hk=>by cases hk;kernel_rfl) (by kernel_rfl) (qm os))) ?_
 intro W base args ds gs before hval hW _ hc _ hL hsh _;exact ku H enc W base args ds gs before hval hW (of_decide_eq_true (hc _ rfl)) hL hsh
theorem ot:Rows.ConfWhereUptoSaid:=
 OpenClaim.holds_of_cond 6 Tryz.f6 rfl rfl rfl rfl rfl rfl rfl ⟨rfl,rfl,rfl,rfl,rfl⟩ rfl rfl rfl rfl rfl (by kernel_rfl) Tryz.func6 (by kernel_rfl)
  (of_decide_eq_true (by kernel_rfl)) (by unfold Func.isWrapper;first|(rw[if_pos (by decide +kernel)];kernel_rfl)|(rw[if_neg (by decide +kernel)];exact⟨rfl,rfl⟩))
  (fun os started H enc _ F=>by rw[OpenClaim.pre_eq_preRow];exact lE os started H enc F)
theorem ng(f:FuncId)(fn:Func)(hf:Tryz.pinned.checked.prog.funcNamed Rows.confWhereUptoRow.func=some f)(hfn:Tryz.pinned.checked.prog.funcs[f]? =some fn):
 true=Tryz.pinned.checked.prog.looks []∧∀(j:Nat) t,fn.params[j]? =some t→Tryz.pinned.checked.prog.wantsStandIn t=false:=by
 obtain rfl:f=6:=RG ((show Tryz.prog.funcNamed Rows.confWhereUptoRow.func=some 6 by kernel_rfl).symm.trans hf) |>.symm;obtain rfl:fn=Tryz.f6:=(RG (Tryz.func6.symm.trans hfn)).symm;refine⟨by kernel_rfl,fun j t ht=>?_⟩;rw[Tryz.params6]at ht;have hm:t∈([9,9]:List TypeId):=by simpa using SR ht
 exact(show∀t,t∈([9,9]:List TypeId)→Tryz.prog.wantsStandIn t=false by decide +kernel) t hm
theorem confWhere_holds:Rows.ConfWhereUptoCardSaid:=
 Claim7.holds_tied_plain_at .later [] _ _ _ _ ot (fun _ h=>by cases h) (by kernel_rfl) (fun _ h=>by cases h) confWhereUpto_row_tie rfl ⟨rfl,rfl⟩ (by kernel_rfl) rfl ng (by kernel_rfl)
theorem LB(w0:W0)(hg:cV w0)(hk:KU w0)(hke:KE w0)(hp:KP w0)(hm:KM w0)(s t:ByteArray)(n:Int)(h:0≤n∧n≤255)(S:St):ab Tryz.prog w0 7 [dS s,dS t,dY n] S (fun d S'=>d=dB true∧S'=S):=by
 have e:n=((UInt8.ofNat n.toNat).toNat:Nat):=by rw[Tt];omega
 unfold dY;rw[e];exact LN w0 hg hk hke hp hm s t (UInt8.ofNat n.toNat) S
theorem ql:ownKnob Tryz.prog.godebug=none:=by kernel_rfl
theorem ko(H:Type)(enc:TypeId×Value→H)(W:World)(base:Nat)(args:Array Value)(ds gs:List (DataW H))(before:List MemPlace)
 (hval:∀(j:Nat) t v,Tryz.f7.params[j]? =some t→args[j]? =some v→Value.okWide Tryz.prog W .any base t v)
 (hW:DataW.Whole enc Tryz.prog Tryz.f7.params.toList Rows.confNamesSpec.vars false W args.toList ds gs before) (hk:Rows.uptoBulkAll (ds++gs)≤1048576) (hL:laidMetH Tryz.prog Rows.confNamesUptoRow.laid W) (hsh:W.ShapedOpen Tryz.prog):
 Calls Tryz.prog 7 args W fun e W'=>∃v,e= .returned v∧Rows.confNamesSpec.post enc Tryz.prog Tryz.f7 false true false false W args v W':=
 cF (w0:=vL W) rfl (.refl _) enc (ts:=[9,9,5]) (tb:=4) (eU (hZ Tryz.underlying9) (by kernel_rfl) (eU (hZ Tryz.underlying9) (by kernel_rfl) (eU (Nk Tryz.underlying5) (by kernel_rfl) jw))) Tryz.params7 rfl Tryz.underlying4 rfl (by kernel_rfl) (by intro t ht;revert t;decide +kernel) (fun ds hd=>by
  first
  |(match ds,hd with|[_],_=>rfl)
  |(match ds,hd with|[_,_],_=>rfl)
  |(match ds,hd with|[_,_,_],_=>rfl)
  |(match ds,hd with|[_,_,_,_],_=>rfl)) (fun a ha hs=>(LB (vL W) (gO hL) (qT hL) (qS hL) (rv hL) (qY hsh) a.1 a.2.1 a.2.2.1 ha.2.2.1 ⟨[],[]⟩).mono fun d S' h=>h.1) base args ds gs before hval hW hk
theorem qk(os:Os):laidMet Tryz.prog Rows.confNamesUptoRow.laid ((aQ os).forCall (fun _ _=>0) ⟨#[], #[.string ByteArray.empty,.string ByteArray.empty,.int .u8 0],[]⟩).memory:=
 laidMet_of_run' 8 (by kernel_rfl) (by kernel_rfl)
theorem mN(os:Os){H:Type}(enc:TypeId×Value→H):∃places,DataW.whole enc Tryz.prog ((aQ os).forCall (fun _ _=>0) ⟨#[], #[.string ByteArray.empty,.string ByteArray.empty,.int .u8 0],[]⟩).memory Tryz.f7.params.toList Rows.confNamesSpec.vars false (#[.string ByteArray.empty,.string ByteArray.empty,.int .u8 0]:Array Value).toList 8=some ([.lit (.string []),.lit (.string []),.lit (.int .u8 0)],[],places):=
 ⟨[],by kernel_rfl⟩
theorem mf(os:Os)(started:os.Started)(H:Type)(enc:TypeId×Value→H)(F:Stop.Interp):
 ReturnsInHanded {} Tryz.checked os 7 .any ((Rows.OpenSpec.upto Rows.confNamesSpec).preRow enc Tryz.prog Tryz.f7 Rows.confNamesUptoRow.domain false Rows.confNamesUptoRow.laid) (((Rows.OpenSpec.upto Rows.confNamesSpec).at F).post enc Tryz.prog Tryz.f7 false true false false):=by
 obtain⟨places,hx⟩:=mN os enc
 refine returnsInHanded_of_row (C:=Tryz.checked) (s:=Rows.OpenSpec.upto Rows.confNamesSpec) ql started (by kernel_rfl) Tryz.func7
  (witness_row_at (enc:=enc) (C:=Tryz.checked) false (aQ os) #[.string ByteArray.empty,.string ByteArray.empty,.int .u8 0] rfl (by kernel_rfl) (by kernel_rfl) (by kernel_rfl)
   (OpenSpec.preRow_of_cond 8 hx (by kernel_rfl) (fun k hk=>by cases hk;kernel_rfl) (by kernel_rfl) (qk os))) ?_
 intro W base args ds gs before hval hW _ hc _ hL hsh _;exact ko H enc W base args ds gs before hval hW (of_decide_eq_true (hc _ rfl)) hL hsh
theorem pd:Rows.ConfNamesUptoSaid:=
 OpenClaim.holds_of_cond 7 Tryz.f7 rfl rfl rfl rfl rfl rfl rfl ⟨rfl,rfl,rfl,rfl,rfl⟩ rfl rfl rfl rfl rfl (by kernel_rfl) Tryz.func7 (by kernel_rfl)
  (of_decide_eq_true (by kernel_rfl)) (by unfold Func.isWrapper;first|(rw[if_pos (by decide +kernel)];kernel_rfl)|(rw[if_neg (by decide +kernel)];exact⟨rfl,rfl⟩))
  (fun os started H enc _ F=>by rw[OpenClaim.pre_eq_preRow];exact mf os started H enc F)
theorem mU(f:FuncId)(fn:Func)(hf:Tryz.pinned.checked.prog.funcNamed Rows.confNamesUptoRow.func=some f)(hfn:Tryz.pinned.checked.prog.funcs[f]? =some fn):
 true=Tryz.pinned.checked.prog.looks []∧∀(j:Nat) t,fn.params[j]? =some t→Tryz.pinned.checked.prog.wantsStandIn t=false:=by
 obtain rfl:f=7:=RG ((show Tryz.prog.funcNamed Rows.confNamesUptoRow.func=some 7 by kernel_rfl).symm.trans hf) |>.symm;obtain rfl:fn=Tryz.f7:=(RG (Tryz.func7.symm.trans hfn)).symm;refine⟨by kernel_rfl,fun j t ht=>?_⟩;rw[Tryz.params7]at ht;have hm:t∈([9,9,5]:List TypeId):=by simpa using SR ht
 exact(show∀t,t∈([9,9,5]:List TypeId)→Tryz.prog.wantsStandIn t=false by decide +kernel) t hm
theorem confNames_holds:Rows.ConfNamesUptoCardSaid:=
 Claim7.holds_tied_plain_at .later [] _ _ _ _ pd (fun _ h=>by cases h) (by kernel_rfl) (fun _ h=>by cases h) confNamesUpto_row_tie rfl ⟨rfl,rfl⟩ (by kernel_rfl) rfl mU (by kernel_rfl)
end Go.Proofs.YtiihljlagmmljaaGreatDoor
namespace Go.Proofs.YtiihljlagmmljaaGreatDoor
theorem confSix:(Rows.ConfParsesUptoCardSaid∧Rows.ConfOnceUptoCardSaid∧Rows.ConfShowsUptoCardSaid)∧Rows.ConfBackUptoCardSaid∧Rows.ConfWhereUptoCardSaid∧Rows.ConfNamesUptoCardSaid:=⟨⟨confParses_holds,confOnce_holds,confShows_holds⟩,confBack_holds,confWhere_holds,confNames_holds⟩
end Go.Proofs.YtiihljlagmmljaaGreatDoor
