/-
  Part 6 of the proof that the last text ends: from 'Numbers, sums and pages as texts: what the reference computes' to 'A key deleted, whole; where there is nothing: what the program computes'. By an AI agent.
-/
import Derived.Test.YtpjenciplibdnaaGreatDoorMQ5
import Derived.Test.YtpjenciplibdnaaGreatDoorMQ4
import Derived.Lib.Bytealg
import Derived.Lib.Overlaps
set_option linter.unusedVariables false
set_option linter.unusedSimpArgs false
set_option maxRecDepth 100000
set_option maxHeartbeats 16000000
namespace Go.Proofs.YtpjenciplibdnaaGreatDoor
open Aml Go
@[go_sem] theorem abt (a b:ByteArray) (K:DV→Prop):j3 .add a b K=(a.size+b.size≤9223372036854775807∧K (.v (.string (a++b)))):=rfl
@[go_sem] theorem aaU (x:Int):wA [.v (.int .u8 x)]=[x]:=rfl
@[go_sem] theorem YT (x:Int):nM [.v (.int .u8 x)]=true:=rfl
@[go_sem] theorem aaD (x y:Int):wA [.v (.int .u8 x),.v (.int .u8 y)]=[x,y]:=rfl
@[go_sem] theorem WY (x y:Int):nM [.v (.int .u8 x),.v (.int .u8 y)]=true:=rfl
def kR:Nat→Int→Int
 |0,x=>x
 |i+1,x=>IntKind.u64.wrap ((kR i x).tdiv 256)
def bq:Nat→Int→ByteArray
 |0,_=>aN
 |i+1,x=>strOfNums [IntKind.u8.wrap (kR i x)]++bq i x
theorem az:∀(k:Nat) (x:Int),(bq k x).size=k
 |0,_=>bk
 |k+1,x=>by
  rw[bq,adJ,az k x,strOfNums_size];simp;omega
theorem pA(w0:W0)(x:Int)(k:Nat)(S:St)(h0:1≤k)(h1:k≤8):ab Tryz.prog w0 86 [dU x,dI k] S (fun d S'=>d=dS (bq k x)∧S'=S):=by
 refine aJ [] mx Tryz.func86 rfl rfl (by kernel_rfl) ?_;refine @aa _ (ai @Tryz.ntmps86 ?_);refine⟨fun h=>absurd h (by omega),fun _=>⟨fun h=>absurd h (by omega),fun _=>?_⟩⟩;refine aw [] k [0,1,5,6] (fun i=>[(0,dU (kR i x)),(5,dS (bq i x)),(6,dI i)]) (fun _=>S) (fun _=>True) mx (by kernel_rfl) ?_ ?_
 ·refine @aa _ (af ?_);exact⟨rfl,rfl⟩
 ·intro i hi _;have hs:=az i x;have hz:(strOfNums [IntKind.u8.wrap (kR i x)]).size=1:=strOfNums_size _;refine @aa _ (ai @hz ?_);refine⟨fun hlt=>⟨by omega,hlt,rfl,rfl,by rw[aG (by omega) (by omega)];rfl⟩,fun hge=>by rw[show i=k by omega]⟩
def VK(x:Int):Int:=if x.tmod 2=1 then fL .xor .u32 (IntKind.u32.wrap (x.tdiv 2)) 3988292384 else IntKind.u32.wrap (x.tdiv 2)
def lT:Nat→Int→Int
 |0,x=>x
 |k+1,x=>VK (lT k x)
def kv(s:ByteArray):List Int:=s.data.toList.map fun c=>(c.toNat:Int)
theorem Bn(s:ByteArray):(kv s).length=s.size:=by unfold kv;rw[abv];rfl
def o7(l:List Int)(x:Int):Int:=l.foldl (fun x c=>lT 8 (fL .xor .u32 x (IntKind.u32.wrap c))) x
def Gg(x:Int)(s:ByteArray):Int:=IntKind.u32.wrap (4294967295-o7 (kv s) (IntKind.u32.wrap (4294967295-x)))
theorem onR(w0:W0)(x:Int)(s:ByteArray)(S:St)(h:s.size≤1048576):ab Tryz.prog w0 164 [.v (.int .u32 x),dS s] S (fun d S'=>d= .v (.int .u32 (Gg x s))∧S'=S):=by
 refine aJ [] mx Tryz.func164 rfl rfl (by kernel_rfl) ?_;refine @aa _ (ai @Tryz.ntmps164 ?_);refine aw [] s.size [1,5,6] (fun i=>[(5,.v (.int .u32 (o7 ((kv s).take i) (IntKind.u32.wrap (4294967295-x))))),(6,dI i)]) (fun _=>S) (fun _=>True) mx (by kernel_rfl) ?_ ?_
 ·refine @aa _ (af ?_);rfl
 ·intro i hi _;refine @aa _ (af ?_);refine⟨fun hlt=>⟨hlt,fun c hc=>?_⟩,fun hge=>by rw[aaA (by rw[Bn];omega)];rfl⟩
  have hs:(kv s).take (i+1)=(kv s).take i++[(c.toNat:Int)]:=by
   rw[abZ];unfold kv;rw[acP,hc];rfl
  have hX:o7 ((kv s).take (i+1)) (IntKind.u32.wrap (4294967295-x))=lT 8 (fL .xor .u32 (o7 ((kv s).take i) (IntKind.u32.wrap (4294967295-x))) (IntKind.u32.wrap (c.toNat:Int))):=by
   rw[hs];unfold o7;rw[List.foldl_append];rfl
  rw[hX];generalize fL .xor .u32 (o7 ((kv s).take i) (IntKind.u32.wrap (4294967295-x))) (IntKind.u32.wrap (c.toNat:Int))=X;refine aw [] 8 [1,5,6,7] (fun j=>[(5,.v (.int .u32 (lT j X))),(7,dI j)]) (fun _=>S) (fun _=>True) mx (by kernel_rfl) ?_ ?_
  ·refine @aa _ (af ?_);rfl
  ·intro j hj _;refine @aa _ (af ?_);have e1:(lT j X).tmod 2=1→lT (j+1) X=fL .xor .u32 (IntKind.u32.wrap ((lT j X).tdiv 2)) 3988292384:=fun h=>if_pos h;have e2:¬(lT j X).tmod 2=1→lT (j+1) X=IntKind.u32.wrap ((lT j X).tdiv 2):=fun h=>if_neg h;refine⟨fun hlt2=>⟨fun hb=>⟨by omega,(e1 hb).symm,by rw[aG (by omega) (by omega)];rfl⟩,fun hb=>⟨by omega,(e2 hb).symm,by rw[aG (by omega) (by omega)];rfl⟩⟩,fun hge=>⟨hlt,by rw[show j=8 by omega],by rw[aG (by omega) (by omega)];rfl⟩⟩
theorem ofR(w0:W0)(s:ByteArray)(S:St)(h:s.size≤1048576):ab Tryz.prog w0 108 [dS s] S (fun d S'=>d= .v (.int .u32 (Gg 0 s))∧S'=S):=by
 refine aJ [] mx Tryz.func108 rfl rfl (by kernel_rfl) ?_;refine @aa _ (ai @Tryz.ntmps108 ?_);refine ae (onR w0 0 s _ h) ?_;exact @aa _ aF
def iZ(s:ByteArray):ByteArray:=bq 1 (IntKind.u64.wrap (s.size:Int))++s
theorem iA(s:ByteArray):(iZ s).size=1+s.size:=by unfold iZ;rw[adJ,az]
theorem XZ(w0:W0)(s:ByteArray)(S:St)(h:s.size≤255):ab Tryz.prog w0 257 [dS s] S (fun d S'=>d=dS (iZ s)∧S'=S):=by
 refine aJ [] mx Tryz.func257 rfl rfl (by kernel_rfl) ?_;refine @aa _ (ai @Tryz.ntmps257 ?_);refine⟨fun h=>absurd h (by omega),fun _=>?_⟩;refine ae (pA w0 _ 1 _ (by omega) (by omega)) ?_;have hz:=az 1 (IntKind.u64.wrap (s.size:Int));refine @aa _ (ai @hz ?_);refine⟨by omega,?_⟩;rfl
def ct(l:List ByteArray):Nat:=(l.map fun s=>s.size+1).sum
theorem ft(l:List ByteArray)(k:Nat):ct (l.take k)≤ct l:=by
 have:=congrArg ct (adI k l);simp only[ct,aa1,aeo]at this ⊢;omega
theorem oz{l:List ByteArray}{k:Nat}{s:ByteArray}(h:l[k]? =some s):ct (l.take (k+1))=ct (l.take k)+s.size+1:=by
 unfold ct;rw[abZ,h];simp;omega
theorem Wn(w0:W0)(l:List ByteArray)(S:St)(h:ct l≤1048576)(hl:l.length≤1048576):ab Tryz.prog w0 147 [.sl 1 false (l.map dS)] S (fun d S'=>d=dI (ct l)∧S'=S):=by
 refine aJ [] mx Tryz.func147 rfl rfl (by kernel_rfl) ?_;refine @aa _ (ai @Tryz.ntmps147 ?_);refine aw [] l.length [0,3,4] (fun k=>[(3,dI (ct (l.take k))),(4,dI k)]) (fun _=>S) (fun _=>True) mx (by kernel_rfl) ?_ ?_
 ·refine @aa _ (af ?_);rfl
 ·intro k hk _;have h1:=ft l k;have h2:=ft l (k+1);refine @aa _ (af ?_);refine⟨fun hlt=>⟨hlt,fun s hs=>?_⟩,fun hge=>by rw[aaA (by omega)]⟩;have h3:=oz hs;refine⟨hlt,?_,by rw[aG (by omega) (by omega)];rfl⟩;rw[aG (n:=(s.size:Int)+1) (by omega) (by omega),aG (by omega) (by omega)];omega
def cK:List ByteArray→ByteArray→ByteArray
 |[],b=>b
 |s::l,b=>cK l (s++b)
def gV:List ByteArray→ByteArray→ByteArray→ByteArray
 |[],_,s=>s
 |c::l,b,s=>gV l (c++b) (s++strOfNums [IntKind.u8.wrap (IntKind.i64.wrap (128-(((c++b).size:Nat):Int)))])
theorem vz(l m:List ByteArray)(b:ByteArray):cK (l++m) b=cK m (cK l b):=by
 induction l generalizing b with
 |nil=>rfl
 |cons a l ih=>exact ih _
theorem CK(l m:List ByteArray)(b s:ByteArray):gV (l++m) b s=gV m (cK l b) (gV l b s):=by
 induction l generalizing b s with
 |nil=>rfl
 |cons a l ih=>exact ih _ _
theorem rJ(l:List ByteArray)(b:ByteArray):(cK l b).size+l.length=b.size+ct l:=by
 induction l generalizing b with
 |nil=>simp[cK,ct]
 |cons a l ih=>
  have:=ih (a++b);rw[adJ]at this;simp only[cK,ct,aa9,adb,abx]at*;omega
theorem sJ(l:List ByteArray)(b s:ByteArray):(gV l b s).size=s.size+l.length:=by
 induction l generalizing b s with
 |nil=>rfl
 |cons a l ih=>
  rw[gV,ih,adJ,strOfNums_size];simp;omega
theorem tL(l:List ByteArray):l.length≤ct l:=by
 induction l with
 |nil=>simp
 |cons a l ih=>simp only[ct,aa9,adb,abx]at *;omega
def fO(kind:Int)(l:List ByteArray):ByteArray:=
 strOfNums [kind,IntKind.u8.wrap (l.length:Int)]++gV l aN aN++(strOfNums (List.replicate (122-ct l) 0)++cK l aN)
def fC(kind:Int)(l:List ByteArray):ByteArray:=bq 4 (IntKind.u64.wrap (Gg 0 (fO kind l)))++fO kind l
theorem sn(kind:Int){l:List ByteArray}(h:ct l≤122):(fO kind l).size=124:=by
 unfold fO;have h1:=rJ l aN;have h2:=sJ l aN aN;have h3:=tL l;rw[bk]at h1 h2;simp only[adJ,strOfNums_size,aej,abx,acL];omega
theorem l5(kind:Int){l:List ByteArray}(h:ct l≤122):(fC kind l).size=128:=by
 unfold fC;rw[adJ,az,sn kind h]
theorem Ai(w0:W0)(kind:Int)(l:List ByteArray)(S:St)(hk:kind≠0)(h:ct l≤122):ab Tryz.prog w0 93 [dY kind,.sl 1 false (l.map dS)] S (fun d S'=>d= .bM [dS (fC kind l),dI 0]∧S'=S):=by
 have hll:=tL l;refine aJ [] mx Tryz.func93 rfl rfl (by kernel_rfl) ?_;refine @aa _ (ai @Tryz.ntmps93 ?_);refine⟨fun e=>absurd e hk,fun _=>ae (Wn w0 l _ (by omega) (by omega)) ?_⟩;refine @aa _ (af ?_);refine⟨fun e=>absurd e (by omega),fun _=>?_⟩;refine aw [] l.length [0,1,6,7,8] (fun k=>[(6,dS (gV (l.take k) aN aN)),(7,dS (cK (l.take k) aN)),(8,dI k)]) (fun _=>S) (fun _=>True) mx (by kernel_rfl) ?_ ?_
 ·refine @aa _ (af ?_);exact⟨rfl,rfl⟩
 ·intro k hk2 _;have h1:=rJ (l.take k) aN;have h2:=sJ (l.take k) aN aN;have h3:=ft l k;rw[bk,aaE]at h1 h2;refine @aa _ (af ?_);refine⟨fun hlt=>⟨hlt,fun s hs=>?_⟩,fun hge=>?_⟩
  ·have hb:cK (l.take (k+1)) aN=s++cK (l.take k) aN:=by rw[abZ,hs,vz];rfl
   have hsl:gV (l.take (k+1)) aN aN=gV (l.take k) aN aN++strOfNums [IntKind.u8.wrap (IntKind.i64.wrap (128-(((s++cK (l.take k) aN).size:Nat):Int)))]:=by rw[abZ,hs,CK];rfl
   have h4:=oz hs;have h5:=ft l (k+1);have hz:∀x:Int,(strOfNums [x]).size=1:=fun x=>strOfNums_size _;rw[hb,hsl];refine @aa _ (aM @hz @adJ ?_);exact⟨by omega,by omega,hlt,by rw[aG (by omega) (by omega)];rfl⟩
  ·rw[aaA (by omega)]at h1 h2 ⊢;have hz2:(strOfNums [kind,IntKind.u8.wrap (l.length:Int)]).size=2:=strOfNums_size _
   have eN:IntKind.i64.wrap (IntKind.i64.wrap (124-(((strOfNums [kind,IntKind.u8.wrap (l.length:Int)]).size+(gV l aN aN).size:Nat):Int))-((cK l aN).size:Int))=((122-ct l:Nat):Int):=by
    rw[aG (n:=124-_) (by omega) (by omega),aG (by omega) (by omega)];omega
   rw[eN,adV];have hz3:(strOfNums (List.replicate (122-ct l) 0)).size=122-ct l:=by rw[strOfNums_size,aej]
   have hbs:=sn kind h;refine⟨by omega,by omega,by omega,by omega,fun b=>⟨by simp,by omega,by omega,ae (ofR w0 _ _ (by show(fO kind l).size≤_;omega)) ?_⟩⟩;have hz4:=az 4 (IntKind.u64.wrap (Gg 0 (fO kind l)));refine @aa _ (af ?_);refine ae (pA w0 _ 4 _ (by omega) (by omega)) ?_;refine @aa _ (af ?_);exact⟨by omega,.refl _⟩
end Go.Proofs.YtpjenciplibdnaaGreatDoor
namespace Aml.Y
open Go Go.RowKit
def kY(op:Op):Nat:=match op with
 | .lookup ..=>1
 |op=>Z.kX op
def cls(gs ns:List Nat)(i:Nat)(op:Op):Nat:=if gs.contains i then 2 else if ns.contains i then 3 else match kY op with
 |0=>0
 |1=>1
 |2=>4
 |_=>3
def od(a b:Nat):Bool:=a==0||(a==1&&(decide (b<3)||b==4))||(a==4&&b==4)
structure yT(S T:St):Prop where
 box:S.box.Perm T.box
 acc:S.acc.Perm T.acc
theorem yT.refl(S:St):yT S S:=⟨.refl _,.refl _⟩
theorem yT.symm{S T:St}(h:yT S T):yT T S:=⟨h.box.symm,h.acc.symm⟩
theorem yT.trans{S T U:St}(h:yT S T)(k:yT T U):yT S U:=⟨h.box.trans k.box,h.acc.trans k.acc⟩
theorem yT.rel{w0:W0}{g:Gh}{S T:St}{w:World}(h:yT S T)(r:Rel w0 g S w):Rel w0 g T w:=
 ⟨r.below,r.cu,(h.box.map _).nodup_iff.1 r.nb,(h.acc.map _).nodup_iff.1 r.na,r.gU,r.fresh,fun l o ho=>r.top l o (h.acc.mem_iff.2 ho),let⟨ow,h1,h2⟩:=r.own
  ⟨ow,fun b ds hb=>h1 b ds (h.box.mem_iff.2 hb),fun l o hl=>h2 l o (h.acc.mem_iff.2 hl)⟩⟩
theorem lD{α:Type}:∀{l:List (Nat×α)} {b:Nat},jF l b→∀p,p∈l→p.1≠b
 |[],b,_,p,h=>by cases h
 |(k,x)::t,b,h,p,hp=>by
  rcases ab6.1 hp with rfl|hp
  ·exact h.1
  ·exact lD h.2.2 p hp
theorem JX{α:Type}(l:List (Nat×α)):∃b,jF l b:=by
 have:∃b,∀p,p∈l→p.1<b:=by
  induction l with
  |nil=>exact⟨0,fun p h=>by cases h⟩
  |cons a l ih=>
   obtain⟨b,hb⟩:=ih;refine⟨a.1+b+1,fun p hp=>?_⟩;rcases ab6.1 hp with rfl|hp
   ·omega
   ·have:=hb p hp;omega
 obtain⟨b,hb⟩:=this;exact⟨b,dG fun p hp e=>by have:=hb p hp;omega⟩
theorem yT.jF{S T:St}(h:yT S T){b:Nat}(k:jF S.box b):jF T.box b:=dG fun p hp=>lD k p (h.box.mem_iff.2 hp)
theorem yT.Ox{P:Program}{w0:W0}{o:Oper}{ρ:Operand→DV}{S T:St}{K:DV→St→Prop}(h:yT S T)(y:au P w0 o ρ S K):au P w0 o ρ T K:=
 fun g w r h1 h2 h3=>y g w r (h.symm.rel h1) h2 h3
structure Hm(X T:St):Prop where
 box:∀b x,lk X.box b=some x→(b,x)∈T.box
 acc:∀l o,lk X.acc l=some o→(l,o)∈T.acc
theorem Hm.of{X T:St}(h:Has X T):Hm X T:=⟨fun b x hb=>cP (h.box b x hb),fun l o hl=>cP (h.acc l o hl)⟩
theorem Hm.perm{X S T:St}(h:Hm X S)(k:yT S T):Hm X T:=⟨fun b x hb=>k.box.mem_iff.1 (h.box b x hb),fun l o hl=>k.acc.mem_iff.1 (h.acc l o hl)⟩
theorem Hm.has{X T:St}{w0:W0}{g:Gh}{w:World}(h:Hm X T)(r:Rel w0 g T w):Has X T:=⟨fun b x hb=>ma r.nb (h.box b x hb),fun l o hl=>ma r.na (h.acc l o hl)⟩
def PC(F:List DV→St→Prop)(fr:List DV)(S:St):Prop:=∃T,yT T S∧F fr T
theorem PC.mono{F G:List DV→St→Prop}(h:∀fr S,F fr S→G fr S){fr:List DV}{S:St}(k:PC F fr S):PC G fr S:=let⟨T,a,b⟩:=k;⟨T,a,h _ _ b⟩
def P2(K:List DV→St→Prop):Prop:=∀fr S T,yT S T→K fr S→K fr T
theorem PC.clo(F:List DV→St→Prop):P2 (PC F):=fun _ _ _ h ⟨U,a,b⟩=>⟨U,a.trans h,b⟩
def nU(P:Program)(w0:W0)(S0:St)(c:Nat)(o:Oper)(fr:List DV)(S:St)(K:List DV→St→Prop):Prop:=
 (c=0∧∃d,(∀S',QY P w0 S' o fr d)∧K (pt fr o.dst d) S)∨
 (c=1∧Hm S0 S∧∃d,(∀S',Hm S0 S'→QY P w0 S' o fr d)∧K (pt fr o.dst d) S)∨
 (c=2∧au P w0 o (ev fr) S fun d S'=>Hm S0 S'∧K (pt fr o.dst d) S')∨
 (c=3∧au P w0 o (ev fr) S fun d S'=>K (pt fr o.dst d) S')∨
 (c=4∧Hm S0 S∧∃t,o.op= .alloc t∧fk (zD P t)=true∧∀b,jF S.box b→K (pt fr o.dst (.v (.pointer (some ⟨b,0,none⟩)))) ⟨(b,cd (zD P t))::S.box,S.acc⟩)
def jl(P:Program)(w0:W0)(S0:St)(c:Nat)(ops:Array Oper)(o:Oper)(fr:List DV)(S:St)(K:List DV→St→Prop):Prop:=
 (eg ops fr o.guard=some true∧nU P w0 S0 c o fr S K)∨(eg ops fr o.guard=some false∧K (pt fr o.dst ud) S)
section
variable {P:Program} {w0:W0} {S0:St} {ops:Array Oper} {md:Region.Mode}
theorem uk{c:Nat}{o:Oper}{fr:List DV}{S:St}{K K':List DV→St→Prop}(h:∀fr S,K fr S→K' fr S)(b:nU P w0 S0 c o fr S K):nU P w0 S0 c o fr S K':=by
 rcases b with⟨c,d,q,k⟩|⟨c,hS,d,q,k⟩|⟨c,q⟩|⟨c,q⟩|⟨c,hS,t,ht,hz,k⟩
 ·exact .inl ⟨c,d,q,h _ _ k⟩
 ·exact .inr (.inl ⟨c,hS,d,q,h _ _ k⟩)
 ·exact .inr (.inr (.inl ⟨c,bd (fun d S hk=>⟨hk.1,h _ _ hk.2⟩) q⟩))
 ·exact .inr (.inr (.inr (.inl ⟨c,bd (fun d S hk=>h _ _ hk) q⟩)))
 ·exact .inr (.inr (.inr (.inr ⟨c,hS,t,ht,hz,fun b hb=>h _ _ (k b hb)⟩)))
theorem mg{c:Nat}{o:Oper}{fr:List DV}{S:St}{K K':List DV→St→Prop}(h:∀fr S,K fr S→K' fr S)(b:jl P w0 S0 c ops o fr S K):jl P w0 S0 c ops o fr S K':=
 b.imp (fun⟨a,b⟩=>⟨a,uk h b⟩) fun⟨a,b⟩=>⟨a,h _ _ b⟩
theorem Ls{c:Nat}{o:Oper}{K:List DV→St→Prop}(hK:P2 K):P2 fun fr S=>jl P w0 S0 c ops o fr S K:=fun fr S T hp h=>by
 rcases h with⟨g,b⟩|⟨g,k⟩
 ·refine .inl ⟨g,?_⟩;rcases b with⟨c,d,q,k⟩|⟨c,hS,d,q,k⟩|⟨c,q⟩|⟨c,q⟩|⟨c,hS,t,ht,hz,k⟩
  ·exact .inl ⟨c,d,q,hK _ _ _ hp k⟩
  ·exact .inr (.inl ⟨c,hS.perm hp,d,q,hK _ _ _ hp k⟩)
  ·exact .inr (.inr (.inl ⟨c,hp.Ox q⟩))
  ·exact .inr (.inr (.inr (.inl ⟨c,hp.Ox q⟩)))
  ·exact .inr (.inr (.inr (.inr ⟨c,hS.perm hp,t,ht,hz,fun b hb=>hK _ ⟨(b,cd (zD P t))::S.box,S.acc⟩ _ ⟨hp.box.cons _,hp.acc⟩ (k b (hp.symm.jF hb))⟩)))
 ·exact .inr ⟨g,hK _ _ _ hp k⟩
theorem HJ{c:Nat}{o:Oper}{fr:List DV}{S:St}{K:List DV→St→Prop}{dst:Option Tmp}{e:DV}(h1:∀t,dst=some t→t∉o.looksAt ops)(h2:∀t,dst=some t→o.dst≠some t):
 nU P w0 S0 c o (pt fr dst e) S K↔nU P w0 S0 c o fr S fun fr' S'=>K (pt fr' dst e) S':=by
 have hq:∀S d,QY P w0 S o (pt fr dst e) d↔QY P w0 S o fr d:=fun S d=>
  ⟨bg (fun x hx=>fN (ops:=ops) h1 x hx),bg (fun x hx=>(fN (ops:=ops) h1 x hx).symm)⟩
 have hc:∀d,pt (pt fr dst e) o.dst d=pt (pt fr o.dst d) dst e:=fun d=>kS fr e d h2
 have hy:∀K,au P w0 o (ev (pt fr dst e)) S K↔au P w0 o (ev fr) S K:=fun K=>
  ⟨bg (fun x hx=>fN (ops:=ops) h1 x hx),bg (fun x hx=>(fN (ops:=ops) h1 x hx).symm)⟩
 unfold nU;simp only[hq,hc,hy]
theorem kq{c:Nat}{o:Oper}{fr:List DV}{S:St}{K:List DV→St→Prop}{dst:Option Tmp}{e:DV}(h1:∀t,dst=some t→t∉o.looksAt ops)(h2:∀t,dst=some t→o.dst≠some t):
 jl P w0 S0 c ops o (pt fr dst e) S K↔jl P w0 S0 c ops o fr S fun fr' S'=>K (pt fr' dst e) S':=by
 unfold jl;rw[jb h1,HJ h1 h2,kS fr e ud h2]
theorem Be{c:Nat}{o:Oper}{fr:List DV}{S:St}{K K':List DV→St→Prop}(h:∀e S,K (pt fr o.dst e) S→K' (pt fr o.dst e) S)(b:nU P w0 S0 c o fr S K):nU P w0 S0 c o fr S K':=by
 rcases b with⟨c,d,q,k⟩|⟨c,hS,d,q,k⟩|⟨c,q⟩|⟨c,q⟩|⟨c,hS,t,ht,hz,k⟩
 ·exact .inl ⟨c,d,q,h _ _ k⟩
 ·exact .inr (.inl ⟨c,hS,d,q,h _ _ k⟩)
 ·exact .inr (.inr (.inl ⟨c,bd (fun d S hk=>⟨hk.1,h _ _ hk.2⟩) q⟩))
 ·exact .inr (.inr (.inr (.inl ⟨c,bd (fun d S hk=>h _ _ hk) q⟩)))
 ·exact .inr (.inr (.inr (.inr ⟨c,hS,t,ht,hz,fun b hb=>h _ _ (k b hb)⟩)))
theorem vo{c:Nat}{o:Oper}{fr:List DV}{S:St}{K K':List DV→St→Prop}(h:∀e S,K (pt fr o.dst e) S→K' (pt fr o.dst e) S)(b:jl P w0 S0 c ops o fr S K):jl P w0 S0 c ops o fr S K':=
 b.imp (fun⟨a,b⟩=>⟨a,Be h b⟩) fun⟨a,b⟩=>⟨a,h _ _ b⟩
theorem Hm.cons{X S:St}(h:Hm X S){b:Nat}(v:List DV):Hm X ⟨(b,v)::S.box,S.acc⟩:=⟨fun c x hc=>abn _ (h.box c x hc),fun l o hl=>h.acc l o hl⟩
theorem DW{cx cy:Nat}{x y:Oper}(hap:x.apart ops y=true)(hk:od cx cy=true){fr:List DV}{S:St}{K:List DV→St→Prop}(hK:P2 K)(h:jl P w0 S0 cx ops x fr S fun fr S=>jl P w0 S0 cy ops y fr S K):
 jl P w0 S0 cy ops y fr S fun fr S=>jl P w0 S0 cx ops x fr S K:=by
 obtain⟨b1,b2,b3⟩:=Oper.apart_spec hap;have hw:∀e,eg ops (pt fr y.dst e) x.guard=eg ops fr x.guard:=fun e=>jb b3;have hq:∀{S d e},QY P w0 S x fr d→QY P w0 S x (pt fr y.dst e) d:=fun{S d e} q=>bg (fun z hz=>(fN (ops:=ops) b3 z hz).symm) q;rcases h with⟨hg,hb⟩|⟨hg,hb⟩
 ·rcases hb with⟨c,d,q,k⟩|⟨c,hS,d,q,k⟩|⟨c, -⟩|⟨c, -⟩|⟨c,hS,t,ht,hz,k⟩
  ·rw[kq b1 b2]at k;exact vo (fun e S' hk=> .inl ⟨by rw[hw];exact hg,.inl ⟨c,d,fun S''=>hq (q S''),hk⟩⟩) k
  ·rw[kq b1 b2]at k;rcases k with⟨g2,k⟩|⟨g2,k⟩
   ·rcases k with⟨c2,d2,q2,k⟩|⟨c2,hS2,d2,q2,k⟩|⟨c2,q2⟩|⟨c2, -⟩|⟨c2,hS2,t2,ht2,hz2,k2⟩
    ·exact .inl ⟨g2,.inl ⟨c2,d2,q2,.inl ⟨by rw[hw];exact hg,.inr (.inl ⟨c,hS,d,fun S' h'=>hq (q S' h'),k⟩)⟩⟩⟩
    ·exact .inl ⟨g2,.inr (.inl ⟨c2,hS2,d2,q2,.inl ⟨by rw[hw];exact hg,.inr (.inl ⟨c,hS,d,fun S' h'=>hq (q S' h'),k⟩)⟩⟩)⟩
    ·exact .inl ⟨g2,.inr (.inr (.inl ⟨c2,bd (fun e S' h'=>⟨h'.1,.inl ⟨by rw[hw];exact hg,.inr (.inl ⟨c,h'.1,d,fun S'' h''=>hq (q S'' h''),h'.2⟩)⟩⟩) q2⟩))⟩
    ·rw[c,c2]at hk;exact absurd hk (by decide)
    ·exact .inl ⟨g2,.inr (.inr (.inr (.inr ⟨c2,hS2,t2,ht2,hz2,fun b hb=> .inl ⟨by rw[hw];exact hg,.inr (.inl ⟨c,Hm.cons hS _,d,fun S'' h''=>hq (q S'' h''),k2 b hb⟩)⟩⟩)))⟩
   ·exact .inr ⟨g2,.inl ⟨by rw[hw];exact hg,.inr (.inl ⟨c,hS,d,fun S' h'=>hq (q S' h'),k⟩)⟩⟩
  ·rw[c]at hk;simp[od]at hk
  ·rw[c]at hk;simp[od]at hk
  ·have hc2:cy=4:=by rw[c]at hk;simpa[od]using hk
   subst hc2;rcases Classical.em (eg ops fr y.guard=some true)with g2|g2
   ·refine .inl ⟨g2,.inr (.inr (.inr (.inr ⟨rfl,hS,?_⟩)))⟩;obtain⟨a0,ha0⟩:=JX S.box;have k0:jl P w0 S0 4 ops y (pt fr x.dst (.v (.pointer (some ⟨a0,0,none⟩)))) ⟨(a0,cd (zD P t))::S.box,S.acc⟩ K:=k a0 ha0;rw[kq b1 b2]at k0
    have gen:∀a,jF S.box a→∃t2,y.op= .alloc t2∧fk (zD P t2)=true∧∀b,jF ((a,cd (zD P t))::S.box) b→K (pt (pt fr y.dst (.v (.pointer (some ⟨b,0,none⟩)))) x.dst (.v (.pointer (some ⟨a,0,none⟩)))) ⟨(b,cd (zD P t2))::(a,cd (zD P t))::S.box,S.acc⟩:=fun a ha=>by
     have k1:jl P w0 S0 4 ops y (pt fr x.dst (.v (.pointer (some ⟨a,0,none⟩)))) ⟨(a,cd (zD P t))::S.box,S.acc⟩ K:=k a ha;rw[kq b1 b2]at k1;rcases k1 with⟨-,b⟩|⟨g3, -⟩
     ·rcases b with⟨c2, -⟩|⟨c2, -⟩|⟨c2, -⟩|⟨c2, -⟩|⟨c2, -,t2,ht2,hz2,k2⟩
      ·cases c2
      ·cases c2
      ·cases c2
      ·cases c2
      ·exact⟨t2,ht2,hz2,fun b hb=>k2 b hb⟩
     ·rw[g2]at g3;cases g3
    obtain⟨t2,ht2,hz2, -⟩:=gen a0 ha0;refine⟨t2,ht2,hz2,fun b hb=> .inl ⟨by rw[hw];exact hg,.inr (.inr (.inr (.inr ⟨c,Hm.cons hS _,t,ht,hz,fun a ha=>?_⟩)))⟩⟩;obtain⟨t3,ht3, -,k3⟩:=gen a ha.2.2;rw[ht2]at ht3;cases ht3;exact hK _ ⟨(b,cd (zD P t2))::(a,cd (zD P t))::S.box,S.acc⟩ _ ⟨.swap _ _ _,.refl _⟩ (k3 b ⟨fun e=>ha.2.1 e,fun e=>ha.1 e,hb⟩)
   ·obtain⟨a0,ha0⟩:=JX S.box;have k0:jl P w0 S0 4 ops y (pt fr x.dst (.v (.pointer (some ⟨a0,0,none⟩)))) ⟨(a0,cd (zD P t))::S.box,S.acc⟩ K:=k a0 ha0;rw[kq b1 b2]at k0;rcases k0 with⟨g3, -⟩|⟨g3, -⟩
    ·exact absurd g3 g2
    ·refine .inr ⟨g3,.inl ⟨by rw[hw];exact hg,.inr (.inr (.inr (.inr ⟨c,hS,t,ht,hz,fun a ha=>?_⟩)))⟩⟩;have k1:jl P w0 S0 4 ops y (pt fr x.dst (.v (.pointer (some ⟨a,0,none⟩)))) ⟨(a,cd (zD P t))::S.box,S.acc⟩ K:=k a ha;rw[kq b1 b2]at k1;rcases k1 with⟨g4, -⟩|⟨g4,k1⟩
     ·exact absurd g4 g2
     ·exact k1
 ·rw[kq b1 b2]at hb;exact vo (fun e S' hk=> .inr ⟨by rw[hw];exact hg,hk⟩) hb
theorem Ig{cx cy:Nat}{x y:Oper}(hap:x.apart ops y=true)(hk:od cx cy=true){fr:List DV}{S:St}{K:List DV→St→Prop}(h:jl P w0 S0 cx ops x fr S (PC fun fr S=>jl P w0 S0 cy ops y fr S (PC K))):
 jl P w0 S0 cy ops y fr S (PC fun fr S=>jl P w0 S0 cx ops x fr S (PC K)):=
 mg (fun fr S h=>⟨S,.refl S,h⟩) (DW hap hk (PC.clo K) (mg (fun fr S ⟨T,hp,h⟩=>Ls (PC.clo K) _ _ _ hp h) h))
def mc(P:Program)(w0:W0)(S0:St)(gs ns:List Nat)(ops:Array Oper)(i:Nat)(fr:List DV)(S:St)(K:List DV→St→Prop):Prop:=match ops[i]? with
 |none=>K fr S
 |some o=>jl P w0 S0 (cls gs ns i o.op) ops o fr S K
def Wz(P:Program)(w0:W0)(S0:St)(gs ns:List Nat)(md:Region.Mode)(ops:Array Oper)(K:List DV→St→Prop):Nat→Array Bool→List DV→St→Prop
 |0,listed,fr,S=>Region.ready md ops listed=[]∧K fr S
 |fuel+1,listed,fr,S=>(Region.ready md ops listed=[]→K fr S)∧∀i∈Region.ready md ops listed,mc P w0 S0 gs ns ops i fr S (PC (Wz P w0 S0 gs ns md ops K fuel (listed.setIfInBounds i true)))
theorem Iq{gs ns D:List Nat}{K:List DV→St→Prop}{i:Nat}{oi:Oper}(hi:ops[i]? =some oi):
 ∀(fuel:Nat) (listed:Array Bool) (fr:List DV) (S:St),
  (∀j,j∈D→listed.getD j true=false∧∃oj,ops[j]? =some oj∧∃e∈oj.after,Region.binds md e=true∧(e.on=i∨e.on∈D))→
  (∀j oj,ops[j]? =some oj→j≠i→listed.getD j true=false→j∉D→oi.apart ops oj=true∧od (cls gs ns i oi.op) (cls gs ns j oj.op)=true)→
  (∀l:List Nat,l.Nodup→(∀k,k∈l→listed.getD k true=false)→l.length≤fuel+1)→
  i∈Region.ready md ops listed→jl P w0 S0 (cls gs ns i oi.op) ops oi fr S (PC (Wz P w0 S0 gs ns md ops K fuel (listed.setIfInBounds i true)))→Wz P w0 S0 gs ns md ops K (fuel+1) listed fr S:=by
 intro fuel
 induction fuel with
 |zero=>
  intro listed fr S _ _ hcnt hr H;refine⟨fun h=>(by rw[h]at hr;cases hr),fun j hj=>?_⟩;by_cases hji:j=i
  ·subst hji;unfold mc;simp only[hi];exact H
  ·exfalso
   have:=hcnt [i,j] (by simp[Ne.symm hji]) fun k hk=>by
    simp only[ab6,afJ,or_false]at hk;rcases hk with rfl|rfl
    ·exact(mem_ready.1 hr).1
    ·exact(mem_ready.1 hj).1
   simp at this
 |succ fuel ih=>
  intro listed fr S hD hfree hcnt hr H;refine⟨fun h=>(by rw[h]at hr;cases hr),fun j hj=>?_⟩;by_cases hji:j=i
  ·subst hji;unfold mc;simp only[hi];exact H
  ·obtain⟨hjun,oj,hoj,hall⟩:=mem_ready.1 hj
   have hlis:∀e∈oj.after,Region.binds md e=true→listed.getD e.on true=false→False:=fun e he hb h0=>by
    have h1:=hall e he hb;rcases adR e.on listed.size with h'|h'
    ·simp[h']at h0 h1;rw[h0]at h1;cases h1
    ·simp[aek h']at h1
   have hjD:j∉D:=fun hjD=>by
    obtain⟨_,oj',ho,e,he,hb,hor⟩:=hD j hjD;rw[hoj]at ho;cases ho;rcases hor with h|h
    ·exact hlis e he hb (by rw[h];exact(mem_ready.1 hr).1)
    ·exact hlis e he hb (hD _ h).1
   have h1:jl P w0 S0 (cls gs ns i oi.op) ops oi fr S (PC fun fr S=>jl P w0 S0 (cls gs ns j oj.op) ops oj fr S (PC (Wz P w0 S0 gs ns md ops K fuel ((listed.setIfInBounds i true).setIfInBounds j true)))):=
    mg (fun fr S h=>PC.mono (fun fr S h=>by
     have:=h.2 j (ready_mono hj hji);unfold mc at this;simp only[hoj]at this;exact this) h) H
   have hc:=hfree j oj hoj hji hjun hjD;have h2:=Ig hc.1 hc.2 h1
   have hfree':∀k ok,ops[k]? =some ok→k≠i→(listed.setIfInBounds j true).getD k true=false→k∉D→oi.apart ops ok=true∧od (cls gs ns i oi.op) (cls gs ns k ok.op)=true:=fun k ok hk hki hun hno=>by
    refine hfree k ok hk hki ?_ hno;by_cases hjk:j=k
    ·subst hjk;exact hjun
    ·rw[getD_set_ne true hjk]at hun;exact hun
   have hD':∀k,k∈D→(listed.setIfInBounds j true).getD k true=false∧∃ok,ops[k]? =some ok∧∃e∈ok.after,Region.binds md e=true∧(e.on=i∨e.on∈D):=fun k hk=>by
    refine⟨?_,(hD k hk).2⟩;rw[getD_set_ne true (show j≠k from fun e=>hjD (by rw[e];exact hk))];exact(hD k hk).1
   unfold mc;simp only[hoj]
   have hcnt':∀l:List Nat,l.Nodup→(∀k,k∈l→(listed.setIfInBounds j true).getD k true=false)→l.length≤fuel+1:=by
    intro l hn hl
    have hjs:j<listed.size:=by
     rcases adR j listed.size with h|h
     ·exact h
     ·rw[adW,aek h]at hjun;cases hjun
    have hjl:j∉l:=fun hj=>by
     have:=hl j hj;rw[adW,ad1]at this;simp[hjs]at this
    have:=hcnt (j::l) (aec.2 ⟨hjl,hn⟩) fun k hk=>by
     rcases ab6.1 hk with rfl|hk
     ·exact hjun
     ·have:=hl k hk;rw[getD_set_ne true (show j≠k from fun e=>hjl (e▸hk))]at this;exact this
    simp at this;omega
   refine mg (fun fr S h=>PC.mono (fun fr S h=>ih (listed.setIfInBounds j true) fr S hD' hfree' hcnt' (ready_mono hr (Ne.symm hji)) ?_) h) h2;rw[afH _ _ hji];exact h
def aab(md:Region.Mode)(ops:Array Oper)(listed:Array Bool)(i:Nat):List Nat:=(List.range ops.size).foldl (fun D j=>match ops[j]? with
 |some oj=>if !(j==i)&&!listed.getD j true&&oj.after.any (fun e=>Region.binds md e&&(e.on==i||D.contains e.on))then j::D else D
 |none=>D) []
def BE(gs ns:List Nat)(md:Region.Mode)(ops:Array Oper)(listed:Array Bool)(i:Nat)(D:List Nat):Bool:=(D.all fun j=>!listed.getD j true&&match ops[j]? with
 |some oj=>oj.after.any (fun e=>Region.binds md e&&(e.on==i||D.contains e.on))
 |none=>false)&&(List.range ops.size).all fun j=>match ops[i]?,ops[j]? with
 |some oi,some oj=>j==i||listed.getD j true||D.contains j||(oi.apart ops oj&&od (cls gs ns i oi.op) (cls gs ns j oj.op))
 |_,_=>false
def Xs(gs ns:List Nat)(md:Region.Mode)(ops:Array Oper)(listed:Array Bool)(i:Nat):Bool:=BE gs ns md ops listed i (aab md ops listed i)
def Hj(gs ns:List Nat)(md:Region.Mode)(ops:Array Oper):List Nat→Array Bool→Bool
 |[],listed=>(Region.ready md ops listed).isEmpty
 |k::ks,listed=>(Region.ready md ops listed).contains k&&Xs gs ns md ops listed k&&Hj gs ns md ops ks (listed.setIfInBounds k true)
theorem Ib{gs ns D:List Nat}{listed:Array Bool}{i:Nat}(h:BE gs ns md ops listed i D=true):∀j,j∈D→listed.getD j true=false∧∃oj,ops[j]? =some oj∧∃e∈oj.after,Region.binds md e=true∧(e.on=i∨e.on∈D):=by
 intro j hj;simp only[BE,abG]at h;have:=adY.1 h.1 j hj;simp only[abG,aev]at this;refine⟨this.1,?_⟩;obtain⟨-,h2⟩:=this;split at h2
 ·rename_i oj ho;obtain⟨e,he,h3⟩:=afQ.1 h2;simp only[abG,ael,beq_iff_eq,List.contains_iff_mem]at h3;exact⟨oj,ho,e,he,h3⟩
 ·cases h2
theorem Ft{gs ns D:List Nat}{listed:Array Bool}{i:Nat}{oi:Oper}(hi:ops[i]? =some oi)(h:BE gs ns md ops listed i D=true):∀j oj,ops[j]? =some oj→j≠i→listed.getD j true=false→j∉D→oi.apart ops oj=true∧od (cls gs ns i oi.op) (cls gs ns j oj.op)=true:=by
 intro j oj hj hji hun hno;simp only[BE,abG]at h;have hlt:j<ops.size:=(abF.1 hj).1;have:=adY.1 h.2 j (aeF.2 hlt);simp only[hi,hj,hun,Bool.or_false,ael,beq_iff_eq,abG,List.contains_iff_mem]at this;rcases this with(h|h)|h
 ·exact absurd h hji
 ·exact absurd h hno
 ·exact h
def LO(P:Program)(w0:W0)(S0:St)(gs ns:List Nat)(ops:Array Oper)(K:List DV→St→Prop):List Nat→List DV→St→Prop
 |[],fr,S=>K fr S
 |i::is,fr,S=>match ops[i]? with
  |none=>False
  |some o=>jl P w0 S0 (cls gs ns i o.op) ops o fr S (LO P w0 S0 gs ns ops K is)
theorem FT{gs ns:List Nat}{K:List DV→St→Prop}:∀(l:List Nat) (listed:Array Bool) (fr:List DV) (S:St),
 (∀l':List Nat,l'.Nodup→(∀k,k∈l'→listed.getD k true=false)→l'.length≤l.length)→
 Hj gs ns md ops l listed=true→LO P w0 S0 gs ns ops K l fr S→Wz P w0 S0 gs ns md ops K l.length listed fr S
 |[],_,_,_,_,hB,h=>⟨by simpa[Hj]using hB,h⟩
 |k::l,listed,fr,S,hcnt,hB,h=>by
  simp only[abx,Hj,abG]at hB;obtain⟨⟨hr,hf⟩,hB'⟩:=hB;have hr':k∈Region.ready md ops listed:=by simpa using hr
  have hun:=(mem_ready.1 hr').1;unfold LO at h;split at h
  ·exact h.elim
  rename_i o h0;refine Iq h0 l.length listed fr S (Ib hf) (Ft h0 hf) (by simpa using hcnt) hr' ?_;refine mg (fun fr S h=>⟨S,.refl S,FT l _ fr S ?_ hB' h⟩) h;intro l' hn hl'
  have hks:k<listed.size:=by
   rcases adR k listed.size with h|h
   ·exact h
   ·rw[adW,aek h]at hun;cases hun
  have hkl:k∉l':=fun hk=>by
   have:=hl' k hk;rw[adW,ad1]at this;simp[hks]at this
  have:=hcnt (k::l') (aec.2 ⟨hkl,hn⟩) fun m hm=>by
   rcases ab6.1 hm with rfl|hm
   ·exact hun
   ·have:=hl' m hm;rw[getD_set_ne true (show k≠m from fun e=>hkl (e▸hm))]at this;exact this
  simp at this;omega
theorem xZ{c:Nat}{o:Oper}{fr:List DV}{S:St}{K:List DV→St→Prop}(h:nU P w0 S0 c o fr S K):au P w0 o (ev fr) S fun d S'=>K (pt fr o.dst d) S':=by
 rcases h with⟨c,d,q,k⟩|⟨c,hS,d,q,k⟩|⟨c,q⟩|⟨c,q⟩|⟨c,hS,t,ht,hz,k⟩
 ·exact bd (fun d' S' h=>by rw[h.1,h.2];exact k) (q S)
 ·exact bd (fun d' S' h=>by rw[h.1,h.2];exact k) (q S hS)
 ·exact bd (fun d' S' h=>h.2) q
 ·exact q
 ·exact tP ht ⟨hz,k⟩
theorem mM{gs ns:List Nat}{ro:Option Nat}{g0:Gh}{Q:Exit→List DV→St→Prop}:∀(fuel:Nat) (listed:Array Bool) (fr:List DV) (S:St) (g:Gh) (a:Act) (w:World),g0.le g→Rel w0 g S w→aq g fr a.tmps.toList→Dk w0 g.obj a w→
 Wz P w0 S0 gs ns md ops (fun fr S=>Q .normal fr S) fuel listed fr S→wpAnyIn (fz ro) 0 P md ops (Good w0 g0 Q) fuel listed a w
 |0,listed,fr,S,g,a,w,k,h1,h2,h3,h=>⟨h.1,k.kd h3,g,fr,S,k,h1,h2,h.2⟩
 |fuel+1,listed,fr,S,g,a,w,k,h1,h2,h3,h=>by
  refine⟨fun h0=>⟨k.kd h3,g,fr,S,k,h1,h2,h.1 h0⟩,fun i hi=>?_⟩;have hq:=h.2 i hi;unfold mc at hq;unfold wpOpIn;split
  ·rename_i ho;simp only[ho]at hq;obtain⟨T,hp,hq⟩:=hq;exact mM fuel _ fr T g a w k (hp.symm.rel h1) h2 h3 hq
  ·rename_i o ho;simp only[ho]at hq;rcases hq with⟨hw,hb⟩|⟨hw,hk⟩
   ·have hw':=fh (o:=o) h2 hw;rw[if_pos hw'];refine eJ (xZ hb) h1 (fun x _=>nZ h2 x) h3 fun g' d' u S' w' k1 k2 k3 k4 k5=>?_;obtain⟨T,hp,k4⟩:=k4;exact mM fuel _ _ _ g' _ _ (k.trans k1) (hp.symm.rel k2) (eo (h2.mono k1) _ k3) (k1.dk k5) k4
   ·have hw':=fh (o:=o) h2 hw;rw[if_neg (by simp[hw'])];obtain⟨T,hp,hk⟩:=hk;exact⟨fun _ _=>trivial,mM fuel _ _ _ g _ _ k (hp.symm.rel h1) (eo h2 _ (kG g)) (h3.keep (put_defers _ _ _) fun _ _ h _=>h) hk⟩
theorem sC{id:Nat}{l:List Oper}{gs ns ord:List Nat}{fr:List DV}{S:St}{Q:Exit→List DV→St→Prop}(hm:P.follows .mixedOrders=true)(hB:Hj gs ns .any l.toArray ord (Array.replicate l.length false)=true)(hO:ord.length=l.length)(h:LO P w0 S0 gs ns l.toArray (fun fr S=>Q .normal fr S) ord fr S):gF P w0 (.region id l.toArray true) fr S Q:=by
 intro g a w h1 h2 h3;refine ie hm fun ro=>?_;have hR:Rel w0 g S {w with drawn:=w.drawn+1}:=h1.grow (mT w)
 have hcnt:∀l':List Nat,l'.Nodup→(∀k,k∈l'→(Array.replicate l.length false).getD k true=false)→l'.length≤ord.length:=by
  intro l' hn hl
  have hsub:∀k,k∈l'→k∈List.range l.length:=fun k hk=>by
   have:=hl k hk;rw[aeF];rcases adR k l.length with h|h
   ·exact h
   ·rw[adW,aek (by simpa using h)]at this;cases this
  have:=hn.length_le_of_subset (l₂:=List.range l.length) hsub;rw[hO];simpa using this
 have:=FT (P:=P) (w0:=w0) (S0:=S0) (md:= .any) (ops:=l.toArray) ord (Array.replicate l.length false) fr S hcnt hB h;have:=mM (ro:=ro) (g0:=g) (Q:=Q) _ _ fr S g a _ (.refl g) hR h2 (h3.keep rfl fun _ _ h _=>h) this;rw[hO]at this;simpa using this
theorem DM{m:Option (KK×DV)}{S T:St}{x y:DV}{ok:Bool}{K:DV→Prop}(hT:Has S T)(h:dV m S x y ok K):dV m T x y ok K:=by
 unfold dV at*
 cases m with
 |none=>exact h.elim
 |some p=>
  obtain⟨h1,h2⟩:=h;refine⟨h1,?_⟩
  cases hk:rZ y with
  |none=>rw[hk]at h2;exact h2.elim
  |some k=>
   rw[hk]at h2;obtain⟨h3,h4⟩:=h2;refine⟨h3,?_⟩
   cases x with
   |mp l=>
    simp only at h4 ⊢
    cases hl:lk S.acc l with
    |none=>rw[hl]at h4;exact h4.elim
    |some o=>rw[hT.acc _ _ hl];rw[hl]at h4;exact h4
   |v u=>
    cases u with
    |map o=>cases o <;>exact h4
    |_=>exact h4
   |_=>exact h4
theorem MU{k:TK}{S T:St}{x:DV}{K:DV→Prop}(hT:Has S T)(h:cn k S x K):cn k T x K:=by
 unfold cn at*;split at h
 ·split at h
  ·rename_i ds hb;simp only[hT.box _ _ hb];exact h
  ·exact h.elim
 ·exact h
 ·split at h
  ·rename_i hb;simp only[hT.acc _ _ hb];exact h
  ·rename_i hb;simp only[hT.acc _ _ hb];exact h
  ·exact h.elim
 ·exact h.elim
end
def QO(P:Program)(w0:W0)(S0:St)(f:FuncId)(ds:List DV)[K:Cn (DV→Prop)]:Prop:=∃d,(∀T,Has S0 T→ab P w0 f ds T fun d' S'=>d'=d∧S'=T)∧K.k d
def rS(P:Program)(w0:W0)(S0:St)(cal:DV)(ds:List DV)(K:DV→Prop):Prop:=match cal with
 | .v (.func (.func f) a cap)=>a.size=0∧okF P f=true∧cap.toList.all (fun u=>u.oneCell')=true∧ds.all ic=true∧@QO P w0 S0 f (ds++cap.toList.map .v) ⟨K⟩
 |_=>False
def vq(P:Program)(w0:W0)(S0:St)(op:Op)(fr:List DV)(S:St)(K:DV→St→Prop):Prop:=match op with
 | .load t x=>Has S0 S∧cn (tk P t) S0 (ev fr x) (K · S)
 | .call ⟨.value cal,args,_⟩=>Has S0 S∧rS P w0 S0 (ev fr cal) (args.toList.map (ev fr)) (K · S)
 | .alloc t=>Has S0 S∧fk (zD P t)=true∧Gl S (zD P t) K
 | .lookup t x y ok=>Has S0 S∧dV (uc P t) S0 (ev fr x) (ev fr y) ok (K · S)
 |op=>fq (Z.kX op==0) (CO P w0 op fr S (K · S)) (aU P w0 op fr S K)
def WI(P:Program)(w0:W0)(S0:St)(gs ns:List Nat)(i:Nat)(op:Op)(fr:List DV)(S:St)(K:DV→St→Prop):Prop:=
 fq (gs.contains i) (aU P w0 op fr S fun d S'=>Has S0 S'∧K d S') (fq (ns.contains i) (aU P w0 op fr S K) (vq P w0 S0 op fr S K))
def sQ(P:Program)(w0:W0)(S0:St)(gs ns:List Nat)(ops:Array Oper)(K:List DV→St→Prop)(oo:Option Oper)(i:Nat)(fr:List DV)(S:St):Prop:=match oo with
 |none=>False
 |some o=>cJ ops fr o.guard (fun fr=>WI P w0 S0 gs ns i o.op fr S fun d S'=>K (pt fr o.dst d) S') (fun fr=>K (pt fr o.dst ud) S)
def zt(P:Program)(w0:W0)(S0:St)(gs ns:List Nat)(ops:Array Oper)(K:List DV→St→Prop):List Nat→List DV→St→Prop
 |[],fr,S=>K fr S
 |i::is,fr,S=>sQ P w0 S0 gs ns ops (zt P w0 S0 gs ns ops K is) ops[i]? i fr S
section
variable {P:Program} {w0:W0} {S0:St} {ops:Array Oper} {md:Region.Mode}
theorem Lb{S0:St}{o:Oper}{fr:List DV}{d:DV}(q:∀T,Has S0 T→QY P w0 T o fr d)(T:St)(hT:Hm S0 T):QY P w0 T o fr d:=fun g w ρ r=>q T (hT.has r) g w ρ r
theorem Ha{gs ns:List Nat}{i:Nat}{o:Oper}{fr:List DV}{S:St}{K:List DV→St→Prop}(hs:iG o.op=true)(h:WI P w0 S0 gs ns i o.op fr S fun d S'=>K (pt fr o.dst d) S'):nU P w0 S0 (cls gs ns i o.op) o fr S K:=by
 unfold WI at h
 cases hg:gs.contains i with
 |true=>
  rw[hg]at h;have hc:cls gs ns i o.op=2:=by unfold cls;rw[if_pos hg]
  rw[hc];have h':aU P w0 o.op fr S fun d S'=>Has S0 S'∧K (pt fr o.dst d) S':=h;exact .inr (.inr (.inl ⟨rfl,bd (fun d S' hk=>⟨.of hk.1,hk.2⟩) (bV hs h')⟩))
 |false=>
  rw[hg]at h
  cases hn:ns.contains i with
  |true=>
   rw[hn]at h;have hc:cls gs ns i o.op=3:=by unfold cls;rw[if_neg (by rw[hg];simp),if_pos hn]
   rw[hc];exact .inr (.inr (.inr (.inl ⟨rfl,bV hs h⟩)))
  |false=>
   rw[hn]at h;have hc:cls gs ns i o.op=(match kY o.op with|0=>0|1=>1|2=>4|_=>3):=by unfold cls;rw[if_neg (by rw[hg];simp),if_neg (by rw[hn];simp)]
   rw[hc];replace h:vq P w0 S0 o.op fr S fun d S'=>K (pt fr o.dst d) S':=h
   have gen:∀(h:fq (Z.kX o.op==0) (CO P w0 o.op fr S fun d=>K (pt fr o.dst d) S) (aU P w0 o.op fr S fun d S'=>K (pt fr o.dst d) S')),Z.kX o.op=0∨Z.kX o.op=3→kY o.op=Z.kX o.op→nU P w0 S0 (match kY o.op with|0=>0|1=>1|2=>4|_=>3) o fr S K:=by
    intro h hk hkk;rw[hkk];rcases hk with hk|hk
    ·rw[hk]at h ⊢;obtain⟨d,q1,q2⟩:=Z.xE hk (show CO P w0 o.op fr S fun d=>K (pt fr o.dst d) S from h)
     exact .inl ⟨rfl,d,fun S'=>by
      obtain⟨d',k1,k2⟩:=xy hs (q1 S');subst k2;exact k1,q2⟩
    ·rw[hk]at h ⊢;exact .inr (.inr (.inr (.inl ⟨rfl,bV hs h⟩)))
   cases hop:o.op with
   |load t x=>
    rw[hop]at h hs;obtain⟨hS,h⟩:=h;obtain⟨d,q1,q2⟩:=qM (show cn (tk P t) S0 (ev fr x) (fun d=>K (pt fr o.dst d) S)from h);refine .inr (.inl ⟨rfl,.of hS,d,Lb fun T hT=>?_,q2⟩);exact bV (by rw[hop];exact hs) (by rw[hop];simpa[aU]using MU hT q1)
   |alloc t=>
    rw[hop]at h;exact .inr (.inr (.inr (.inr ⟨rfl,.of h.1,t,hop,h.2.1,h.2.2⟩)))
   |call c=>
    obtain⟨callee,args,ts⟩:=c
    cases callee with
    |value cal=>
     rw[hop]at h hs;obtain⟨hS,h⟩:=h;simp only[rS]at h;split at h
     ·rename_i f a cap hcal;obtain⟨h1,h2,h3,h4,d,h5,h6⟩:=h;refine .inr (.inl ⟨rfl,.of hS,d,Lb fun T hT=>?_,h6⟩);exact bV (by rw[hop];exact hs) (by rw[hop];simp only[aU,hcal];exact ri h1 h3 (by rw[h2,MY];exact nO h4 (h5 T hT)))
     ·exact h.elim
    |builtin b=>
     rw[←hop];refine gen (by rw[hop]at h ⊢;exact h) ?_ (by rw[hop];rfl);rw[hop];cases b <;>first|exact .inl rfl|exact .inr rfl
    |invoke r m=>
     rw[←hop];refine gen (by rw[hop]at h ⊢;exact h) ?_ (by rw[hop];rfl);rw[hop];exact .inr rfl
   |lookup t x y ok=>
    rw[hop]at h hs;obtain⟨hS,h⟩:=h;obtain⟨d,q1,q2⟩:=vx (show dV (uc P t) S0 (ev fr x) (ev fr y) ok (fun d=>K (pt fr o.dst d) S)from h);refine .inr (.inl ⟨rfl,.of hS,d,Lb fun T hT=>?_,q2⟩);exact bV (by rw[hop];exact hs) (by rw[hop];simpa[aU]using DM hT q1)
   |_=>rw[←hop];refine gen (by rw[hop]at h ⊢;exact h) ?_ (by rw[hop];rfl);rw[hop];first|exact .inl rfl|exact .inr rfl
theorem jY{gs ns:List Nat}{K:List DV→St→Prop}(hs:∀(i:Nat) (o:Oper),ops[i]? =some o→iG o.op=true):∀(l:List Nat) {fr:List DV} {S:St},zt P w0 S0 gs ns ops K l fr S→LO P w0 S0 gs ns ops K l fr S
 |[],fr,S,h=>h
 |i::is,fr,S,h=>by
  unfold zt sQ at h;unfold LO
  cases ho:ops[i]? with
  |none=>rw[ho]at h;exact h
  |some o=>
   rw[ho]at h;simp only at h ⊢;rcases kW h with⟨hw,ha⟩|⟨hw,hb⟩
   ·exact .inl ⟨hw,uk (fun fr S h=>jY hs is h) (Ha (hs i o ho) ha)⟩
   ·exact .inr ⟨hw,jY hs is hb⟩
def WQ(l:List Oper)(gs ns ord:List Nat):Bool:=l.all (fun o=>iG o.op)&&Hj gs ns .any l.toArray ord (Array.replicate l.length false)&&(ord.length==l.length)
theorem j4(gs ns ord:List Nat){id:Nat}{l:List Oper}{fr:List DV}{S:St}{Q:Exit→List DV→St→Prop}(hm:P.follows .mixedOrders=true)(hB:WQ l gs ns ord=true)(h:zt P w0 S gs ns l.toArray (fun fr S=>kE fr fun fr=>Q .normal fr S) ord fr S):gF P w0 (.region id l.toArray true) fr S Q:=by
 simp only[WQ,abG,beq_iff_eq]at hB;refine sC hm hB.1.2 hB.2 (jY (fun i o ho=>?_) ord h);have:l[i]? =some o:=by simpa using ho
 exact adY.1 hB.1.1 o (aap this)
def JI:List Nat→Nat→Prop
 |[],_=>False
 |a::L,b=>a=b∨JI L b
noncomputable def OI(L:List Nat)(S:St):St:=⟨S.box.filter fun p=>@decide (¬JI L p.1) (Classical.propDecidable _),S.acc⟩
theorem uW{L:List Nat}{S:St}{b:Nat}(h:¬JI L b):lk (OI L S).box b=lk S.box b:=by
 obtain⟨B,A⟩:=S;show lk (B.filter _) b=lk B b
 induction B with
 |nil=>rfl
 |cons p B ih=>
  obtain⟨k,x⟩:=p;rw[aeA];split
  ·simp only[lk,ih]
  ·rename_i hn;have hk:¬k=b:=fun e=>hn (by subst e;exact @decide_eq_true _ (Classical.propDecidable _) h);rw[ih];simp only[lk,if_neg hk]
theorem oQ{L:List Nat}{S:St}{b:Nat}(h:JI L b):lk (OI L S).box b=none:=by
 obtain⟨B,A⟩:=S;show lk (B.filter _) b=none
 induction B with
 |nil=>rfl
 |cons p B ih=>
  obtain⟨k,x⟩:=p;rw[aeA];split
  ·rename_i hn
   have hk:¬k=b:=fun e=>by
    subst e;exact(@of_decide_eq_true _ (Classical.propDecidable _) hn) h
   simp only[lk,if_neg hk];exact ih
  ·exact ih
theorem RI(L:List Nat)(S:St):Has (OI L S) S:=⟨fun b x hb=>by
 by_cases h:JI L b
 ·rw[oQ h]at hb;cases hb
 ·rwa [uW h]at hb,fun l o hl=>hl⟩
theorem R0(L gs ns ord:List Nat){id:Nat}{l:List Oper}{fr:List DV}{S:St}{Q:Exit→List DV→St→Prop}(hm:P.follows .mixedOrders=true)(hB:WQ l gs ns ord=true)(h:zt P w0 (OI L S) gs ns l.toArray (fun fr S=>kE fr fun fr=>Q .normal fr S) ord fr S):gF P w0 (.region id l.toArray true) fr S Q:=by
 simp only[WQ,abG,beq_iff_eq]at hB;refine sC hm hB.1.2 hB.2 (jY (fun i o ho=>?_) ord h);have:l[i]? =some o:=by simpa using ho
 exact adY.1 hB.1.1 o (aap this)
theorem lM{f:FuncId}{args args':List DV}{K:DV→Prop}{r:DV}(h:∀T,Has S0 T→ab P w0 f args' T (fun d S'=>d=r∧S'=T))(hk:K r)(ha:fV args args':=by exact fV.refl _):@QO P w0 S0 f args ⟨K⟩:=
 ⟨r,fun T hT=>lX (h T hT) ha ⟨rfl,rfl⟩,hk⟩
end
section
variable {P:Program} {w0:W0} {S0:St} {gs ns:List Nat} {ops:Array Oper} {fr:List DV} {S:St} {dst:Option Tmp} {op:Op} {ty:TypeId} {pos:String} {aft:Array Edge}
section
variable {K:List DV→St→Prop}
theorem Yl:zt P w0 S0 gs ns ops K [] fr S=K fr S:=rfl
theorem UF(i:Nat)(is:List Nat):zt P w0 S0 gs ns ops K (i::is) fr S=sQ P w0 S0 gs ns ops (zt P w0 S0 gs ns ops K is) ops[i]? i fr S:=rfl
@[congr] theorem Zr {oo oo':Option Oper} {i:Nat} (h:oo=oo'):sQ P w0 S0 gs ns ops K oo i fr S=sQ P w0 S0 gs ns ops K oo' i fr S:=by cases h;rfl
theorem Wg(i:Nat):sQ P w0 S0 gs ns ops K (some ⟨dst,op,ty,pos,aft,none⟩) i fr S=WI P w0 S0 gs ns i op fr S fun d S'=>K (pt fr dst d) S':=rfl
theorem V3(i j:Nat)(want:Bool):sQ P w0 S0 gs ns ops K (some ⟨dst,op,ty,pos,aft,some (j,want)⟩) i fr S=gK ((ops[j]?).bind (·.dst)) fr want (fun fr=>WI P w0 S0 gs ns i op fr S fun d S'=>K (pt fr dst d) S') (fun fr=>K (pt fr dst ud) S):=by unfold sQ;exact uf _ _ _ _ _ _
end
variable {K:DV→St→Prop}
theorem aax(i:Nat):WI P w0 S0 gs ns i op fr S K=fq (gs.contains i) (aU P w0 op fr S fun d S'=>Has S0 S'∧K d S') (fq (ns.contains i) (aU P w0 op fr S K) (vq P w0 S0 op fr S K)):=rfl
theorem VD(t:TypeId)(x:Operand):vq P w0 S0 (.load t x) fr S K=(Has S0 S∧cn (tk P t) S0 (ev fr x) (K · S)):=rfl
theorem RA(t:TypeId):vq P w0 S0 (.alloc t) fr S K=(Has S0 S∧fk (zD P t)=true∧Gl S (zD P t) K):=rfl
theorem TO(cal:Operand)(a:List Operand)(ts:Array TypeId):vq P w0 S0 (.call ⟨.value cal,a.toArray,ts⟩) fr S K=(Has S0 S∧rS P w0 S0 (ev fr cal) (a.map (ev fr)) (K · S)):=rfl
theorem QA(f:FuncId)(a cap:Array Value)(ds:List DV)(K:DV→Prop):rS P w0 S0 (.v (.func (.func f) a cap)) ds K=(a.size=0∧okF P f=true∧cap.toList.all (fun u=>u.oneCell')=true∧ds.all ic=true∧@QO P w0 S0 f (ds++cap.toList.map .v) ⟨K⟩):=rfl
@[congr] theorem W5 {cal cal':DV} {ds ds':List DV} {K:DV→Prop} (h1:cal=cal') (h2:ds=ds'):rS P w0 S0 cal ds K=rS P w0 S0 cal' ds' K:=by cases h1;cases h2;rfl
theorem V8(x:Operand):vq P w0 S0 (.move x) fr S K=aL P w0 (.move x) fr S (K · S):=rfl
theorem Kg(x:Operand):vq P w0 S0 (.assign x) fr S K=aL P w0 (.assign x) fr S (K · S):=rfl
theorem Vs(c a b:Operand):vq P w0 S0 (.pick c a b) fr S K=aL P w0 (.pick c a b) fr S (K · S):=rfl
theorem A7(t:TypeId)(x:Operand)(f:Nat):vq P w0 S0 (.fieldAddr t x f) fr S K=aL P w0 (.fieldAddr t x f) fr S (K · S):=rfl
theorem AX(t:TypeId)(x i:Operand):vq P w0 S0 (.indexAddr t x i) fr S K=aL P w0 (.indexAddr t x i) fr S (K · S):=rfl
theorem Ir(x:Operand)(i:Nat):vq P w0 S0 (.extract x i) fr S K=aL P w0 (.extract x i) fr S (K · S):=rfl
theorem Dn(x:Operand):vq P w0 S0 (.nilCheck x) fr S K=aL P w0 (.nilCheck x) fr S (K · S):=rfl
theorem Q7(b:BinOp)(t:TypeId)(x y:Operand)(t':TypeId):vq P w0 S0 (.binOp b t x y t') fr S K=aL P w0 (.binOp b t x y t') fr S (K · S):=rfl
theorem US(b:UnOp)(t:TypeId)(x:Operand):vq P w0 S0 (.unOp b t x) fr S K=aL P w0 (.unOp b t x) fr S (K · S):=rfl
theorem Fc(fn:Fn)(a b:Array Operand):vq P w0 S0 (.makeFunc fn a b) fr S K=aL P w0 (.makeFunc fn a b) fr S (K · S):=rfl
theorem O5(t:TypeId)(x:Operand)(lo hi mx:Option Operand):vq P w0 S0 (.slice t x lo hi mx) fr S K=aL P w0 (.slice t x lo hi mx) fr S (K · S):=rfl
theorem PX(t:TypeId)(parts:Array (Nat×Operand)):vq P w0 S0 (.build t parts) fr S K=aL P w0 (.build t parts) fr S (K · S):=rfl
theorem yA(t:TypeId)(len:Nat)(parts:Array (Nat×Operand)):vq P w0 S0 (.buildSlice t len parts) fr S K=aL P w0 (.buildSlice t len parts) fr S (K · S):=rfl
theorem Pz(t:TypeId)(x y:Operand):vq P w0 S0 (.store t x y) fr S K=aU P w0 (.store t x y) fr S K:=rfl
theorem Pb(a:Array Operand)(ts:Array TypeId):vq P w0 S0 (.call ⟨.builtin .len,a,ts⟩) fr S K=aL P w0 (.call ⟨.builtin .len,a,ts⟩) fr S (K · S):=rfl
theorem Rf(a:Array Operand)(ts:Array TypeId):vq P w0 S0 (.call ⟨.builtin .max,a,ts⟩) fr S K=aL P w0 (.call ⟨.builtin .max,a,ts⟩) fr S (K · S):=rfl
theorem No(S:St):Has S S=True:=eq_true (.refl S)
theorem Re{S0:St}{B:List (Nat×List DV)}{A:List (Nat×Ob)}(b:Nat)(v:List DV)(hb:lk S0.box b=none)(h:Has S0 ⟨B,A⟩):Has S0 ⟨(b,v)::B,A⟩=True:=eq_true ⟨fun c x hc=>by
 have h1:=h.box c x hc;show lk ((b,v)::B) c=some x;rw[qQ (fun e=>by rw[←e,hb]at hc;cases hc)];exact h1,h.acc⟩
theorem Ri{S0:St}{B:List (Nat×List DV)}{A:List (Nat×Ob)}(l:Nat)(v:Ob)(hb:lk S0.acc l=none)(h:Has S0 ⟨B,A⟩):Has S0 ⟨B,(l,v)::A⟩=True:=eq_true ⟨h.box,fun c x hc=>by
 have h1:=h.acc c x hc;show lk ((l,v)::A) c=some x;rw[qQ (fun e=>by rw[←e,hb]at hc;cases hc)];exact h1⟩
theorem RB(b:Nat):JI [] b=False:=rfl
theorem L6(a:Nat)(L:List Nat)(b:Nat):JI (a::L) b=(a=b∨JI L b):=rfl
theorem N1(L:List Nat)(S:St):Has (OI L S) S=True:=eq_true (RI L S)
theorem JL{L:List Nat}{B B':List (Nat×List DV)}{A A':List (Nat×Ob)}(h:Has (OI L ⟨B,A⟩) ⟨B',A'⟩){c:Nat}{x:List DV}(hc:¬JI L c)(hx:lk B c=some x):lk B' c=some x:=
 h.box c x (by rw[uW hc];exact hx)
theorem L9{L:List Nat}{B B':List (Nat×List DV)}{A A':List (Nat×Ob)}(b:Nat)(v:List DV)(h:Has (OI L ⟨B,A⟩) ⟨B',A'⟩):Has (OI L ⟨(b,v)::B,A⟩) ⟨(b,v)::B',A'⟩=True:=eq_true ⟨fun c x hc=>by
 by_cases hL:JI L c
 ·rw[oQ hL]at hc;cases hc
 ·rw[uW hL]at hc;show lk ((b,v)::B') c=some x;simp only[lk]at hc ⊢;split
  ·rename_i e;rw[if_pos e]at hc;exact hc
  ·rename_i e;rw[if_neg e]at hc;exact JL h hL hc,h.acc⟩
theorem Jl{L:List Nat}{B B':List (Nat×List DV)}{A A':List (Nat×Ob)}(b:Nat)(v w:List DV)(hi:JI L b)(h:Has (OI L ⟨B,A⟩) ⟨B',A'⟩):Has (OI L ⟨(b,v)::B,A⟩) ⟨(b,w)::B',A'⟩=True:=eq_true ⟨fun c x hc=>by
 by_cases hL:JI L c
 ·rw[oQ hL]at hc;cases hc
 ·rw[uW hL]at hc;have hne:¬b=c:=fun e=>hL (e▸hi);show lk ((b,w)::B') c=some x;simp only[lk,if_neg hne]at hc ⊢;exact JL h hL hc,h.acc⟩
def ZC{α:Type}(l' l:List (Nat×α)):Prop:=∃p,l=p++l'
theorem N4{α:Type}(l:List (Nat×α)):ZC l l=True:=eq_true ⟨[],rfl⟩
theorem NT{α:Type}(x:Nat×α)(l' l:List (Nat×α))(h:ZC l' l):ZC l' (x::l)=True:=eq_true (let⟨p,e⟩:=h;⟨x::p,by rw[e];rfl⟩)
theorem TA{α:Type}{l' l:List (Nat×α)}(b:FN l)(h:ZC l' l):lk l' b.n=none:=by
 obtain⟨p,e⟩:=h;subst e;refine n0 (dG fun q hq=>lD b.h q (adL _ hq))
end
attribute [go_sem ↓] Yl UF aax VD RA TO QA V8 Kg Vs A7 AX Ir Dn Q7 US Fc O5 PX yA Pz Pb Rf
attribute [go_sem] Wg V3 No Re Ri N4 NT TA RB L6 N1 L9 Jl uW oQ
end Aml.Y
namespace Aml
open Go Go.RowKit
def del(L:List (Nat×Ob))(n:Nat):List (Nat×Ob):=L.filter fun p=>p.1 !=n
theorem GQ{L:List (Nat×Ob)}{n:Nat}{p:Nat×Ob}:p∈del L n↔p∈L∧p.1≠n:=by unfold del;simp
theorem uG{L:List (Nat×Ob)}{n:Nat}(h:∀p,p∈L→p.1≠n):del L n=L:=aeJ.2 fun p hp=>by simpa using h p hp
theorem CM{n:Nat}{p:Nat×Ob}{o:Ob}:∀{L:List (Nat×Ob)},(L.map (·.1)).Nodup→lk L n=some o→(tm L n p).Perm (p::del L n)
 |[],_,h=>by cases h
 |(k,x)::t,hn,h=>by
  simp only[aa9,aec]at hn;simp only[lk]at h;simp only[tm];split
  ·rename_i e;subst e
   have h1:del ((k,x)::t) k=t:=by
    have h2:del t k=t:=uG fun q hq e=>hn.1 (by rw[←e];exact aew hq);unfold del at*;rw[ae4 (by simp)];exact h2
   rw[h1]
  ·rename_i e;rw[if_neg e]at h;have h1:del ((k,x)::t) n=(k,x)::del t n:=by unfold del;rw[List.filter_cons_of_pos (by simpa using e)]
   rw[h1];exact((CM hn.2 h).cons _).trans (.swap _ _ _)
def tY(s:Nat)(xs:List DV):Prop:=∀d,d∈xs→fk d=true∧(cd d).length=s
def iu(s c:Nat)(xs:List DV):List DV:=xs.flatMap cd++List.replicate ((c-xs.length)*s) .any
theorem iN{s:Nat}:∀{xs:List DV},tY s xs→(xs.flatMap cd).length=xs.length*s
 |[],_=>by simp
 |d::xs,h=>by
  rw[acA,c9,iN fun x hx=>h x (abn _ hx),(h d aaX).2,abx,aeE];omega
theorem nq{s c:Nat}{xs:List DV}(h:tY s xs)(hc:xs.length≤c):(iu s c xs).length=c*s:=by
 unfold iu;rw[c9,iN h,aej,←afa];congr 1;omega
section
variable {P:Program} {w0:W0}
theorem Rel.Y3{g:Gh}{S:St}{w:World}(h:Rel w0 g S w){l s:Nat}{xs:List DV}(hl:lk S.acc l=some (.arr s xs))(hn:xs≠[])(he:tY s xs):
 ∃b c,g.acc l xs.length=some (.slice (some ⟨b,0,none⟩) xs.length c)∧xs.length≤c∧c≤maxLen∧jF S.box b∧Rel w0 g ⟨(b,iu s c xs)::S.box,del S.acc l⟩ w:=by
 obtain⟨ow,h⟩:=h.open_;have hmem:=cP hl;obtain⟨hs,⟨he0,_⟩|⟨b,c,cs,e,h1,h2,h3,h4,h5,h6,h7,h8,hA,us,h9,h10,h11,h12⟩⟩:=h.acc l _ hmem
 ·exact absurd he0 hn
 have hbn:∀p,p∈S.box→p.1≠b:=by
  rintro⟨b',ds⟩ hp rfl;have:=(h.box _ _ hp).1;rw[h2]at this;cases this
 refine⟨b,c,h1,h7,h8,dG hbn,iV.close (ow:=fun k=>if k=b then some (.b b)else ow k) ⟨h.below,h.cu,?_,?_,h.gU,h.fresh,fun l' o' hl'=>h.top l' o' (GQ.1 hl').1,?_,?_,?_⟩⟩
 ·simp only[aa9,aec];exact⟨fun hm=>by obtain⟨p,hp,e⟩:=adS.1 hm;exact hbn p hp e,h.nb⟩
 ·exact List.Sublist.nodup ((afn).map _) h.na
 ·intro b' ds hb';rcases ab6.1 hb' with e'|hb'
  ·cases e';refine⟨if_pos rfl,h3,h4,cs,e,h5,?_,hA⟩;have hfl:(fl us).length=xs.length*s:=by rw[iD h10,h9.len]
   have hcs:cs.toList=fl us++cs.toList.drop (xs.length*s):=by
    apply afA;intro k;rcases adR k (xs.length*s)with hk|hk
    ·rw[ad4 (by omega)];obtain⟨v,hv⟩:∃v,(fl us)[k]? =some v:=⟨_,aay (by omega)⟩;obtain⟨i,u,j,q1,q2,rfl⟩:=Fq h10 hv;rw[hv,aez];exact h12 i u j v q1 q2
    ·rw[adN (by omega),hfl,aeg];congr 1;omega
   rw[hcs];unfold iu;refine(oC h9 fun d hd=>(he d hd).1).append ?_;have:(cs.toList.drop (xs.length*s)).length=(c-xs.length)*s:=by rw[acv,aef,h6,Nat.sub_mul]
   rw[←this];exact sM g _
  ·have hne:b'≠b:=hbn _ hb';exact(h.box b' ds hb').step (.refl g) fun ho=>⟨(if_neg hne).trans ho,rfl,fun _ hi=>hi⟩
 ·intro l' o' hl';obtain⟨hm,hne⟩:=GQ.1 hl';refine(h.acc l' o' hm).step (.refl g) fun b' ho=>⟨?_,rfl,fun _ hi=>hi⟩
  have:b'≠b:=by
   rintro rfl;rw[h2]at ho;cases ho;exact hne rfl
  rw[if_neg this];exact ho
 ·intro b' k hk;split at hk
  ·rename_i e';subst e';exact dA h5
  ·exact h.re _ _ hk
theorem Gn{g:Gh}{s:Nat}(hs:0<s):∀{ys:List DV} {us:List Value},aq g (ys.flatMap cd) us→(∀u,u∈us→u.oneCell'=true)→tY s ys→
 ∃vs,aq g ys vs∧(∀(i:Nat) (u:Value),vs[i]? =some u→u.cells.size=s)∧(∀(u:Value),u∈vs→∀x,x∈u.cells.toList→x.oneCell'=true)∧fl vs=us
 |[],us,h,_,_=>by
  have:us=[]:=aa4 (by have:=h.len;simpa using this.symm);subst this;exact⟨[],aq.nil g,by simp,by simp,rfl⟩
 |d::ys,us,h,h1,he=>by
  obtain⟨hok,hlen⟩:=he d aaX
  have hs1:aq g (cd d) (us.take s):=by
   have:=h.take s
   rwa [acA,aeb (by omega),aaA (by omega)]at this
  have hs2:aq g (ys.flatMap cd) (us.drop s):=by
   have:=h.drop s
   rwa [acA,List.drop_append_of_le_length (by omega),aeV (by omega),adZ]at this
  obtain⟨vs,q1,q2,q3,q4⟩:=Gn hs hs2 (fun u hu=>h1 u (adk hu)) fun x hx=>he x (abn _ hx)
  obtain⟨v,r1,r2⟩:∃v,aY g d v∧v.cells.toList=us.take s:=by
   have hone:∀u,u∈us.take s→u.oneCell'=true:=fun u hu=>h1 u (ac5 hu);generalize us.take s=ts at*
   cases d with
   |agg ds=>exact⟨.agg ts.toArray,.agg ds ts hs1.len hs1.at_ hone,by simp[Value.cells]⟩
   |any=>cases hok
   |bM ds=>cases hok
   |v u0=>
    obtain⟨u,us',rfl,a1,a2⟩:=hs1.cF;have:us'=[]:=aa4 (by have:=a2.len;simpa using this.symm);subst this;exact⟨u,a1,by have:=hone u aaX;cases u <;>simp_all [Value.cells,Value.oneCell']⟩
   |sl a b c=>
    obtain⟨u,us',rfl,a1,a2⟩:=hs1.cF;have:us'=[]:=aa4 (by have:=a2.len;simpa using this.symm);subst this;exact⟨u,a1,by have:=hone u aaX;cases u <;>simp_all [Value.cells,Value.oneCell']⟩
   |kQ a b=>
    obtain⟨u,us',rfl,a1,a2⟩:=hs1.cF;have:us'=[]:=aa4 (by have:=a2.len;simpa using this.symm);subst this;exact⟨u,a1,by have:=hone u aaX;cases u <;>simp_all [Value.cells,Value.oneCell']⟩
   |acc a b=>
    obtain⟨u,us',rfl,a1,a2⟩:=hs1.cF;have:us'=[]:=aa4 (by have:=a2.len;simpa using this.symm);subst this;exact⟨u,a1,by have:=hone u aaX;cases u <;>simp_all [Value.cells,Value.oneCell']⟩
   |ip a=>
    obtain⟨u,us',rfl,a1,a2⟩:=hs1.cF;have:us'=[]:=aa4 (by have:=a2.len;simpa using this.symm);subst this;exact⟨u,a1,by have:=hone u aaX;cases u <;>simp_all [Value.cells,Value.oneCell']⟩
   |ap a b c d e=>
    obtain⟨u,us',rfl,a1,a2⟩:=hs1.cF;have:us'=[]:=aa4 (by have:=a2.len;simpa using this.symm);subst this;exact⟨u,a1,by have:=hone u aaX;cases u <;>simp_all [Value.cells,Value.oneCell']⟩
   |mp a=>
    obtain⟨u,us',rfl,a1,a2⟩:=hs1.cF;have:us'=[]:=aa4 (by have:=a2.len;simpa using this.symm);subst this;exact⟨u,a1,by have:=hone u aaX;cases u <;>simp_all [Value.cells,Value.oneCell']⟩
   |it a=>
    obtain⟨u,us',rfl,a1,a2⟩:=hs1.cF;have:us'=[]:=aa4 (by have:=a2.len;simpa using this.symm);subst this;exact⟨u,a1,by have:=hone u aaX;cases u <;>simp_all [Value.cells,Value.oneCell']⟩
  have hul:(us.take s).length=s:=by have:=hs1.len;omega
  refine⟨v::vs,q1.cons r1,?_,?_,?_⟩
  ·intro i u hu
   cases i with
   |zero=>simp at hu;subst hu;rw[←aef,r2,hul]
   |succ i=>exact q2 i u (by simpa using hu)
  ·intro u hu x hx;rcases ab6.1 hu with rfl|hu
   ·rw[r2]at hx;exact h1 x (ac5 hx)
   ·exact q3 u hu x hx
  ·show v.cells.toList++fl vs=us;rw[r2,q4,adI]
theorem Rel.Wi{g:Gh}{S:St}{w:World}(h:Rel w0 g S w){b s c:Nat}{ds ys:List DV}(hb:lk S.box b=some ds)(hs:0<s)(he:tY s ys)(hds:ds.take (ys.length*s)=ys.flatMap cd)(hdl:ds.length=c*s)(hc:ys.length≤c)(hcm:c≤maxLen)(L:List (Nat×Ob)):
 ∃m g',g.le g'∧(∀p,p∈S.acc→p.1≠m)∧(∀p,p∈L→p.1≠m)∧Rel w0 g' ⟨S.box.filter (fun p=>p.1 !=b),(m,.arr s ys)::S.acc⟩ w∧aY g' (.acc m ys.length) (.slice (some ⟨b,0,none⟩) ys.length c):=by
 obtain⟨ow,h⟩:=h.open_;have hmem:=cP hb;obtain⟨o1,o2,o3,us,e,hh,hr,hone⟩:=h.box b ds hmem;obtain⟨m0,hm0⟩:=h.fresh
 obtain⟨m,hm1,hm2,hm3⟩:∃m,m0≤m∧(∀p,p∈S.acc→p.1≠m)∧∀p,p∈L→p.1≠m:=by
  have:∀L:List (Nat×Ob),∃k,∀p,p∈L→p.1<k:=by
   intro L
   induction L with
   |nil=>exact⟨0,fun p h=>by cases h⟩
   |cons a l ih=>
    obtain⟨k,hk⟩:=ih;refine⟨a.1+k+1,fun p hp=>?_⟩;rcases ab6.1 hp with rfl|hp
    ·omega
    ·have:=hk p hp;omega
  obtain⟨k1,q1⟩:=this S.acc;obtain⟨k2,q2⟩:=this L;exact⟨m0+k1+k2,by omega,fun p hp e=>by have:=q1 p hp;omega,fun p hp e=>by have:=q2 p hp;omega⟩
 have hle:g.le (g.bj m ys.length (.slice (some ⟨b,0,none⟩) ys.length c)):=Gh.jK (.inl (hm0 _ _ hm1));have hself:(g.bj m ys.length (.slice (some ⟨b,0,none⟩) ys.length c)).acc m ys.length=some (.slice (some ⟨b,0,none⟩) ys.length c):=by simp[Gh.bj]
 have hbf:∀p,p∈S.box.filter (fun p=>p.1 !=b)→p∈S.box∧p.1≠b:=fun p hp=>by simpa using hp
 refine⟨m,_,hle,hm2,hm3,iV.close (ow:=fun k=>if k=b then some (.a m)else ow k) ⟨h.below.le hle,h.cu,?_,?_,?_,?_,?_,?_,?_,?_⟩,.acc _ _ _ _ hself⟩
 ·exact List.Sublist.nodup ((afn).map _) h.nb
 ·simp only[aa9,aec];exact⟨fun hm=>by obtain⟨p,hp,e⟩:=adS.1 hm;exact hm2 p hp e,h.na⟩
 ·intro l' n' u hu;simp only[Gh.bj]at hu;split at hu
  ·rename_i e';obtain⟨rfl,rfl⟩:=e';exact⟨_,_,(aen hu).symm,.inr ⟨b,0,rfl⟩⟩
  ·exact h.gU _ _ _ hu
 ·refine⟨m+1,fun l' n' hl'=>?_⟩;simp only[Gh.bj];rw[if_neg (by omega)];exact hm0 _ _ (by omega)
 ·intro l' o' hl' k hk;simp only[Gh.bj];rcases ab6.1 hl' with e'|hl'
  ·cases e';simp only[Ob.len]at hk;rw[if_neg (by omega)];exact hm0 _ _ hm1
  ·rw[if_neg (fun e'=>hm2 _ hl' e'.1)];exact h.top _ _ hl' k hk
 ·intro b' ds' hb';obtain⟨h1,h2⟩:=hbf _ hb';exact(h.box b' ds' h1).step hle fun ho=>⟨(if_neg h2).trans ho,rfl,fun _ hi=>hi⟩
 ·intro l' o' hl';rcases ab6.1 hl' with e'|hl'
  ·cases e';have hR:aq g (ys.flatMap cd) (us.toList.take (ys.length*s)):=by rw[←hds];exact hr.take _
   obtain⟨vs,q1,q2,q3,q4⟩:=Gn hs hR (fun u hu=>hone u (ac5 hu)) he;refine⟨hs,.inr ⟨b,c,us,e,hself,if_pos rfl,o2,o3,hh,?_,hc,hcm,hone,vs,q1.mono hle,q2,q3,fun i u j x a1 a2=>?_⟩⟩
   ·have:=hr.len;rw[hdl,aef]at this;exact this.symm
   ·have hj:j<s:=by rw[←q2 i u a1];exact(abF.1 a2).1
    have hi:i<ys.length:=by rw[q1.len];exact(aaq.1 a1).1
    have:=F1 q2 a1 a2;rw[q4,adU,if_pos (lt_mul hi hj)]at this;rw[←aez];exact this
  ·refine(h.acc l' o' hl').step hle fun b' ho=>⟨?_,rfl,fun _ hi=>hi⟩;have:b'≠b:=by rintro rfl;rw[o1]at ho;cases ho
   rw[if_neg this];exact ho
 ·intro b' k hk;split at hk
  ·rename_i e';subst e';exact dA hh
  ·exact h.re _ _ hk
theorem mG{f:FuncId}{args:List DV}{S:St}{l s:Nat}{xs:List DV}{K:List DV→Prop}(hl:lk S.acc l=some (.arr s xs))(hn:xs≠[])(hs:0<s)(he:tY s xs)
 (h:∀b c,jF S.box b→xs.length≤c→c≤maxLen→ab P w0 f (.v (.slice (some ⟨b,0,none⟩) xs.length c)::args) ⟨(b,iu s c xs)::S.box,del S.acc l⟩ fun d S'=>∃b' c' ds ys B,K ys∧d= .v (.slice (some ⟨b',0,none⟩) ys.length c')∧lk S'.box b'=some ds∧S'.acc=del S.acc l∧
  S'.box=B∧S.box.Sublist (B.filter fun p=>p.1 !=b')∧tY s ys∧ds.take (ys.length*s)=ys.flatMap cd∧ds.length=c'*s∧ys.length≤c'∧c'≤maxLen):
 ab P w0 f (.acc l xs.length::args) S fun d S'=>∃ys,∃m:FN S.acc,K ys∧d= .acc m.n ys.length∧S'=⟨S.box,tm S.acc l (m.n,.arr s ys)⟩:=by
 intro g vs w h1 h2;obtain⟨b,c,hv,hc1,hc2,hbn,hR⟩:=h1.Y3 hl hn he
 have h2':aq g (.v (.slice (some ⟨b,0,none⟩) xs.length c)::args) vs.toList:=by
  obtain⟨u,us',e,r1,r2⟩:=h2.cF;rw[e];refine aq.cons ?_ r2
  cases r1 with
  |acc _ _ o' c' ha=>
   rw[hv]at ha;cases ha;exact .v _ rfl
 refine(h b c hbn hc1 hc2 g vs w hR h2').mono ?_;rintro e w' ⟨r,g',d,S',rfl,hle,hR',hd,b',c',ds,ys,B,hK,rfl,hb',hacc,rfl,hsub,he',hds,hdl,hc3,hc4⟩;obtain⟨m,g2,hle2,hm1,hm2,hR2,hA⟩:=hR'.Wi hb' hs he' hds hdl hc3 hc4 S.acc;have hrv:=aD hd;subst hrv;refine⟨_,g2,_,⟨S.box,tm S.acc l (m,.arr s ys)⟩,rfl,hle.trans hle2,?_,hA,ys,⟨m,dG hm2⟩,hK,rfl,rfl⟩;rw[hacc]at hR2;have hR3:=hR2.forget (S':=⟨S.box,(m,.arr s ys)::del S.acc l⟩) hsub (ad5 _);exact(⟨.refl _,(CM h1.na hl).symm⟩:Y.yT ⟨S.box,(m,.arr s ys)::del S.acc l⟩ ⟨S.box,tm S.acc l (m,.arr s ys)⟩).rel hR3
end
end Aml
namespace Aml
open Go Go.RowKit
def zC(a b:ByteArray):Int:=if Op.bytesLess a.data.toList b.data.toList=true then -1 else if Op.bytesLess b.data.toList a.data.toList=true then 1 else 0
theorem Ah:∀x y:List UInt8,Lib.compareBytes x y=if Op.bytesLess x y=true then -1 else if Op.bytesLess y x=true then 1 else 0
 |[],[]=>rfl
 |[],_::_=>rfl
 |_::_,[]=>rfl
 |x::a,y::b=>by
  unfold Lib.compareBytes Op.bytesLess;by_cases h1:x<y
  ·simp[h1]
  ·by_cases h2:y<x
   ·have:(x==y)=false:=by
     rw[beq_eq_false_iff_ne];rintro rfl;exact h1 h2
    simp[h1,h2,this]
   ·have:x=y:=by
     have:=UInt8.le_antisymm (UInt8.not_lt.1 h2) (UInt8.not_lt.1 h1);exact this
    subst this;simp[h1,Ah a b]
section
variable {P:Program} {w0:W0}
theorem Z0{f:FuncId}{fn:Func}(hf:P.funcs[f]? =some fn)(hname:(fn.name== "runtime.NumGoroutine")=false)(hb:fn.body.isNone=true)(hn:Extern.findNext fn=none)(he:Extern.find fn=some Extern.BytealgCompare.compare)
 (a b:ByteArray) (S:St) {K:DV→St→Prop} (hk:K (.v (.int .i64 (zC a b))) S):@XC P w0 f [.v (.string a),.v (.string b)] S ⟨K⟩:=by
 intro g w us h r;obtain⟨u1,us1,rfl,r1,r⟩:=r.cF;obtain⟨u2,us2,rfl,r2,r⟩:=r.cF;have:us2=[]:=aa4 r.len.symm;subst this;cases r1;cases r2;refine⟨.int .i64 (zC a b),w,g,_,S,?_,.refl g,h,.v _ rfl,hk⟩;rw[run_callFunc_extern hf hname hb hn he];have:=Lib.run_compareString (P:=P) a b w;rw[Ah]at this;unfold zC;rw[show [Value.string a,Value.string b].toArray= #[.string a,.string b]from rfl,this];rfl
theorem XL{f:FuncId}{fn:Func}(hf:P.funcs[f]? =some fn)(hname:(fn.name== "runtime.NumGoroutine")=false)(hb:fn.body.isNone=true)(hn:Extern.findNext fn=none){t tb e:TypeId}(he:Extern.find fn=some (Extern.SlicesOverlaps.overlaps #[t,t] #[tb]))
 (ht:P.underlying t=some (.slice e)) {size:Nat} (hz:∀w,(Go.sizeOf e).run P w= .ok size w) {s:Nat} (hs:0<s) (fl:Bool) (xs:List DV) {b:Nat} {ds:List DV} {S:St} (hbx:lk S.box b=some ds) (o n c:Nat) {K:DV→St→Prop} (hk:K (.v (.bool false)) S):
 @XC P w0 f [.sl s fl xs,.v (.slice (some ⟨b,o,none⟩) n c)] S ⟨K⟩:=by
 intro g w us h r;obtain⟨u1,us1,rfl,r1,r⟩:=r.cF;obtain⟨u2,us2,rfl,r2,r⟩:=r.cF;have:us2=[]:=aa4 r.len.symm;subst this;cases r2;refine⟨.bool false,w,g,_,S,?_,.refl g,h,.v _ rfl,hk⟩;rw[run_callFunc_extern hf hname hb hn he];obtain⟨ow,ho⟩:=h.open_;obtain⟨_,_,hnone,cs,te,hcs,_,_⟩:=ho.box b ds (cP hbx)
 suffices hrun:(Extern.SlicesOverlaps.overlaps #[t,t] #[tb] #[u1,.slice (some ⟨b,o,none⟩) n c]).run P w= .ok (.bool false) w by
  rw[show [u1,Value.slice (some ⟨b,o,none⟩) n c].toArray= #[u1,.slice (some ⟨b,o,none⟩) n c]from rfl,hrun];rfl
 rcases ju r1 with⟨he,o',c',hv',_⟩|⟨b',o',c',us,hv',hr,hfl,hlc,hcm,hzz,hone,hc⟩
 ·rw[hv']
  cases o' with
  |none=>
   change Sem.run P (α:=Value) (do
    let some t:=(#[t,t]:Array TypeId)[0]? |stuck "slices.overlaps: no parameter types"
    let .slice elem ←underlying t|stuck "slices.overlaps: slice type expected"
    let size ←sizeOf elem
    pure (Value.bool false)) w=_
   simp[run_underlying ht,hz]
  |some a=>
   change Sem.run P (α:=Value) (do
    let some t:=(#[t,t]:Array TypeId)[0]? |stuck "slices.overlaps: no parameter types"
    let .slice elem ←underlying t|stuck "slices.overlaps: slice type expected"
    let size ←sizeOf elem
    match(some a:Option Addr),(some ⟨b,o,none⟩:Option Addr)with
    |some a,some b=>
     if 0=0∨n=0∨size=0 then pure (Value.bool false)
     else if a.block !=b.block&&(←frozen a)&&(←frozen b)then unsupported .addressObserved
     else do
      if a.block !=b.block then do
       noView a;noView b
       if←mayBeOne a b then return Value.bool ((←choose (.extern "sameAddr.stringBytes" 2))==1)
      pure (Value.bool (a.block==b.block&&a.off<b.off+n*size&&b.off<a.off+0*size))
    |_,_=>pure (Value.bool false)) w=_
   simp[run_underlying ht,hz]
 ·rw[hv']
  change Sem.run P (α:=Value) (do
   let some t:=(#[t,t]:Array TypeId)[0]? |stuck "slices.overlaps: no parameter types"
   let .slice elem ←underlying t|stuck "slices.overlaps: slice type expected"
   let size ←sizeOf elem
   match(some ⟨b',o',none⟩:Option Addr),(some ⟨b,o,none⟩:Option Addr)with
   |some a,some b=>
    if xs.length=0∨n=0∨size=0 then pure (Value.bool false)
    else if a.block !=b.block&&(←frozen a)&&(←frozen b)then unsupported .addressObserved
    else do
     if a.block !=b.block then do
      noView a;noView b
      if←mayBeOne a b then return Value.bool ((←choose (.extern "sameAddr.stringBytes" 2))==1)
     pure (Value.bool (a.block==b.block&&a.off<b.off+n*size&&b.off<a.off+xs.length*size))
   |_,_=>pure (Value.bool false)) w=_
  by_cases h0:xs.length=0∨n=0∨size=0
  ·rcases h0 with h0|h0|h0
   ·have h0:=aa4 h0;simp[run_underlying ht,hz,h0]
   ·simp[run_underlying ht,hz,h0]
   ·simp[run_underlying ht,hz,h0]
  ·have hu:0<us.length:=by have:=hr.len;omega
   have h1:¬xs=[]:=fun e=>h0 (.inl (by rw[e];rfl));have h2:¬n=0:=fun e=>h0 (.inr (.inl e));have h3:¬size=0:=fun e=>h0 (.inr (.inr e));have hsz:=hzz 0 us[0] (aay hu);have himm:=hc 0 us[0] 0 (us[0].cells[0]'(by omega)) (aay hu) (aeL (by omega));have hne:b'≠b:=by rintro rfl;rw[hnone]at himm;cases himm
   have hcell:=ho.cu _ _ _ himm;have hbl:w.heap[b]? =some (.cells cs te (0,0)):=hcs;have hfb:∀i,w.frozen? ⟨b,i,none⟩=false:=fun i=>by simp[World.frozen?,hbl]
   have hsb:w.shape? b=some (te,cs.size):=by simp[World.shape?,hbl]
   obtain⟨ta,ka,hsa⟩:∃ta ka,w.shape? b'=some (ta,ka+1):=by
    unfold World.cell? at hcell;unfold World.shape?;split at hcell
    ·rename_i cc tt ff e1;simp only[afr,adP,if_false]at hcell
     have:0<cc.size:=by
      have:=(abF.1 hcell).1;omega
     simp only at e1;rw[e1];exact⟨tt,cc.size-1,by simp only[adO,aei,true_and];omega⟩
    ·cases hcell
   have hnb:(b' !=b)=true:=by simpa using hne
   have hnb':(b'==b)=false:=by simpa using hne
   have hfb1:=hfb o;have hfb2:=hfb cs.size
   cases hfa:w.frozen? ⟨b',o',none⟩ <;>cases hfe:w.frozen? ⟨b',ka+1,none⟩ <;>
    simp[run_underlying ht,hz,h1,h2,h3,hne,hnb,hnb',frozen,noView,viewAt,mayBeOne,stringish,shape,Sem.run,hsa,hsb,hfa,hfe,hfb1,hfb2]
end
end Aml
namespace Aml
open Go Go.RowKit
section
variable {P:Program} {F:Fence} {n:Nat} {Q:Exit→Act→World→Prop} {a:Act} {w:World} {b:Frame} {k:List Item} {cs:List Frame}
end
section
variable {P:Program} {w0:W0}
end
end Aml
namespace Go.Proofs.YtpjenciplibdnaaGreatDoor
open Aml Go
structure E8 where
 key:ByteArray
 data:ByteArray
 wm:Bool
 size:Int
 aj:Int
@[go_sem] def mV (e:E8):DV:= .agg [dS e.key,dS e.data,dB e.wm,dI e.size,dI e.aj]
def cj(b:Bool)(e:E8):ByteArray:=
 iZ e.key++(if b then(if e.wm then((⟨#[1]⟩:ByteArray)++bq 2 (IntKind.u64.wrap e.size))++bq 2 (IntKind.u64.wrap e.aj)else(⟨#[0]⟩:ByteArray)++e.data)else bq 2 (IntKind.u64.wrap e.aj))
theorem pq(b:Bool)(e:E8):(cj b e).size=1+e.key.size+(if b then(if e.wm then 5 else 1+e.data.size)else 2):=by
 unfold cj;rw[adJ,iA];have h0:(⟨#[0]⟩:ByteArray).size=1:=rfl;have h1:(⟨#[1]⟩:ByteArray).size=1:=rfl;split
 ·split
  ·rw[adJ,adJ,az,az,h1]
  ·rw[adJ,h0]
 ·rw[az]
def HE(b:Bool)(e:E8):Prop:=e.key.size≤16∧(if b then(if e.wm then e.data=aN∧16<e.size∧e.size≤400∧2≤e.aj∧e.aj≤999 else e.data.size≤16∧e.size=0∧e.aj=0)else e.data=aN∧e.wm=false∧e.size=0∧2≤e.aj∧e.aj≤999)
theorem MM(w0:W0)(b:Bool)(l:List E8)(S:St)(hl:l.length≤1048576)(hk:∀e,e∈l→e.key.size≤255∧e.data.size≤1048576):ab Tryz.prog w0 235 [.agg [dB b,.sl 5 false (l.map mV)]] S (fun d S'=>d= .sl 1 false ((l.map (cj b)).map dS)∧S'=S):=by
 refine aJ [2] mx Tryz.func235 rfl rfl (by kernel_rfl) ?_;refine @aa _ (ai @Tryz.ntmps235 ?_);intro b1;refine fH 3 1 rfl (by omega) fun lp=>?_;refine eI [] [] mx (by kernel_rfl) ?_;refine @aa _ (af ?_);refine aw [] l.length [1,3,4] (fun k=>[(3,.acc lp.n k),(4,dI k)]) (fun k=>⟨(b1.n,[dB b,.sl 5 false (l.map mV)])::S.box,(lp.n,.arr 1 (((l.take k).map (cj b)).map dS))::S.acc⟩) (fun _=>True) mx (by kernel_rfl) ?_ ?_
 ·exact @aa _ aF
 ·intro k hk' _;have hml:(l.take k).length=k:=by rw[aaE];omega
  refine @aa _ (ai @hml ?_);refine⟨fun hlt=>⟨hlt,fun a ha b2=>⟨hlt,fun a2 ha2=>?_⟩⟩,fun hge=>?_⟩
  ·cases aC ha ha2;obtain⟨q1,q2⟩:=hk a (aap ha);refine ae (XZ w0 _ _ q1) ?_;have ht1:l.take (k+1)=l.take k++[a]:=by rw[abZ,ha];rfl
   have hts:=iA a.key;have hcs:cj b a=iZ a.key++(if b then(if a.wm then((⟨#[1]⟩:ByteArray)++bq 2 (IntKind.u64.wrap a.size))++bq 2 (IntKind.u64.wrap a.aj)else(⟨#[0]⟩:ByteArray)++a.data)else bq 2 (IntKind.u64.wrap a.aj)):=rfl;have hn2:=fun x=>az 2 x;have e0:(⟨#[0]⟩:ByteArray).size=1:=rfl;have e1:(⟨#[1]⟩:ByteArray).size=1:=rfl;rw[ht1];have hm8:maxLen=9223372036854775807:=rfl
   cases b with
   |false=>
    refine @aa _ (ai @hts ?_);have hcS:cj false a=iZ a.key++bq 2 (IntKind.u64.wrap a.aj):=rfl;refine ae (pA w0 _ 2 _ (by omega) (by omega)) ?_;simp(maxDischargeDepth:=12) (maxSteps:=1000000) -implicitDefEqProofs only[go_sem,Nat.reduceAdd,Nat.reduceSub,Nat.reduceMul,Nat.reduceLeDiff,Nat.reduceEqDiff,Nat.reduceGT,Nat.reduceBEq,reduceCtorEq,↓reduceIte,Int.reduceToNat,Int.reduceLE,Int.reduceLT,Int.reduceNe,Int.reduceEq,hts,hn2,hcS,hml,aa1,aa9,adT];exact⟨by omega,by omega,by omega,hlt,by rw[aG (by omega) (by omega)];rfl⟩
   |true=>
    cases hf:a.wm with
    |false=>
     have hcS:cj true a=iZ a.key++((⟨#[0]⟩:ByteArray)++a.data):=by unfold cj;rw[hf];rfl
     simp(maxDischargeDepth:=12) (maxSteps:=1000000) -implicitDefEqProofs only[go_sem,Nat.reduceAdd,Nat.reduceSub,Nat.reduceMul,Nat.reduceLeDiff,Nat.reduceEqDiff,Nat.reduceGT,Nat.reduceBEq,reduceCtorEq,↓reduceIte,Int.reduceToNat,Int.reduceLE,Int.reduceLT,Int.reduceNe,Int.reduceEq,hts,e0,hf,hcS,hml,aa1,aa9,adT,adJ];exact⟨by omega,by omega,by omega,by omega,hlt,by rw[aG (by omega) (by omega)];rfl⟩
    |true=>
     have hcS:cj true a=iZ a.key++(((⟨#[1]⟩:ByteArray)++bq 2 (IntKind.u64.wrap a.size))++bq 2 (IntKind.u64.wrap a.aj)):=by unfold cj;rw[hf];rfl
     refine @aa _ (aM @hts @hf ?_);refine aK (pA w0 _ 2 _ (by omega) (by omega)) ?_;refine @aa _ (eE @e1 @hn2 @adJ ?_);refine aK (pA w0 _ 2 _ (by omega) (by omega)) ?_;simp(maxDischargeDepth:=12) (maxSteps:=1000000) -implicitDefEqProofs only[go_sem,Nat.reduceAdd,Nat.reduceSub,Nat.reduceMul,Nat.reduceLeDiff,Nat.reduceEqDiff,Nat.reduceGT,Nat.reduceBEq,reduceCtorEq,↓reduceIte,Int.reduceToNat,Int.reduceLE,Int.reduceLT,Int.reduceNe,Int.reduceEq,hts,e1,hn2,hf,hcS,hml,aa1,aa9,adT,adJ];exact⟨by omega,by omega,by omega,hlt,by rw[aG (by omega) (by omega)];rfl⟩
  ·rw[aaA (by omega)];exact .refl _
def Gs(e:E8):Bool:=if e.wm then eF e.data aN&&decide (16<e.size)&&decide (e.size≤400)&&decide (2≤e.aj)&&decide (e.aj≤999)else decide (e.data.size≤16)&&decide (e.size=0)&&decide (e.aj=0)
theorem Ym(w0:W0)(e:E8)(S:St):ab Tryz.prog w0 256 [.agg [dS e.data,dB e.wm,dI e.size,dI e.aj]] S (fun d S'=>d=dB (Gs e)∧S'=S):=by
 refine aJ [] mx Tryz.func256 rfl rfl (by kernel_rfl) ?_;refine @aa _ (ai @Tryz.ntmps256 ?_);intro b;unfold Gs;have en:aN=(⟨#[]⟩:ByteArray):=rfl;refine⟨fun hf=>?_,fun hf=>?_⟩
 ·rw[hf,en];simp only[if_true,ge_iff_le,gt_iff_lt];refine⟨fun h1=>⟨fun h2=>⟨fun h3=>⟨fun h4=>?_,fun h4=>?_⟩,fun h3=>?_⟩,fun h2=>?_⟩,fun h1=>?_⟩
  ·rw[h1,decide_eq_true h2,decide_eq_true h3,decide_eq_true h4];rfl
  ·rw[decide_eq_false h4];simp
  ·rw[decide_eq_false h3];simp
  ·rw[decide_eq_false h2];simp
  ·rw[h1];rfl
 ·rw[hf];simp only[adP,if_false];refine⟨fun h1=>⟨fun h2=>?_,fun h2=>?_⟩,fun h1=>?_⟩
  ·rw[decide_eq_true (show e.data.size≤16 by omega),decide_eq_true h2];rfl
  ·rw[decide_eq_false h2];simp
  ·rw[decide_eq_false (show¬e.data.size≤16 by omega)];rfl
theorem Pu{e:E8}(h:HE true e):Gs e=true:=by
 have h:=h.2;simp only[if_true]at h;unfold Gs;split
 ·rename_i hf;rw[if_pos hf]at h;rw[bZ.2 h.1,decide_eq_true h.2.1,decide_eq_true h.2.2.1,decide_eq_true h.2.2.2.1,decide_eq_true h.2.2.2.2];rfl
 ·rename_i hf;rw[if_neg hf]at h;rw[decide_eq_true h.1,decide_eq_true h.2.1,decide_eq_true h.2.2];rfl
theorem Pw(w0:W0)(b:Bool)(l:List E8)(S:St)(hl:l.length≤1048576)(hk:∀e,e∈l→HE b e)(hr:l.Pairwise fun x y=>cC x.key y.key=true)(h0:∀(i:Nat) e,l[i]? =some e→(e.key=aN↔i=0∧b=false))(hs:ct (l.map (cj b))≤122)(h1:1<l.length∨(b=true∧l.length=1)):
 ab Tryz.prog w0 234 [.agg [dB b,.sl 5 false (l.map mV)]] S (fun d S'=>d=dB true∧S'=S):=by
 have hcl:=fun S=>MM w0 b l S hl fun e he=>⟨by have:=(hk e he).1;omega,by
  have h:=(hk e he).2;split at h
  ·split at h
   ·rw[h.1,bk];omega
   ·have:=h.1;omega
  ·rw[h.1,bk];omega⟩
 have hfi:=fun e S=>Ym w0 e S
 cases b with
 |true=>
  refine aJ [6,7,10] mx Tryz.func234 rfl rfl (by kernel_rfl) ?_;refine @aa _ (ai @Tryz.ntmps234 ?_);intro b1;refine aw [6,7,10] l.length [1,3] (fun k=>[(3,dI k)]) (fun k=>⟨(b1.n,[dB true,.sl 5 false (l.map mV)])::S.box,S.acc⟩) (fun _=>True) mx (by kernel_rfl) ?_ ?_
  ·exact @aa _ aF
  ·intro k hk' _;refine @aa _ (af ?_);refine⟨fun hlt=>⟨hlt,fun a ha=>⟨hlt,fun a0 ha0 b2=>?_⟩⟩,fun hge=>ae (hcl _) ?_⟩
   ·cases aC ha ha0;have hm:=aap ha;have hok:=hk a hm;have f2:((a.key.size:Int)>16)=False:=eq_false (by have:=hok.1;omega);have f5:IntKind.i64.wrap ((k:Int)+1)=((k+1:Nat):Int):=by rw[aG (by omega) (by omega)];rfl
    refine rB (σ:=Unit) [7,10] [1,3,4,5,6] (fun _=>[(6,dB false)]) (fun _=>⟨(b2.n,[dS a.data,dB a.wm,dI a.size,dI a.aj])::(b1.n,[dB true,.sl 5 false (l.map mV)])::S.box,S.acc⟩) (fun _=>True) mx (by kernel_rfl) ?_ ?_
    ·refine @aa _ (af ?_);exact⟨(),trivial⟩
    ·intro _ _;refine @aa _ (af ?_);refine rB (σ:=Unit) [10] [1,3,4,5,6,66] (fun _=>[(66,dB false)]) (fun _=>⟨(b2.n,[dS a.data,dB a.wm,dI a.size,dI a.aj])::(b1.n,[dB true,.sl 5 false (l.map mV)])::S.box,S.acc⟩) (fun _=>True) mx (by kernel_rfl) ?_ ?_
     ·rcases aeG k with z0|z0
      ·have z2:((k:Int)>0)=False:=eq_false (by omega);have f1:eF a.key {data:= #[]}=false:=bF.2 fun e=>(by have:=((h0 k a ha).1 e).2;cases this);refine @aa _ (sL @f1 @f2 @z2 @hlt ?_);exact⟨(),trivial⟩
      ·have z2:((k:Int)>0)=True:=eq_true (by omega);have z3:IntKind.i64.wrap ((k:Int)-1)=((k-1:Nat):Int):=by rw[aG (by omega) (by omega)];omega
       obtain⟨c0,hc0⟩:∃c0,l[k-1]? =some c0:=⟨_,aay (by omega)⟩;have z4:kL a.key c0.key=false:=iy.2 (by obtain⟨u1,rfl⟩:=aaq.1 hc0;obtain⟨u2,rfl⟩:=aaq.1 ha;exact adQ.1 hr _ _ u1 u2 (by omega));have f1:eF a.key {data:= #[]}=false:=bF.2 fun e=>absurd ((h0 k a ha).1 e).1 (by omega);have z5:decide (k=0)=false:=decide_eq_false (by omega);refine @aa _ (ov @f1 @f2 @z2 @z3 @z5 @hlt ?_);refine⟨by omega,fun c1 hc1=>?_⟩;cases aC hc0 hc1;exact⟨(),z4⟩
     ·intro _ _;refine @aa _ (af ?_);refine ae (hfi a _) ?_;rw[Pu hok];refine @aa _ (af ?_);refine rB (σ:=Unit) [] [1,3,4,5,6,96] (fun _=>[(96,dB false)]) (fun _=>⟨(b2.n,[dS a.data,dB a.wm,dI a.size,dI a.aj])::(b1.n,[dB true,.sl 5 false (l.map mV)])::S.box,S.acc⟩) (fun _=>True) mx (by kernel_rfl) ?_ ?_
      ·refine @aa _ (af ?_);exact⟨(),trivial⟩
      ·intro _ _;refine @aa _ (af ?_);exact⟨hlt,f5⟩
   ·refine @aa _ (af ?_);refine ae (Wn w0 (l.map (cj true)) _ (by omega) (by rw[abv];exact hl)) ?_;refine @aa _ (af ?_);refine⟨fun _ hn=>?_,fun hn=>absurd hn (by omega)⟩;rcases h1 with h|h
    ·omega
    ·omega
 |false=>
  refine aJ [6,7,10] mx Tryz.func234 rfl rfl (by kernel_rfl) ?_;refine @aa _ (ai @Tryz.ntmps234 ?_);intro b1;refine aw [6,7,10] l.length [1,3] (fun k=>[(3,dI k)]) (fun k=>⟨(b1.n,[dB false,.sl 5 false (l.map mV)])::S.box,S.acc⟩) (fun _=>True) mx (by kernel_rfl) ?_ ?_
  ·exact @aa _ aF
  ·intro k hk' _;refine @aa _ (af ?_);refine⟨fun hlt=>⟨hlt,fun a ha=>⟨hlt,fun a0 ha0 b2=>?_⟩⟩,fun hge=>ae (hcl _) ?_⟩
   ·cases aC ha ha0;have hm:=aap ha;have hok:=hk a hm;have f2:((a.key.size:Int)>16)=False:=eq_false (by have:=hok.1;omega);have f5:IntKind.i64.wrap ((k:Int)+1)=((k+1:Nat):Int):=by rw[aG (by omega) (by omega)];rfl
    refine rB (σ:=Unit) [7,10] [1,3,4,5,6] (fun _=>[(6,dB (decide (k=0)))]) (fun _=>⟨(b2.n,[dS a.data,dB a.wm,dI a.size,dI a.aj])::(b1.n,[dB false,.sl 5 false (l.map mV)])::S.box,S.acc⟩) (fun _=>True) mx (by kernel_rfl) ?_ ?_
    ·refine @aa _ (af ?_);exact⟨(),by omega⟩
    ·intro _ _;refine @aa _ (af ?_);refine rB (σ:=Unit) [10] [1,3,4,5,6,66] (fun _=>[(66,dB false)]) (fun _=>⟨(b2.n,[dS a.data,dB a.wm,dI a.size,dI a.aj])::(b1.n,[dB false,.sl 5 false (l.map mV)])::S.box,S.acc⟩) (fun _=>True) mx (by kernel_rfl) ?_ ?_
     ·rcases aeG k with z0|z0
      ·have z2:((k:Int)>0)=False:=eq_false (by omega);have f1:eF a.key {data:= #[]}=true:=bZ.2 ((h0 k a ha).2 ⟨z0,rfl⟩);have z5:decide (k=0)=true:=decide_eq_true z0;refine @aa _ (rn @f1 @f2 @z2 @z5 @hlt ?_);exact⟨(),trivial⟩
      ·have z2:((k:Int)>0)=True:=eq_true (by omega);have z3:IntKind.i64.wrap ((k:Int)-1)=((k-1:Nat):Int):=by rw[aG (by omega) (by omega)];omega
       obtain⟨c0,hc0⟩:∃c0,l[k-1]? =some c0:=⟨_,aay (by omega)⟩;have z4:kL a.key c0.key=false:=iy.2 (by obtain⟨u1,rfl⟩:=aaq.1 hc0;obtain⟨u2,rfl⟩:=aaq.1 ha;exact adQ.1 hr _ _ u1 u2 (by omega));have f1:eF a.key {data:= #[]}=false:=bF.2 fun e=>absurd ((h0 k a ha).1 e).1 (by omega);have z5:decide (k=0)=false:=decide_eq_false (by omega);refine @aa _ (ov @f1 @f2 @z2 @z3 @z5 @hlt ?_);refine⟨by omega,fun c1 hc1=>?_⟩;cases aC hc0 hc1;exact⟨(),z4⟩
     ·intro _ _;refine @aa _ (af ?_);refine ae (hfi a _) ?_
      skip
      refine @aa _ (af ?_);refine rB (σ:=Unit) [] [1,3,4,5,6,96] (fun _=>[(96,dB false)]) (fun _=>⟨(b2.n,[dS a.data,dB a.wm,dI a.size,dI a.aj])::(b1.n,[dB false,.sl 5 false (l.map mV)])::S.box,S.acc⟩) (fun _=>True) mx (by kernel_rfl) ?_ ?_
      ·have hok2:=hok.2;simp only[adP,if_false]at hok2;refine @aa _ (af ?_);refine⟨fun h=>absurd h (by omega),fun _=>⟨fun h=>absurd h (by omega),fun _=>⟨(),?_⟩⟩⟩;rw[hok2.1,hok2.2.1,hok2.2.2.1];rfl
      ·intro _ _;refine @aa _ (af ?_);exact⟨hlt,f5⟩
   ·refine @aa _ (af ?_);refine ae (Wn w0 (l.map (cj false)) _ (by omega) (by rw[abv];exact hl)) ?_;refine @aa _ (af ?_);refine⟨fun _ hn=>?_,fun hn=>absurd hn (by omega)⟩;rcases h1 with h|h
    ·omega
    ·cases h.1
theorem Ss(w0:W0)(b:Bool)(l:List E8)(S:St)(hl:l.length≤1048576)(hk:∀e,e∈l→HE b e)(hr:l.Pairwise fun x y=>cC x.key y.key=true)(h0:∀(i:Nat) e,l[i]? =some e→(e.key=aN↔i=0∧b=false))(hs:ct (l.map (cj b))≤122)(h1:1<l.length∨(b=true∧l.length=1)):
 ab Tryz.prog w0 201 [.agg [dB b,.sl 5 false (l.map mV)]] S (fun d S'=>d= .bM [dS (fC (if b then 1 else 2) (l.map (cj b))),dI 0]∧S'=S):=by
 have hcl:=fun S=>MM w0 b l S hl fun e he=>⟨by have:=(hk e he).1;omega,by
  have h:=(hk e he).2;split at h
  ·split at h
   ·rw[h.1,bk];omega
   ·have:=h.1;omega
  ·rw[h.1,bk];omega⟩
 have hch:=fun S=>Pw w0 b l S hl hk hr h0 hs h1
 cases b with
 |true=>
  refine aJ [] mx Tryz.func201 rfl rfl (by kernel_rfl) ?_;refine @aa _ (ai @Tryz.ntmps201 ?_);intro b1;refine ae (hch _) ?_;refine @aa _ (af ?_);refine ae (hcl _) ?_;refine @aa _ (af ?_);refine ae (Ai w0 1 (l.map (cj true)) _ (by decide) hs) ?_;exact @aa _ aF
 |false=>
  refine aJ [] mx Tryz.func201 rfl rfl (by kernel_rfl) ?_;refine @aa _ (ai @Tryz.ntmps201 ?_);intro b1;refine ae (hch _) ?_;refine @aa _ (af ?_);refine ae (hcl _) ?_;refine @aa _ (af ?_);refine ae (Ai w0 2 (l.map (cj false)) _ (by decide) hs) ?_;exact @aa _ aF
def eO(z i:Nat):Nat:=min 119 (z-119*i)
def jm(v:ByteArray)(at_:List Int)(i:Nat):ByteArray:=bq 2 (IntKind.u64.wrap ((at_[i+1]?).getD 0))++v.extract (119*i) (119*i+eO v.size i)
def aQ(v:ByteArray)(at_:List Int):List ByteArray:=(List.range at_.length).map fun i=>fC 3 [jm v at_ i]
theorem aaY(w0:W0)(l:List Int)(x:Int)(S:St)(hl:l.length≤1048576):ab Tryz.prog w0 254 [dL l,dI x] S (fun d S'=>d=dB (decide (x∈l))∧S'=S):=by
 have f1:∀k,l[k]? =some x→decide (x∈l)=true:=fun k h=>decide_eq_true (aap h)
 have f2:(∀(j:Nat) a,l[j]? =some a→¬a=x)→decide (x∈l)=false:=fun h=>decide_eq_false fun hx=>by
  obtain⟨j,hj⟩:=adX.1 hx;exact h j x hj rfl
 generalize decide (x∈l)=R at*;refine aJ [] mx Tryz.func254 rfl rfl (by kernel_rfl) ?_;refine @aa _ (ai @Tryz.ntmps254 ?_);refine aw [] l.length [0,1,5] (fun k=>[(5,dI k)]) (fun _=>S) (fun k=>∀(j:Nat) a,j<k→l[j]? =some a→¬a=x) mx (by kernel_rfl) ?_ ?_
 ·refine @aa _ (af ?_);exact fun j a h=>absurd h (by omega)
 ·intro k hk hinv;refine @aa _ (af ?_);refine⟨fun hlt=>⟨hlt,fun a ha=>⟨fun he=>by subst he;rw[f1 k ha],fun he=>⟨hlt,fun j c hj hc=>?_,by rw[aG (by omega) (by omega)];rfl⟩⟩⟩,fun hge=>?_⟩
  ·rcases Nat.lt_succ_iff_lt_or_eq.1 hj with h|h
   ·exact hinv j c h hc
   ·subst h;cases aC ha hc;exact he
  ·rw[f2 fun j a ha=>hinv j a (by have:=(aaq.1 ha).1;omega) ha]
theorem YL(w0:W0)(z i:Nat)(S:St)(hz:z≤1048576)(hi:119*i<z):ab Tryz.prog w0 255 [dI z,dI i] S (fun d S'=>d=dI (eO z i)∧S'=S):=by
 have e1:IntKind.i64.wrap (119*(i:Int))=((119*i:Nat):Int):=by rw[aG (by omega) (by omega)];omega
 have e2:IntKind.i64.wrap ((z:Int)-((119*i:Nat):Int))=((z-119*i:Nat):Int):=by rw[aG (by omega) (by omega)];omega
 refine aJ [] mx Tryz.func255 rfl rfl (by kernel_rfl) ?_;refine @aa _ (ai @Tryz.ntmps255 ?_);rw[e1,e2];unfold eO;exact⟨fun h=>by omega,fun h=>by omega⟩
theorem nA{v:ByteArray}{at_:List Int}{i:Nat}(hi:119*i<v.size):(jm v at_ i).size=2+eO v.size i:=by
 unfold jm eO;rw[adJ,az,ByteArray.size_extract];omega
theorem Y6(w0:W0)(v:ByteArray)(at_:List Int)(S:St)(hv:v.size≤400)(hn:need (v.size:Int)=at_.length)(h0:at_≠[])(hr:∀x,x∈at_→2≤x∧x≤999)(hd:at_.Nodup):
 ab Tryz.prog w0 233 [dS v,dL at_] S (fun d S'=>d= .bM [.sl 1 false ((aQ v at_).map dS),dI 0]∧S'=S):=by
 have hpos:=ad9.2 h0
 have hneed:16<v.size∧119*(at_.length-1)<v.size∧at_.length≤4:=by
  unfold need at hn;split at hn
  ·omega
  ·omega
 have hcl:(aQ v at_).length=at_.length:=by unfold aQ;rw[abv,ae5]
 refine aJ [5,8] mx Tryz.func233 rfl rfl (by kernel_rfl) ?_;refine @aa _ (ai @Tryz.ntmps233 ?_);refine ae (sP w0 _ _) ?_;rw[hn];refine @aa _ (af ?_);refine⟨fun h=>absurd h (by omega),fun _=>?_⟩;refine fH 7 1 rfl (by omega) fun lp=>?_;refine eI [8] [] mx (by kernel_rfl) ?_;refine @aa _ (af ?_);refine aw [8] at_.length [0,1,6,7,8] (fun k=>[(7,.acc lp.n k),(8,dI k)]) (fun k=>⟨S.box,(lp.n,.arr 1 (((aQ v at_).take k).map dS))::S.acc⟩) (fun _=>True) mx (by kernel_rfl) ?_ ?_
 ·exact @aa _ aF
 ·intro k hk' _;have hml:((aQ v at_).take k).length=k:=by rw[aaE];omega
  refine @aa _ (ai @hml ?_);refine⟨fun hlt=>?_,fun hge=>?_⟩
  ·obtain⟨x,hx⟩:∃x,at_[k]? =some x:=⟨_,aay hlt⟩;have hxr:=hr x (aap hx);refine rB (σ:=Unit) [] [0,1,6,7,8,50] (fun _=>[(50,dB false)]) (fun _=>⟨S.box,(lp.n,.arr 1 (((aQ v at_).take k).map dS))::S.acc⟩) (fun _=>True) mx (by kernel_rfl) ?_ ?_
   ·refine @aa _ (ai @hml ?_);refine⟨hlt,fun a ha=>⟨fun h=>?_,fun _=>⟨hlt,fun a2 ha2=>⟨fun h=>?_,fun _=>⟨by omega,hlt,fun a3 ha3=>?_⟩⟩⟩⟩⟩
    ·cases aC hx ha;omega
    ·cases aC hx ha2;omega
    ·cases aC hx ha3
     have hno:decide (x∈at_.take k)=false:=decide_eq_false fun hm=>by
      obtain⟨j,hj⟩:=adX.1 hm;rw[adU]at hj;split at hj
      ·rename_i hjk;obtain⟨u1,e1⟩:=aaq.1 hj;obtain⟨u2,e2⟩:=aaq.1 hx;have:=(adQ.1 hd) j k u1 u2 hjk;exact this (e1.trans e2.symm)
      ·cases hj
     refine aK (aaY w0 (at_.take k) x _ (by rw[aaE];omega)) ?_;rw[hno];refine @aa _ (af ?_);exact⟨(),trivial⟩
   ·intro _ _;have e1:IntKind.i64.wrap ((k:Int)+1)=((k+1:Nat):Int):=by rw[aG (by omega) (by omega)];rfl
    have e2:IntKind.i64.wrap (119*(k:Int))=((119*k:Nat):Int):=by rw[aG (by omega) (by omega)];omega
    have hvk:119*k<v.size:=by omega
    have hpl:eO v.size k≤119∧119*k+eO v.size k≤v.size:=by unfold eO;omega
    have hs:(aQ v at_).take (k+1)=(aQ v at_).take k++[fC 3 [jm v at_ k]]:=by
     rw[abZ];unfold aQ;rw[acP,ae8 hlt];rfl
    have hcs:=nA (at_:=at_) hvk;have hsz:ct [jm v at_ k]≤122:=by simp only[ct,aa9,adT,adb,aeQ];omega
    have hpk:=fun S=>Ai w0 3 [jm v at_ k] S (by decide) hsz;have hpa:=fun S=>YL w0 v.size k S (by omega) hvk;have hc0:jm v at_ k=bq 2 (IntKind.u64.wrap ((at_[k+1]?).getD 0))++v.extract (119*k) (119*k+eO v.size k):=rfl;have hn2:=fun x=>az 2 x;rw[hs];generalize fC 3 [jm v at_ k]=PK at*;refine @aa _ (eE @hml @e1 @e2 ?_);have e3:IntKind.i64.wrap (((119*k:Nat):Int)+((eO v.size k:Nat):Int))=((119*k+eO v.size k:Nat):Int):=by rw[aG (by omega) (by omega)];omega
    have hes:(v.extract (119*k) (119*k+eO v.size k)).size=eO v.size k:=by rw[ByteArray.size_extract];omega
    refine⟨fun hlt2=>⟨hlt2,fun a ha=>?_⟩,fun hge2=>?_⟩
    ·rw[ha,afF]at hc0;refine ae (pA w0 _ 2 _ (by omega) (by omega)) ?_;refine @aa _ (ai @e2 ?_);refine ae (hpa _) ?_;refine @aa _ (ai @e2 ?_);rw[e3,adV,hn2,hes,←hc0];refine⟨by omega,by omega,by omega,ae (hpk _) ?_ ⟨.refl _,.full _ _ _,trivial⟩⟩;simp(maxDischargeDepth:=12) (maxSteps:=1000000) -implicitDefEqProofs only[go_sem,Nat.reduceAdd,Nat.reduceSub,Nat.reduceMul,Nat.reduceLeDiff,Nat.reduceEqDiff,Nat.reduceGT,Nat.reduceBEq,reduceCtorEq,↓reduceIte,Int.reduceToNat,Int.reduceLE,Int.reduceLT,Int.reduceNe,Int.reduceEq,hml,e1,aa1,aa9,adT];exact⟨by omega,by unfold maxLen;omega,hlt⟩
    ·rw[ad6 (by omega),Option.getD_none]at hc0;refine ae (pA w0 _ 2 _ (by omega) (by omega)) ?_;refine @aa _ (ai @e2 ?_);refine ae (hpa _) ?_;refine @aa _ (ai @e2 ?_);rw[e3,adV,hn2,hes,←hc0];refine⟨by omega,by omega,by omega,ae (hpk _) ?_ ⟨.refl _,.full _ _ _,trivial⟩⟩;simp(maxDischargeDepth:=12) (maxSteps:=1000000) -implicitDefEqProofs only[go_sem,Nat.reduceAdd,Nat.reduceSub,Nat.reduceMul,Nat.reduceLeDiff,Nat.reduceEqDiff,Nat.reduceGT,Nat.reduceBEq,reduceCtorEq,↓reduceIte,Int.reduceToNat,Int.reduceLE,Int.reduceLT,Int.reduceNe,Int.reduceEq,hml,e1,aa1,aa9,adT];exact⟨by omega,by unfold maxLen;omega,hlt⟩
  ·rw[aaA (by omega)];exact .refl _
@[go_sem] def su (w:Int×ByteArray):DV:= .agg [dI w.1,dS w.2]
def jE(S:St)(bs lw:Nat)(left:List Int)(ws:List (Int×ByteArray)):St:=⟨up S.box bs [.acc lw ws.length,.sl 1 false (left.map dI)],up S.acc lw (.arr 2 (ws.map su))⟩
structure wq(S:St)(bs lw:Nat)(left:List Int)(ws:List (Int×ByteArray)):Prop where
 box:lk S.box bs=some [.acc lw ws.length,.sl 1 false (left.map dI)]
 acc:lk S.acc lw=some (.arr 2 (ws.map su))
theorem bS{α:Type}{b:Nat}{x:α}:∀{l:List (Nat×α)},lk l b=some x→up l b x=l
 |[],h=>rfl
 |(k,y)::l,h=>by
  unfold lk at h;unfold up;split
  ·rename_i e;rw[if_pos e]at h;cases h;rw[e]
  ·rename_i e;rw[if_neg e]at h;rw[bS h]
theorem JO(w0:W0)(bs lw:Nat)(left:List Int)(ws:List (Int×ByteArray))(n:Nat)(S:St)(h:wq S bs lw left ws)(hn:n≤left.length)(hl:left.length≤1048576):
 ab Tryz.prog w0 200 [.v (.pointer (some ⟨bs,0,none⟩)),dI n] S (fun d S'=>d=dL (left.take n)∧S'=jE S bs lw (left.drop n) ws):=by
 have hb:=h.box;have ha:=h.acc;refine mU [] mx Tryz.func200 rfl rfl (by kernel_rfl) ?_;refine @aa _ (eE @Tryz.ntmps200 @hb @ha ?_);refine⟨hn,hn,?_⟩;unfold jE;rw[bS ha]
theorem C8(w0:W0)(bs lw:Nat)(left:List Int)(ws:List (Int×ByteArray))(p:Int)(b:ByteArray)(S:St)(h:wq S bs lw left ws)(hl:ws.length≤1048576):
 ab Tryz.prog w0 202 [.v (.pointer (some ⟨bs,0,none⟩)),dI p,dS b] S (fun d S'=>S'=jE S bs lw left (ws++[(p,b)])):=by
 have hb:=h.box;have ha:=h.acc;refine mU [] mx Tryz.func202 rfl rfl (by kernel_rfl) ?_;refine @aa _ (eE @Tryz.ntmps202 @hb @ha ?_);refine⟨by omega,by unfold maxLen;omega,?_⟩;unfold jE;rw[c9,aa1];rfl
abbrev LS:=List Int×List (Int×ByteArray)
def dE(d:ByteArray)(ps:List Int)(q:LS):List Int×LS:=
 if need (d.size:Int)=0∨ps≠[]then(ps,q)else(q.1.take (need (d.size:Int)),(q.1.drop (need (d.size:Int)),q.2++(q.1.take (need (d.size:Int))).zip (aQ d (q.1.take (need (d.size:Int))))))
theorem rP{S:St}{bs lw:Nat}{left:List Int}{ws:List (Int×ByteArray)}(h:wq S bs lw left ws):jE S bs lw left ws=S:=by
 unfold jE;rw[bS h.box,bS h.acc]
def cM(b:Bool)(c:C):E8:=if b then(if c.an=[]then⟨c.key,c.data,false,0,0⟩else⟨c.key,aN,true,c.data.size,c.an.headD 0⟩)else⟨c.key,aN,false,0,(aB c).aj⟩
theorem GO(w0:W0)(b:Bool)(c:C)(S:St)(h:b=false→∃k,c.kid=[k]):ab Tryz.prog w0 199 [dB b,dC c] S (fun d S'=>d=mV (cM b c)∧S'=S):=by
 cases b with
 |false=>
  obtain⟨k,hk⟩:=h rfl;have e:cM false c=⟨c.key,aN,false,0,k.aj⟩:=by unfold cM;rw[aO hk];rfl
  rw[e,BM];refine aJ [] mx Tryz.func199 rfl rfl (by kernel_rfl) ?_;refine @aa _ (aM @Tryz.ntmps199 @hk ?_);intro b1 b2 b3;exact .refl _
 |true=>
  rw[BM];refine aJ [] mx Tryz.func199 rfl rfl (by kernel_rfl) ?_;refine @aa _ (ai @Tryz.ntmps199 ?_);intro b1 b2 b3;refine⟨fun hp=>?_,fun hp=>?_⟩
  ·refine⟨by omega,fun a ha=>?_⟩
   have e:cM true c=⟨c.key,aN,true,c.data.size,a⟩:=by
    unfold cM
    cases hps:c.an with
    |nil=>rw[hps]at ha;cases ha
    |cons x r=>rw[hps]at ha;cases ha;rfl
   rw[e];exact .refl _
  ·have e:cM true c=⟨c.key,c.data,false,0,0⟩:=by
    unfold cM;rw[if_pos rfl,if_pos (aa4 (by omega))]
   rw[e];exact .refl _
theorem Lr(w0:W0)(bs lw:Nat)(d:ByteArray)(ps:List Int)(q:LS)(S:St)(h:wq S bs lw q.1 q.2)(hd:d.size≤400)(hp:ps.length≤1048576)(hq:q.1.length≤65536)(hw:q.2.length≤65536)(hn:need (d.size:Int)≤q.1.length∨ps≠[])(hr:∀x,x∈q.1→2≤x∧x≤999)(hu:q.1.Nodup):
 ab Tryz.prog w0 198 [.v (.pointer (some ⟨bs,0,none⟩)),.agg [dS d,dL ps]] S (fun e S'=>e= .agg [dS d,dL (dE d ps q).1]∧S'=jE S bs lw (dE d ps q).2.1 (dE d ps q).2.2):=by
 obtain⟨left,ws⟩:=q;simp only at h hq hw hn hr hu;have hb:=h.box;have ha:=h.acc;have q1:need (d.size:Int)=0→dE d ps (left,ws)=(ps,(left,ws)):=fun e=>by unfold dE;rw[if_pos (.inl e)]
 have q2:ps≠[]→dE d ps (left,ws)=(ps,(left,ws)):=fun e=>by unfold dE;rw[if_pos (.inr e)]
 have q3:need (d.size:Int)≠0→ps=[]→dE d ps (left,ws)=(left.take (need (d.size:Int)),(left.drop (need (d.size:Int)),ws++(left.take (need (d.size:Int))).zip (aQ d (left.take (need (d.size:Int)))))):=fun e f=>by unfold dE;rw[if_neg (by simp[e,f])]
 generalize dE d ps (left,ws)=R at*;refine rz [5,9] mx Tryz.func198 rfl rfl (by kernel_rfl) ?_;refine @aa _ (ai @Tryz.ntmps198 ?_);intro b b1;refine ae (sP w0 _ _) ?_;have fin:∀B:List (Nat×List DV),Aml.Sub (jE S bs lw left ws) ⟨S.box,S.acc⟩:=fun _=>by rw[rP h];exact .refl _
 refine @aa _ (af ?_);refine⟨fun hz=>?_,fun hz=>⟨fun hp0=>?_,fun hp0=>?_⟩⟩
 ·rw[q1 (by omega)];refine⟨_,_,.refl _,?_,rfl,rfl⟩;rw[rP h];exact⟨(acy _ _).trans (acy _ _),ad5 _⟩
 ·rw[q2 fun e=>by rw[e]at hp0;simp at hp0];refine⟨_,_,.refl _,?_,rfl,rfl⟩;rw[rP h];exact⟨(acy _ _).trans (acy _ _),ad5 _⟩
 ·have hps:ps=[]:=aa4 (by omega);have hne:need (d.size:Int)≤left.length:=hn.resolve_right fun e=>e hps;rw[q3 (by omega) hps];have hI:wq (⟨(b1.n,[dS ByteArray.empty,.sl 0 true []])::(b.n,[dS d,.sl 1 false (ps.map dI)])::S.box,S.acc⟩:St) bs lw left ws:=⟨by exact @aa _ (jd @hb),ha⟩;refine bC (JO w0 bs lw left ws (need (d.size:Int)) _ hI hne (by omega)) ?_;rintro e S' ⟨rfl,rfl⟩;have hTl:(left.take (need (d.size:Int))).length=need (d.size:Int):=by rw[aaE];omega
  have hT0:left.take (need (d.size:Int))≠[]:=fun e=>by rw[e]at hTl;simp at hTl;omega
  have hTr:∀x,x∈left.take (need (d.size:Int))→2≤x∧x≤999:=fun x hx=>hr x (ac5 hx);have hTu:(left.take (need (d.size:Int))).Nodup:=hu.sublist (List.take_sublist _ _);have hput:=fun S=>Y6 w0 d (left.take (need (d.size:Int))) S hd hTl.symm hT0 hTr hTu;have hcl:(aQ d (left.take (need (d.size:Int)))).length=(left.take (need (d.size:Int))).length:=by unfold aQ;rw[abv,ae5]
  have hnl:=qj (d.size:Int);simp(maxDischargeDepth:=12) (maxSteps:=1000000) -implicitDefEqProofs only[go_sem,Nat.reduceAdd,Nat.reduceSub,Nat.reduceMul,Nat.reduceLeDiff,Nat.reduceEqDiff,Nat.reduceGT,Nat.reduceBEq,reduceCtorEq,↓reduceIte,Int.reduceToNat,Int.reduceLE,Int.reduceLT,Int.reduceNe,Int.reduceEq,jE,hb];generalize left.take (need (d.size:Int))=T at*;generalize left.drop (need (d.size:Int))=L at*;generalize need (d.size:Int)=nd at*;generalize hC:aQ d T=Ch at*;refine eI [9] [] mx (by kernel_rfl) ?_;refine @aa _ (ai @hb ?_);refine ae (hput _) ?_;refine @aa _ (ai @hb ?_);refine aw [9] T.length [0,3,4,6,7,9] (fun k=>[(9,dI k)]) (fun k=>⟨(b1.n,[dS ByteArray.empty,.sl 0 true []])::(b.n,[dS d,.sl 1 false (ps.map dI)])::up S.box bs [.acc lw (ws.length+k),.sl 1 false (L.map dI)],up S.acc lw (.arr 2 ((ws++(T.zip Ch).take k).map su))⟩) (fun _=>True) mx (by kernel_rfl) ?_ ?_
  ·refine @aa _ (af ?_);exact .refl _
  ·intro k hk' _;refine @aa _ (ai @hb ?_);refine⟨fun hlt=>?_,fun hge=>?_⟩
   ·refine Y.j4 [] [9] [0,1,2,3,5,6,7,4,8,9] mx (by kernel_rfl) ?_;refine @aa _ (ai @hb ?_);refine⟨by omega,fun x hx=>⟨hlt,fun c hc=>?_⟩⟩;have hzk:(T.zip Ch)[k]? =some (x,c):=afC.2 ⟨hx,hc⟩;have hzl:((T.zip Ch).take k).length=k:=by rw[aaE,aeU];omega
    have hz1:(T.zip Ch).take (k+1)=(T.zip Ch).take k++[(x,c)]:=by rw[abZ,hzk];rfl
    have hwl:(ws++(T.zip Ch).take k).length=ws.length+k:=by rw[c9,hzl]
    have hI2:wq (⟨(b1.n,[dS ByteArray.empty,.sl 0 true []])::(b.n,[dS d,.sl 1 false (ps.map dI)])::up S.box bs [.acc lw (ws.length+k),.sl 1 false (L.map dI)],up S.acc lw (.arr 2 ((ws++(T.zip Ch).take k).map su))⟩:St) bs lw L (ws++(T.zip Ch).take k):=⟨by
     have e:lk (up S.box bs [.acc lw (ws.length+k),.sl 1 false (L.map dI)]) bs=some [.acc lw (ws++(T.zip Ch).take k).length,.sl 1 false (L.map dI)]:=by rw[av,hb,hwl];rfl
     exact @aa _ (iX @hb @e),by show lk (up S.acc lw _) lw=_;rw[av,ha];rfl⟩
    have hwr:=C8 w0 bs lw L (ws++(T.zip Ch).take k) x c _ hI2 (by omega);have hwl2:(ws++(T.zip Ch).take k++[(x,c)]).length=ws.length+(k+1):=by rw[c9,hwl];rfl
    unfold jE at hwr;rw[hwl2]at hwr;rw[abA,←hz1]at hwr;refine bC hwr ?_;rintro e S' rfl;refine @aa _ (ai @hb ?_);exact⟨by omega,by rw[aG (by omega) (by omega)];rfl⟩
   ·have hkl:k=T.length:=by omega
    have hzt:(T.zip Ch).take k=T.zip Ch:=aaA (by rw[aeU];omega);rw[hzt];refine⟨_,_,.refl _,?_,rfl,rfl⟩;have hwl:(ws++T.zip Ch).length=ws.length+k:=by rw[c9,aeU];omega
    unfold jE;rw[hwl];exact⟨(acy _ _).trans (acy _ _),ad5 _⟩
theorem Od(w0:W0)(l:List Int)(S:St)(h:Bd l):ab Tryz.prog w0 216 [dL l] S (fun d S'=>d=dI l.sum∧S'=S):=by
 refine aJ [] mx Tryz.func216 rfl rfl (by kernel_rfl) ?_;refine @aa _ (ai @Tryz.ntmps216 ?_);refine aw [] l.length [3,6,7,8] (fun k=>[(3,dI (l.take k).sum),(8,dI k)]) (fun _=>S) (fun _=>True) mx (by kernel_rfl) ?_ ?_
 ·refine @aa _ (af ?_);rfl
 ·intro k hk _;have h0:=h.1;refine @aa _ (af ?_);refine⟨fun hlt=>⟨hlt,fun a ha=>⟨by omega,?_,?_⟩⟩,fun hge=>?_⟩
  ·have:=(h.take (k+1)).sum;rw[vn ha]at this ⊢;exact aG (by omega) (by omega)
  ·rw[aG (by omega) (by omega)];omega
  ·rw[aaA (by omega)]
theorem TI(w0:W0)(l:List Int)(S:St)(h:Bd l):ab Tryz.prog w0 174 [dL l] S (fun d S'=>d=dB (wK l)∧S'=S):=by
 refine aJ [] mx Tryz.func174 rfl rfl (by kernel_rfl) ?_;refine @aa _ (ai @Tryz.ntmps174 ?_);refine ae (Od w0 _ _ h) ?_;refine @aa _ (af ?_);rfl
theorem nbP(w0:W0)(m k:Int)(S:St)(h0:0≤m)(h1:m≤1048576)(h2:0≤k)(h3:k<m):ab Tryz.prog w0 175 [dI m,dI k] S (fun d S'=>d=dI (MN m k)∧S'=S):=by
 refine aJ [] mx Tryz.func175 rfl rfl (by kernel_rfl) ?_;refine @aa _ (ai @Tryz.ntmps175 ?_);unfold MN;rw[aG (n:=k+1) (by omega) (by omega),aG (n:=k-1) (by omega) (by omega)];exact⟨fun h=>by rw[if_pos h],fun h=>by rw[if_neg h]⟩
theorem aZ(i:Nat)(h:i<2^61):IntKind.i64.wrap ((i:Int)+1)=((i+1:Nat):Int):=by rw[aG (by omega) (by omega)];omega
def Vr(n:Nat):List Nat:=(List.range n).map (·+1)
theorem qk(n:Nat):Vr (n+1)=Vr n++[n+1]:=by simp[Vr,List.range_succ]
theorem D4(n:Nat):(Vr n).length=n:=by simp[Vr]
theorem JV:∀{j n:Nat},j≤n→Vr j <+: Vr n:=fun{j n} h=>by
 induction n with
 |zero=>have:j=0:=by omega
        subst this;exact List.prefix_refl _
 |succ n ih=>
  rcases adR j (n+1)with q|q
  ·exact(ih (by omega)).trans (by rw[qk];exact List.prefix_append _ _)
  ·have:j=n+1:=by omega
   subst this;exact List.prefix_refl _
theorem S7{pre:List Nat}{x n:Nat}(h:(pre++[x]) <+: Vr n):x=pre.length+1∧pre.length<n:=by
 obtain⟨t,ht⟩:=h;have hl:=congrArg List.length ht;simp only[c9,abx,acL,D4]at hl;have hx:=congrArg (fun z=>z[pre.length]?) ht;simp only[abA,adN (abI _),aeK,Vr]at hx;simp at hx;have hlt:pre.length<n:=by omega
 rw[ae8 hlt]at hx;simp at hx;exact⟨hx,hlt⟩
theorem V4(L:List (Nat×List DV))(b c:Nat)(v:List DV):lk (up L b v) c=if b=c then(lk L c).map (fun _=>v)else lk L c:=by
 split
 ·rename_i e;subst e;exact av _ _ _
 ·rename_i e;exact aW e _ _
theorem CD{X T:St}(h:Has X T)(b:Nat)(v:List DV):Has ⟨up X.box b v,X.acc⟩ ⟨up T.box b v,T.acc⟩:=⟨fun c x hc=>by
 simp only[V4]at hc ⊢;split at hc
 ·rename_i e;obtain⟨y,hy,rfl⟩:=acT.1 hc;rw[h.box _ _ hy,if_pos e];rfl
 ·rename_i e;rw[if_neg e];exact h.box _ _ hc,h.acc⟩
theorem UU{X T:St}{b c:Nat}{v w:List DV}(hb:¬lk X.box b=none)(hc:¬lk X.box c=none):Kp X T ⟨up (up T.box b v) c w,T.acc⟩:=⟨fun d x hd hx=>by
 show lk (up (up T.box b v) c w) d=some x;rw[aW (fun e=>hc (by rw[e];exact hd)),aW (fun e=>hb (by rw[e];exact hd))];exact hx,fun d x _ hx=>hx⟩
theorem Uk(w0:W0)(l:List Int)(S:St):ab Tryz.prog w0 217 [dL l] S (fun d S'=>∃b:FN S.box,d= .v (.func (.func 242) #[] #[.pointer (some ⟨b.n,0,none⟩)])∧S'=⟨(b.n,[dL l])::S.box,S.acc⟩):=by
 refine mU [] mx Tryz.func217 rfl rfl (by kernel_rfl) ?_;refine @aa _ (ai @Tryz.ntmps217 ?_);intro b;exact⟨b,rfl,rfl⟩
def Vw(l:List Int):Nat→Nat
 |0=>0
 |j+1=>tp l j
def Rj(l:List Int):Nat→Int
 |0=>l.sum+1
 |j+1=>fy l (tp l j)
theorem sH(l:List Int)(i:Nat):(l.take i).sum+(l.drop i).sum=l.sum:=by
 rw[←List.sum_append_int,adI]
theorem Ol{l:List Int}(h:Bd l)(i:Nat):0≤fy l i∧fy l i≤l.sum:=by
 have h1:=(h.take i).sum;have h2:=(h.drop i).sum;have h3:=sH l i;unfold fy;split <;>omega
theorem Ke{l:List Int}(h:Bd l)(p:Nat):(fy l (p+1)<Rj l p→Rj l (p+1)=fy l (p+1)∧Vw l (p+1)=p+1)∧(¬fy l (p+1)<Rj l p→Rj l (p+1)=Rj l p∧Vw l (p+1)=Vw l p):=by
 cases p with
 |zero=>exact⟨fun _=>⟨rfl,rfl⟩,fun hn=>absurd (by have:=(Ol h 1).2;show fy l 1<l.sum+1;omega) hn⟩
 |succ j=>
  have e:tp l (j+1)=if fy l (j+2)<fy l (tp l j)then j+2 else tp l j:=rfl
  refine⟨fun hw=>?_,fun hw=>?_⟩
  ·have e2:tp l (j+1)=j+2:=e.trans (if_pos hw);exact⟨by show fy l (tp l (j+1))=_;rw[e2],e2⟩
  ·have e2:tp l (j+1)=tp l j:=e.trans (if_neg hw);exact⟨by show fy l (tp l (j+1))=_;rw[e2];rfl,e2⟩
theorem Vn(w0:W0)(l:Nat)(b:Nat)(r:List Int)(X:List Nat→St)(hr:Bd r)(hb:∀pre,lk (X pre).box b=some [dL r])
 (hy:YK Tryz.prog w0 l X (fun x=>[dI x,dI (fy r x)]) (Vr (r.length-1))):∀T,Has (X []) T→ab Tryz.prog w0 242 [.v (.func (.yield l) #[] #[]),.v (.pointer (some ⟨b,0,none⟩))] T (fun _ T'=>Has (X (Vr (r.length-1))) T'):=by
 intro T hT;have t0:lk T.box b=some [dL r]:=hT.box _ _ (hb _);refine rz [] mx Tryz.func242 rfl rfl (by kernel_rfl) ?_;simp only[Tryz.ntmps242,abx,acL,Nat.reduceAdd,Nat.reduceSub,List.reduceReplicate,aes,adZ];refine @aa _ (aM @Tryz.ntmps242 @t0 ?_);refine ae (Od w0 _ _ hr) ?_;refine @aa _ (ai @t0 ?_);have h0:=hr.1;refine jf [] [0,3,4,9,10,11] (fun s:St×Nat=>[(3,dI (r.take s.2).sum),(4,dI (r.drop s.2).sum),(11,dI s.2)]) (fun s=>s.1) (fun s=>s.2≤r.length∧Has (X (Vr (s.2-1))) s.1) (fun s=>r.length-s.2) (T,0) mx (by kernel_rfl) ?_ ?_
 ·refine @aa _ (af ?_);exact⟨⟨aeh _,hT⟩,rfl⟩
 ·rintro⟨T,k⟩ ⟨hk,hT'⟩;simp only at hk hT';refine @aa _ (af ?_)
  have hsu:∀a,r[k]? =some a→IntKind.i64.wrap ((r.take k).sum+a)=(r.take (k+1)).sum∧IntKind.i64.wrap ((r.drop k).sum-a)=(r.drop (k+1)).sum:=fun a ha=>by
   have h1:=vn ha;have h2:=sH r k;have h3:=sH r (k+1);have h4:=(hr.take (k+1)).sum;have h5:=(hr.drop (k+1)).sum;exact⟨by rw[h1]at h4 ⊢;exact aG (by omega) (by omega),by rw[aG (by omega) (by omega)];omega⟩
  refine⟨fun hlt=>⟨hlt,fun a ha=>⟨fun hk0=>?_,fun hk0=>?_⟩⟩,fun hge=>?_⟩
  ·obtain⟨j,rfl⟩:∃j,k=j+1:=⟨k-1,by omega⟩
   have ew:(if(r.take (j+1)).sum<(r.drop (j+1)).sum then(r.drop (j+1)).sum else(r.take (j+1)).sum)=fy r (j+1):=by
    unfold fy;split <;>split <;>omega
   rw[ew];refine NG (hy (Vr j) (j+1) T (by rw[←qk];exact JV (by omega)) hT') ?_;rintro d T2 ⟨rfl,hT2,hK⟩;refine @aa _ (af ?_);exact⟨(T2,j+2),⟨hlt,by show Has (X (Vr (j+1))) T2;rw[qk];exact hT2⟩,by show r.length-(j+2)<r.length-(j+1);omega,⟨(hsu a ha).1,(hsu a ha).2,aZ (j+1) (by omega)⟩,.refl _⟩
  ·have:k=0:=by omega
   subst this;exact⟨(T,1),⟨hlt,hT'⟩,by show r.length-1<r.length-0;omega,⟨(hsu a ha).1,(hsu a ha).2,aZ 0 (by omega)⟩,.refl _⟩
  ·have:k=r.length:=by omega
   subst this;exact⟨_,T,.refl _,.refl _,hT'⟩
theorem atP(w0:W0)(l:List Int)(S:St)(h:Bd l):ab Tryz.prog w0 167 [dL l] S (fun d S'=>d=dI (atR l)∧S'=S):=by
 refine aJ [] mx Tryz.func167 rfl rfl (by kernel_rfl) ?_;refine @aa _ (ai @Tryz.ntmps167 ?_);have hs:=h.sum;have h0:=h.1;refine ae (Od w0 _ _ h) ?_;refine @aa _ (af ?_);intro b3 b4;have es:IntKind.i64.wrap (l.sum+1)=l.sum+1:=aG (by omega) (by omega);rw[es];refine⟨fun hle=>?_,fun hgt=>?_⟩
 ·unfold atR;rw[if_pos (.inl (by omega))];rfl
 refine bC (Uk w0 l _) ?_;rintro _ _ ⟨b,rfl,rfl⟩;refine @aa _ (af ?_);refine sa [] (fun pre:List Nat=>⟨(b.n,[dL l])::(b4.n,[dI (Vw l pre.length)])::(b3.n,[dI (Rj l pre.length)])::S.box,S.acc⟩) (fun x:Nat=>[dI x,dI (fy l x)]) (Vr (l.length-1)) mx (by kernel_rfl) rfl rfl rfl (fun _=>rfl) (fun _=>rfl) (fun _=>rfl) ?_ ?_ ?_
 ·intro ly w1 hy T hT;exact Vn w1 ly b.n l _ h (fun _=>by exact @aa _ aF) hy T hT
 ·intro pre x T hp hT;obtain⟨rfl,hlt⟩:=S7 hp;have t3:lk T.box b3.n=some [dI (Rj l pre.length)]:=hT.box _ _ (by exact @aa _ aF);have t4:lk T.box b4.n=some [dI (Vw l pre.length)]:=hT.box _ _ (by exact @aa _ aF);have hne:¬b3.n=b4.n:=by exact @aa _ aF
  have hl1:(pre++[pre.length+1]).length=pre.length+1:=by simp
  have hH:=fun v w=>CD (CD hT b3.n [dI v]) b4.n [dI w];have hu:∀(v w:Int),up (up ((b.n,[dL l])::(b4.n,[dI (Vw l pre.length)])::(b3.n,[dI (Rj l pre.length)])::S.box) b3.n [dI v]) b4.n [dI w]=(b.n,[dL l])::(b4.n,[dI w])::(b3.n,[dI v])::S.box:=fun v w=>by exact @aa _ aF
  have hK:∀v w,Kp ⟨(b.n,[dL l])::(b4.n,[dI (Vw l pre.length)])::(b3.n,[dI (Rj l pre.length)])::S.box,S.acc⟩ T ⟨up (up T.box b3.n v) b4.n w,T.acc⟩:=fun v w=>UU (by exact @aa _ aF) (by exact @aa _ aF);simp only[hu]at hH;simp only[jZ];refine @aa _ (aM @t3 @t4 ?_);obtain⟨st1,st2⟩:=Ke h pre.length;refine⟨fun hw=>?_,fun hw=>?_⟩
  ·rw[(st1 hw).1,(st1 hw).2];exact⟨hH _ _,hK _ _⟩
  ·rw[(st2 hw).1,(st2 hw).2];exact⟨hT,.refl _ _⟩
 ·refine @aa _ (ai @D4 ?_);unfold atR;by_cases h2:l.length<2
  ·rw[if_pos (.inr h2),show l.length-1=0 by omega];rfl
  ·rw[if_neg (by omega)];obtain⟨m,hm⟩:∃m,l.length=m+2:=⟨l.length-2,by omega⟩;rw[hm];rfl
theorem EL(a b:Nat)(h:a+b<2^62):IntKind.i64.wrap ((a:Int)+(b:Int))=((a+b:Nat):Int):=by rw[aG (by omega) (by omega)];omega
@[go_sem] def dR (s:Nat) (l:List DV):DV:= .sl s false l
def fl(rows:List (List DV)):List DV:=rows.flatten
theorem lu{rows:List (List DV)}{k:Nat}{a:List DV}(h:rows[k]? =some a):fl (rows.take (k+1))=fl (rows.take k)++a:=by
 unfold fl;rw[abZ,h];simp
theorem sY(rows:List (List DV))(k:Nat):(fl (rows.take k)).length≤(fl rows).length:=by
 have:fl rows=fl (rows.take k)++fl (rows.drop k):=by
  unfold fl;rw[←List.flatten_append,adI]
 rw[this];simp
theorem fF{P:Program}{w0:W0}{f:FuncId}{args:List DV}{S:St}{r:DV}(h1:ab P w0 f args S (fun d S'=>pD S' d fun d S''=>Wk d r∧Aml.Sub S S'')):ab P w0 f args S (fun d S'=>d=r∧S'=S):=by
 intro g vs w k1 k2;refine(h1 g vs w k1 k2).mono ?_;rintro e w' ⟨v,g',d,S',q1,q2,q3,q4,q5⟩;obtain⟨g2,d',S2,p1,p2,p3,p4,p5⟩:=uh q3 q4 q5;exact⟨v,g2,r,S,q1,q2.trans p1,p2.forget p5.box p5.acc,p4 _ _ p3,rfl,rfl⟩
theorem Yt(w0:W0)(n:Int)(S:St)(h0:0≤n)(h1:n≤1099511627776):ab Tryz.prog w0 245 [.sl 0 true [],dI n] S (fun d S'=>∃l:FN S.acc,d= .acc l.n 0∧S'=⟨S.box,(l.n,.arr 1 [])::S.acc⟩):=by
 refine iB (K':=fun d S'=>(d= .sl 0 true []∧S'=S)∨∃l:FN S.acc,d= .acc l.n 0∧S'=⟨S.box,(l.n,.arr 1 [])::S.acc⟩) ?_ 1 (by omega) ?_
 ·refine mU [] mx Tryz.func245 rfl rfl (by kernel_rfl) ?_;refine @aa _ (ai @Tryz.ntmps245 ?_);have e1:IntKind.i64.wrap (0-0)=0:=aG (by omega) (by omega);rw[e1,Int.sub_zero,aG (by omega) (by omega)];refine⟨fun h=>by omega,fun h h2=>⟨by omega,by omega,by omega,fun l=> .inl ⟨⟨_,_,_,rfl⟩,by simp,fun l'=>⟨⟨l'.n,l'.h.2.2⟩,rfl,rfl⟩⟩⟩⟩
 ·rintro d S' (⟨rfl,rfl⟩|h)
  ·exact .inr ⟨⟨0,rfl⟩,fun l hl=>⟨⟨l,hl⟩,rfl,rfl⟩⟩
  ·exact .inl h
theorem yE(w0:W0)(rows:List (List DV))(S:St)(h0:rows.length≤1099511627776)(h1:(fl rows).length≤1048576):
 ab Tryz.prog w0 222 [.sl 1 false (rows.map (dR 1))] S (fun d S'=>d=dR 1 (fl rows)∧S'=S):=by
 refine aJ [] mx Tryz.func222 rfl rfl (by kernel_rfl) ?_;refine @aa _ (ai @Tryz.ntmps222 ?_);refine aw [] rows.length [0,3,9,10,11] (fun k=>[(3,dI (fl (rows.take k)).length),(11,dI k)]) (fun _=>S) (fun k=>True) mx (by kernel_rfl) ?_ ?_
 ·refine @aa _ (af ?_);simp[fl]
 ·intro k hk _;refine @aa _ (af ?_);refine⟨fun hlt=>⟨hlt,fun a ha=>?_⟩,fun hge=>?_⟩
  ·have h2:=lu ha;have h3:=sY rows (k+1);rw[h2,c9]at h3;rw[aG (by omega) (by omega)];refine⟨fun h=>by omega,fun h=>⟨hlt,?_,aG (by omega) (by omega)⟩⟩;rw[h2,c9];omega
  ·rw[aaA (by omega)];refine bC (Yt w0 (fl rows).length S (by omega) (by omega)) ?_;rintro d S' ⟨l,rfl,rfl⟩;refine @aa _ (af ?_);refine aw [] rows.length [6,25,26,27] (fun k=>[(6,.acc l.n (fl (rows.take k)).length),(27,dI k)]) (fun k=>⟨S.box,(l.n,.arr 1 (fl (rows.take k)))::S.acc⟩) (fun k=>True) mx (by kernel_rfl) ?_ ?_
   ·refine @aa _ (af ?_);simp[fl,Wk.refl,Sub.refl]
   ·intro k hk _;refine @aa _ (af ?_);refine⟨fun hlt=>⟨hlt,fun a ha=>?_⟩,fun hge=>?_⟩
    ·have h2:=lu ha;have h3:=sY rows (k+1);rw[h2,c9]at h3;refine⟨by omega,by unfold maxLen;omega,hlt,⟨?_,aG (by omega) (by omega)⟩,?_⟩
     ·rw[h2,c9];exact .refl _
     ·rw[h2];exact .refl _
    ·rw[aaA (by omega)];exact .full _ _ _
theorem u9(w0:W0)(l:List DV)(S:St)(h0:l.length≤1048576):ab Tryz.prog w0 120 [dR 1 l] S fun d S'=>∃b:FN S.acc,d= .acc b.n l.length∧S'=⟨S.box,(b.n,.arr 1 l)::S.acc⟩:=by
 refine OD 1 (by omega) ?_;refine mU [] mx Tryz.func120 rfl rfl (by kernel_rfl) ?_;refine @aa _ (ai @Tryz.ntmps120 ?_);intro b hb;refine⟨fun h1=> .inl ⟨aeu fun hn=>?_,0,rfl⟩,fun h1=>⟨by omega,by unfold maxLen;omega,fun c=> .inr ⟨c,rfl,rfl⟩⟩⟩;rw[hb hn]at h1;cases h1
theorem yS(w0:W0)(l:List DV)(S:St)(h0:l.length≤1048576):ab Tryz.prog w0 120 [dR 1 l] S fun d S'=>d=dR 1 l∧S'=S:=by
 refine fF (ab.mono (u9 w0 l S h0) ?_);rintro d S' ⟨b,rfl,rfl⟩;exact @aa _ aF
theorem FC(w0:W0)(l m:List DV)(i n:Nat)(f:Bool)(S:St)(hi:i+n≤l.length)(h0:l.length≤524288)(h1:m.length≤524288):ab Tryz.prog w0 171 [dR 1 l,dI i,dI n,.sl 1 f m] S (fun d S'=>d=dR 1 (l.take i++m++l.drop (i+n))∧S'=S):=by
 refine aJ [] mx Tryz.func171 rfl rfl (by kernel_rfl) ?_;refine @aa _ (aM @Tryz.ntmps171 (EL i n (by omega)) ?_);have e:fl [l.take i,m,l.drop (i+n)]=l.take i++m++l.drop (i+n):=by simp[fl]
 refine⟨by omega,hi,aK (yE w0 [l.take i,m,l.drop (i+n)] _ (by simp) ?_) ?_ ⟨(Wk.full _ _ _).trans (Wk.sl ⟨.refl _,.full _ _ _,.refl _,trivial⟩),trivial⟩⟩
 ·rw[e];simp only[c9,aaE,acv];omega
 ·rw[e];exact @aa _ aF
theorem YX(w0:W0)(n:Int)(S:St)(h0:0≤n)(h1:n≤1099511627776):ab Tryz.prog w0 246 [.sl 0 true [],dI n] S (fun d S'=>∃l:FN S.acc,d= .acc l.n 0∧S'=⟨S.box,(l.n,.arr 2 [])::S.acc⟩):=by
 refine iB (K':=fun d S'=>(d= .sl 0 true []∧S'=S)∨∃l:FN S.acc,d= .acc l.n 0∧S'=⟨S.box,(l.n,.arr 2 [])::S.acc⟩) ?_ 2 (by omega) ?_
 ·refine mU [] mx Tryz.func246 rfl rfl (by kernel_rfl) ?_;refine @aa _ (ai @Tryz.ntmps246 ?_);have e1:IntKind.i64.wrap (0-0)=0:=aG (by omega) (by omega);rw[e1,Int.sub_zero,aG (by omega) (by omega)];refine⟨fun h=>by omega,fun h h2=>⟨by omega,by omega,by omega,fun l=> .inl ⟨⟨_,_,_,rfl⟩,by simp,fun l'=>⟨⟨l'.n,l'.h.2.2⟩,rfl,rfl⟩⟩⟩⟩
 ·rintro d S' (⟨rfl,rfl⟩|h)
  ·exact .inr ⟨⟨0,rfl⟩,fun l hl=>⟨⟨l,hl⟩,rfl,rfl⟩⟩
  ·exact .inl h
theorem zL(w0:W0)(rows:List (List DV))(S:St)(h0:rows.length≤1099511627776)(h1:(fl rows).length≤1048576):
 ab Tryz.prog w0 223 [.sl 1 false (rows.map (dR 2))] S (fun d S'=>d=dR 2 (fl rows)∧S'=S):=by
 refine aJ [] mx Tryz.func223 rfl rfl (by kernel_rfl) ?_;refine @aa _ (ai @Tryz.ntmps223 ?_);refine aw [] rows.length [0,3,9,10,11] (fun k=>[(3,dI (fl (rows.take k)).length),(11,dI k)]) (fun _=>S) (fun k=>True) mx (by kernel_rfl) ?_ ?_
 ·refine @aa _ (af ?_);simp[fl]
 ·intro k hk _;refine @aa _ (af ?_);refine⟨fun hlt=>⟨hlt,fun a ha=>?_⟩,fun hge=>?_⟩
  ·have h2:=lu ha;have h3:=sY rows (k+1);rw[h2,c9]at h3;rw[aG (by omega) (by omega)];refine⟨fun h=>by omega,fun h=>⟨hlt,?_,aG (by omega) (by omega)⟩⟩;rw[h2,c9];omega
  ·rw[aaA (by omega)];refine bC (YX w0 (fl rows).length S (by omega) (by omega)) ?_;rintro d S' ⟨l,rfl,rfl⟩;refine @aa _ (af ?_);refine aw [] rows.length [6,25,26,27] (fun k=>[(6,.acc l.n (fl (rows.take k)).length),(27,dI k)]) (fun k=>⟨S.box,(l.n,.arr 2 (fl (rows.take k)))::S.acc⟩) (fun k=>True) mx (by kernel_rfl) ?_ ?_
   ·refine @aa _ (af ?_);simp[fl,Wk.refl,Sub.refl]
   ·intro k hk _;refine @aa _ (af ?_);refine⟨fun hlt=>⟨hlt,fun a ha=>?_⟩,fun hge=>?_⟩
    ·have h2:=lu ha;have h3:=sY rows (k+1);rw[h2,c9]at h3;refine⟨by omega,by unfold maxLen;omega,hlt,⟨?_,aG (by omega) (by omega)⟩,?_⟩
     ·rw[h2,c9];exact .refl _
     ·rw[h2];exact .refl _
    ·rw[aaA (by omega)];exact .full _ _ _
theorem zw(w0:W0)(l:List DV)(S:St)(h0:l.length≤1048576):ab Tryz.prog w0 121 [dR 2 l] S fun d S'=>∃b:FN S.acc,d= .acc b.n l.length∧S'=⟨S.box,(b.n,.arr 2 l)::S.acc⟩:=by
 refine OD 2 (by omega) ?_;refine mU [] mx Tryz.func121 rfl rfl (by kernel_rfl) ?_;refine @aa _ (ai @Tryz.ntmps121 ?_);intro b hb;refine⟨fun h1=> .inl ⟨aeu fun hn=>?_,0,rfl⟩,fun h1=>⟨by omega,by unfold maxLen;omega,fun c=> .inr ⟨c,rfl,rfl⟩⟩⟩;rw[hb hn]at h1;cases h1
theorem GX(w0:W0)(l:List DV)(S:St)(h0:l.length≤1048576):ab Tryz.prog w0 121 [dR 2 l] S fun d S'=>d=dR 2 l∧S'=S:=by
 refine fF (ab.mono (zw w0 l S h0) ?_);rintro d S' ⟨b,rfl,rfl⟩;exact @aa _ aF
theorem Sy(w0:W0)(l m:List DV)(i n:Nat)(f:Bool)(S:St)(hi:i+n≤l.length)(h0:l.length≤524288)(h1:m.length≤524288):ab Tryz.prog w0 172 [dR 2 l,dI i,dI n,.sl 2 f m] S (fun d S'=>d=dR 2 (l.take i++m++l.drop (i+n))∧S'=S):=by
 refine aJ [] mx Tryz.func172 rfl rfl (by kernel_rfl) ?_;refine @aa _ (aM @Tryz.ntmps172 (EL i n (by omega)) ?_);have e:fl [l.take i,m,l.drop (i+n)]=l.take i++m++l.drop (i+n):=by simp[fl]
 refine⟨by omega,hi,aK (zL w0 [l.take i,m,l.drop (i+n)] _ (by simp) ?_) ?_ ⟨(Wk.full _ _ _).trans (Wk.sl ⟨.refl _,.full _ _ _,.refl _,trivial⟩),trivial⟩⟩
 ·rw[e];simp only[c9,aaE,acv];omega
 ·rw[e];exact @aa _ aF
theorem W2(w0:W0)(n:Int)(S:St)(h0:0≤n)(h1:n≤1099511627776):ab Tryz.prog w0 243 [.sl 0 true [],dI n] S (fun d S'=>∃l:FN S.acc,d= .acc l.n 0∧S'=⟨S.box,(l.n,.arr 5 [])::S.acc⟩):=by
 refine iB (K':=fun d S'=>(d= .sl 0 true []∧S'=S)∨∃l:FN S.acc,d= .acc l.n 0∧S'=⟨S.box,(l.n,.arr 5 [])::S.acc⟩) ?_ 5 (by omega) ?_
 ·refine mU [] mx Tryz.func243 rfl rfl (by kernel_rfl) ?_;refine @aa _ (ai @Tryz.ntmps243 ?_);have e1:IntKind.i64.wrap (0-0)=0:=aG (by omega) (by omega);rw[e1,Int.sub_zero,aG (by omega) (by omega)];refine⟨fun h=>by omega,fun h h2=>⟨by omega,by omega,by omega,fun l=> .inl ⟨⟨_,_,_,rfl⟩,by simp,fun l'=>⟨⟨l'.n,l'.h.2.2⟩,rfl,rfl⟩⟩⟩⟩
 ·rintro d S' (⟨rfl,rfl⟩|h)
  ·exact .inr ⟨⟨0,rfl⟩,fun l hl=>⟨⟨l,hl⟩,rfl,rfl⟩⟩
  ·exact .inl h
theorem yU(w0:W0)(rows:List (List DV))(S:St)(h0:rows.length≤1099511627776)(h1:(fl rows).length≤1048576):
 ab Tryz.prog w0 219 [.sl 1 false (rows.map (dR 5))] S (fun d S'=>d=dR 5 (fl rows)∧S'=S):=by
 refine aJ [] mx Tryz.func219 rfl rfl (by kernel_rfl) ?_;refine @aa _ (ai @Tryz.ntmps219 ?_);refine aw [] rows.length [0,3,9,10,11] (fun k=>[(3,dI (fl (rows.take k)).length),(11,dI k)]) (fun _=>S) (fun k=>True) mx (by kernel_rfl) ?_ ?_
 ·refine @aa _ (af ?_);simp[fl]
 ·intro k hk _;refine @aa _ (af ?_);refine⟨fun hlt=>⟨hlt,fun a ha=>?_⟩,fun hge=>?_⟩
  ·have h2:=lu ha;have h3:=sY rows (k+1);rw[h2,c9]at h3;rw[aG (by omega) (by omega)];refine⟨fun h=>by omega,fun h=>⟨hlt,?_,aG (by omega) (by omega)⟩⟩;rw[h2,c9];omega
  ·rw[aaA (by omega)];refine bC (W2 w0 (fl rows).length S (by omega) (by omega)) ?_;rintro d S' ⟨l,rfl,rfl⟩;refine @aa _ (af ?_);refine aw [] rows.length [6,25,26,27] (fun k=>[(6,.acc l.n (fl (rows.take k)).length),(27,dI k)]) (fun k=>⟨S.box,(l.n,.arr 5 (fl (rows.take k)))::S.acc⟩) (fun k=>True) mx (by kernel_rfl) ?_ ?_
   ·refine @aa _ (af ?_);simp[fl,Wk.refl,Sub.refl]
   ·intro k hk _;refine @aa _ (af ?_);refine⟨fun hlt=>⟨hlt,fun a ha=>?_⟩,fun hge=>?_⟩
    ·have h2:=lu ha;have h3:=sY rows (k+1);rw[h2,c9]at h3;refine⟨by omega,by unfold maxLen;omega,hlt,⟨?_,aG (by omega) (by omega)⟩,?_⟩
     ·rw[h2,c9];exact .refl _
     ·rw[h2];exact .refl _
    ·rw[aaA (by omega)];exact .full _ _ _
theorem zu(w0:W0)(l:List DV)(S:St)(h0:l.length≤1048576):ab Tryz.prog w0 125 [dR 5 l] S fun d S'=>∃b:FN S.acc,d= .acc b.n l.length∧S'=⟨S.box,(b.n,.arr 5 l)::S.acc⟩:=by
 refine OD 5 (by omega) ?_;refine mU [] mx Tryz.func125 rfl rfl (by kernel_rfl) ?_;refine @aa _ (ai @Tryz.ntmps125 ?_);intro b hb;refine⟨fun h1=> .inl ⟨aeu fun hn=>?_,0,rfl⟩,fun h1=>⟨by omega,by unfold maxLen;omega,fun c=> .inr ⟨c,rfl,rfl⟩⟩⟩;rw[hb hn]at h1;cases h1
theorem F5(w0:W0)(l:List DV)(S:St)(h0:l.length≤1048576):ab Tryz.prog w0 125 [dR 5 l] S fun d S'=>d=dR 5 l∧S'=S:=by
 refine fF (ab.mono (zu w0 l S h0) ?_);rintro d S' ⟨b,rfl,rfl⟩;exact @aa _ aF
theorem swapT(w0:W0)(l m:List DV)(i n:Nat)(f:Bool)(S:St)(hi:i+n≤l.length)(h0:l.length≤524288)(h1:m.length≤524288):ab Tryz.prog w0 169 [dR 5 l,dI i,dI n,.sl 5 f m] S (fun d S'=>d=dR 5 (l.take i++m++l.drop (i+n))∧S'=S):=by
 refine aJ [] mx Tryz.func169 rfl rfl (by kernel_rfl) ?_;refine @aa _ (aM @Tryz.ntmps169 (EL i n (by omega)) ?_);have e:fl [l.take i,m,l.drop (i+n)]=l.take i++m++l.drop (i+n):=by simp[fl]
 refine⟨by omega,hi,aK (yU w0 [l.take i,m,l.drop (i+n)] _ (by simp) ?_) ?_ ⟨(Wk.full _ _ _).trans (Wk.sl ⟨.refl _,.full _ _ _,.refl _,trivial⟩),trivial⟩⟩
 ·rw[e];simp only[c9,aaE,acv];omega
 ·rw[e];exact @aa _ aF
theorem Bq(a:ByteArray):eF a a=true:=by simp[eF]
theorem YP(w0:W0)(a:ByteArray)(S:St):ab Tryz.prog w0 244 [dS a] S (fun d S'=>d=dB false∧S'=S):=by
 refine aJ [] mx Tryz.func244 rfl rfl (by kernel_rfl) ?_;exact @aa _ (iX @Tryz.ntmps244 @Bq)
theorem Yw(w0:W0)(a:ByteArray)(S:St):ab Tryz.prog w0 221 [dS a] S (fun d S'=>d=dB false∧S'=S):=by
 refine aJ [] mx Tryz.func221 rfl rfl (by kernel_rfl) ?_;exact @aa _ (iX @Tryz.ntmps221 @Bq)
theorem UK(w0:W0)(a b:ByteArray)(S:St):ab Tryz.prog w0 220 [dS a,dS b] S (fun d S'=>d=dB (cC a b)∧S'=S):=by
 refine aJ [] mx Tryz.func220 rfl rfl (by kernel_rfl) ?_;refine @aa _ (ai @Tryz.ntmps220 ?_);refine ae (YP w0 a S) ?_;exact @aa _ aF
theorem Vq(w0:W0)(n:N)(key:ByteArray)(S:St)(ht:n.l.length≤1048576)(hn:n.l≠[]):ab Tryz.prog w0 124 [eT n,dS key] S (fun d S'=>d=dI (fY n.l key)∧S'=S):=by
 refine aJ [] mx Tryz.func124 rfl rfl (by kernel_rfl) ?_;refine @aa _ (ai @Tryz.ntmps124 ?_);have h0:=ad9.2 hn;intro b;refine aw [] (n.l.length-1) [1,2,5] (fun k=>[(5,dI ((n.l.length-1-k:Nat):Int))]) (fun _=>⟨(b.n,cT n)::S.box,S.acc⟩) (fun k=>fY n.l key=lH n.l key (n.l.length-1-k)) mx (by kernel_rfl) ?_ ?_
 ·simp(maxDischargeDepth:=12) (maxSteps:=1000000) -implicitDefEqProofs only[go_sem,Nat.reduceAdd,Nat.reduceSub,Nat.reduceMul,Nat.reduceLeDiff,Nat.reduceEqDiff,Nat.reduceGT,Nat.reduceBEq,reduceCtorEq,↓reduceIte,Int.reduceToNat,Int.reduceLE,Int.reduceLT,Int.reduceNe,Int.reduceEq,cT];exact⟨rfl,by rw[aG (by omega) (by omega)];omega⟩
 ·intro k hk hw;simp(maxDischargeDepth:=12) (maxSteps:=1000000) -implicitDefEqProofs only[go_sem,Nat.reduceAdd,Nat.reduceSub,Nat.reduceMul,Nat.reduceLeDiff,Nat.reduceEqDiff,Nat.reduceGT,Nat.reduceBEq,reduceCtorEq,↓reduceIte,Int.reduceToNat,Int.reduceLE,Int.reduceLT,Int.reduceNe,Int.reduceEq,cT];refine⟨fun hg=>?_,fun hg=>?_⟩
  ·obtain⟨i,hi⟩:∃i,n.l.length-1-k=i+1:=⟨n.l.length-1-k-1,by omega⟩;have hi':n.l.length-1-(k+1)=i:=by omega
   rw[hi]at hw ⊢;rw[hi'];refine⟨by omega,fun a ha=>⟨fun hle=>?_,fun hle=>⟨by omega,?_,?_⟩⟩⟩
   ·rw[hw];simp only[lH,ha,hle];rfl
   ·rw[hw];simp only[lH,ha,hle];rfl
   ·rw[aG (by omega) (by omega)];omega
  ·have:n.l.length-1-k=0:=by omega
   rw[hw,this];rfl
theorem rH(w0:W0)(n:N)(S:St)(h:GZ n)(ht:n.l.length≤1048576):ab Tryz.prog w0 168 [eT n] S (fun d S'=>d=dL (ah n)∧S'=S):=by
 refine aJ [] mx Tryz.func168 rfl rfl (by kernel_rfl) ?_;refine @aa _ (ai @Tryz.ntmps168 ?_);intro b;refine fH 3 1 rfl (by omega) fun lb=>?_;refine aw [] n.l.length [1,3,9,10,11] (fun k=>[(3,.acc lb.n k),(11,dI k)]) (fun k=>⟨(b.n,cT n)::S.box,(lb.n,.arr 1 (((ah n).take k).map dI))::S.acc⟩) (fun _=>True) mx (by kernel_rfl) ?_ ?_
 ·simp(maxDischargeDepth:=12) (maxSteps:=1000000) -implicitDefEqProofs only[go_sem,Nat.reduceAdd,Nat.reduceSub,Nat.reduceMul,Nat.reduceLeDiff,Nat.reduceEqDiff,Nat.reduceGT,Nat.reduceBEq,reduceCtorEq,↓reduceIte,Int.reduceToNat,Int.reduceLE,Int.reduceLT,Int.reduceNe,Int.reduceEq,cT]
 ·intro k hk _;have hl:(ah n).length=n.l.length:=by unfold ah;rw[abv]
  have hmin:min k (ah n).length=k:=by omega
  simp(maxDischargeDepth:=12) (maxSteps:=1000000) -implicitDefEqProofs only[go_sem,Nat.reduceAdd,Nat.reduceSub,Nat.reduceMul,Nat.reduceLeDiff,Nat.reduceEqDiff,Nat.reduceGT,Nat.reduceBEq,reduceCtorEq,↓reduceIte,Int.reduceToNat,Int.reduceLE,Int.reduceLT,Int.reduceNe,Int.reduceEq,hmin,cT];have e2:k<n.l.length→IntKind.i64.wrap ((k:Int)+1)=((k+1:Nat):Int):=fun h=>aZ k (by omega);refine⟨fun hlt=>⟨hlt,fun a ha=>?_⟩,fun hge=>by rw[aaA (by omega)];exact .full _ _ _⟩;have hb:=(lC a).1 ((fD n).1 h a (aap ha))
  have hs:(ah n).take (k+1)=(ah n).take k++[ba n.leaf a]:=by
   rw[abZ];unfold ah;rw[acP,ha];rfl
  have e1:IntKind.i64.wrap (4+(a.key.size:Int))=4+a.key.size:=aG (by omega) (by omega)
  have fin:∀(B:List (Nat×List DV)) (z:Int),z=ba n.leaf a→Aml.Sub ⟨B,(lb.n,.arr 1 (((ah n).take (k+1)).map dI))::S.acc⟩ ⟨B,(lb.n,.arr 1 (((ah n).take k).map dI++[.v (.int .i64 z)]))::S.acc⟩:=fun B z e=>by
   rw[hs,aa1,e];exact .refl _
  have hm:k+1≤maxLen:=by unfold maxLen;omega
  have h8:(k+1)*8≤140737488355328:=by omega
  refine⟨fun hlf=>?_,fun hlf=>⟨h8,hm,hlt,e2 hlt,fin _ _ ?_⟩⟩
  ·rw[if_pos hlf];refine⟨hlt,fun a3 ha3=>?_⟩;cases aC ha ha3;refine ae (Bf w0 _ _) ?_;refine @aa _ (ai @hmin ?_);refine⟨fun hn=>⟨h8,hm,hlt,e2 hlt,fin _ _ ?_⟩,fun hn=>⟨fun h4=>?_,fun h4=>⟨h8,hm,hlt,e2 hlt,fin _ _ ?_⟩⟩⟩
   ·unfold ba;rw[if_pos hlf,if_pos (.inl (by omega))];exact aG (by omega) (by omega)
   ·omega
   ·unfold ba;rw[if_pos hlf,if_neg (by omega),aG (n:=3+(a.data.size:Int)) (by omega) (by omega),aG (by omega) (by omega)];omega
  ·unfold ba;rw[if_neg (by rw[hlf];simp)];exact e1
def eG(l:List C)(key:ByteArray):Bool:=match l[bf l key]? with
 |some c=>eF c.key key
 |none=>false
theorem sF{α:Type}{p:α→Bool}:∀{l:List α} {i:Nat},i≤l.length→(∀(x:Nat) c,x<i→l[x]? =some c→p c=true)→(∀c,l[i]? =some c→p c=false)→(l.takeWhile p).length=i
 |[],i,h,_,_=>by simp at h;subst h;rfl
 |a::l,0,_,_,h2=>by
  have:=h2 a rfl;simp[ae9,this]
 |a::l,i+1,h,h1,h2=>by
  have ha:=h1 0 a (by omega) rfl;have ih:=sF (p:=p) (l:=l) (i:=i) (by simpa using h) (fun x c hx hc=>h1 (x+1) c (by omega) (by simpa using hc)) (fun c hc=>h2 c (by simpa using hc));simp[ae9,ha,ih]
theorem rY{l:List C}(h:dF l)(key:ByteArray):∀(i j:Nat) (a b:C),i≤j→l[i]? =some a→l[j]? =some b→cC b.key key=true→cC a.key key=true:=fun i j a b hij ha hb hk=>by
 rcases adR i j with q|q
 ·obtain⟨h1,rfl⟩:=aaq.1 ha;obtain⟨h2,rfl⟩:=aaq.1 hb;exact gO (adQ.1 h i j h1 h2 q) hk
 ·have:i=j:=by omega
  subst this;cases aC ha hb;exact hk
theorem FP(w0:W0)(l:List C)(key:ByteArray)(S:St)(hl:∀(i j:Nat) (a b:C),i≤j→l[i]? =some a→l[j]? =some b→cC b.key key=true→cC a.key key=true)(hb:l.length≤1073741824):
 ab Tryz.prog w0 170 [.sl 1 false (l.map fun c=>dS c.key),dS key] S (fun d S'=>d= .bM [dI (bf l key),dB (eG l key)]∧S'=S):=by
 refine aJ [] mx Tryz.func170 rfl rfl (by kernel_rfl) ?_;refine @aa _ (ai @Tryz.ntmps170 ?_);refine jf [] [0,1,6,7,8] (fun s:Nat×Nat=>[(7,dI s.1),(8,dI s.2)]) (fun _=>S) (fun s=>s.1≤s.2∧s.2≤l.length∧(∀(i:Nat) a,i<s.1→l[i]? =some a→cC a.key key=true)∧∀(i:Nat) a,s.2≤i→l[i]? =some a→cC a.key key=false) (fun s=>s.2-s.1) (0,l.length) mx (by kernel_rfl) ?_ ?_
 ·refine @aa _ (af ?_);exact⟨aeh _,fun i a h=>absurd h (by omega),fun i a h e=>absurd (aaq.1 e).1 (by omega)⟩
 ·rintro⟨i,j⟩ ⟨h1,h2,h3,h4⟩;simp only at h1 h2 h3 h4
  have eh:IntKind.i64.wrap ((IntKind.u64.wrap (IntKind.i64.wrap ((i:Int)+j))).fdiv (2^min 1 64))=(((i+j)/2:Nat):Int):=by
   rw[aG (n:=(i:Int)+j) (by omega) (by omega),gl (by omega) (by omega),aeY _ (by decide)];simp only[show min 1 64=1 from rfl,Int.pow_one];rw[aG (by omega) (by omega)];omega
  refine @aa _ (ai @eh ?_);refine⟨fun hlt=>⟨by omega,fun a ha=>ae (UK w0 a.key key S) ?_⟩,fun hge=>?_⟩
  ·refine @aa _ (ai @eh ?_);refine⟨fun hap=>⟨((i+j)/2+1,j),⟨by simp only;omega,h2,fun x c hx hc=>?_,h4⟩,by simp only;omega,by rw[aG (by omega) (by omega)];rfl,rfl⟩,fun hap=>⟨(i,(i+j)/2),⟨by simp only;omega,by simp only;omega,h3,fun x c hx hc=>?_⟩,by simp only;omega,rfl,rfl⟩⟩
   ·simp only at hx;exact hl x ((i+j)/2) c a (by omega) hc ha hap
   ·simp only at hx;refine Bool.eq_false_iff.2 fun hc'=>?_;rw[hl ((i+j)/2) x a c hx ha hc hc']at hap;cases hap
  ·have hij:i=j:=by omega
   subst hij;have hi:bf l key=i:=sF h2 h3 fun c hc=>h4 i c (abI _) hc;refine⟨fun hlt=>⟨hlt,fun a ha=>⟨fun he=>Wk.bM (.cons (.eq ?_) (.cons (.eq ?_) .nil)),fun he=>⟨hlt,fun c hc=>ae (Yw w0 c.key S) ?_⟩⟩⟩,fun hn=>Wk.bM (.cons (.eq ?_) (.cons (.eq ?_) .nil))⟩
   ·rw[hi]
   ·unfold eG;rw[hi,ha];simp only[he]
   ·refine @aa _ (af ?_);unfold eG;rw[hi,ha];simp only[he];exact Wk.bM (.cons (.refl _) (.cons (.refl _) .nil))
   ·rw[hi]
   ·unfold eG;rw[hi,ad6 (by omega)]
def dK(l:List C):List DV:=l.map fun c=>dT (aB c)
@[go_sem] theorem jt (l:List C):(dK l).length=l.length:=by unfold dK;rw[abv]
@[go_sem] theorem Zx (l:List C) (i:Nat):(dK l).take i=dK (l.take i):=by unfold dK;rw[List.map_take]
@[go_sem] theorem ZJ (l:List C) (i:Nat):(dK l).drop i=dK (l.drop i):=by unfold dK;rw[List.map_drop]
@[go_sem] theorem abf (l:List C) (i:Nat) (F:DV→Prop):IT (dK l) i F=∀c,l[i]? =some c→F (eT (aB c)):=by
 unfold dK;rw[CA];exact propext ⟨fun h c hc=>by have:=(h c hc).2;rwa [kT]at this,fun h c hc=>⟨by rw[kT];rfl,by rw[kT];exact h c hc⟩⟩
@[go_sem] theorem abm (l:List C) (i:Nat) (F:DV→Prop):Gf (dK l) i F=(i<l.length∧∀c,l[i]? =some c→F (eT (aB c))):=by
 unfold dK;rw[Bx];exact propext ⟨fun h=>⟨h.1,fun c hc=>by have:=(h.2 c hc).2;rwa [kT]at this⟩,fun h=>⟨h.1,fun c hc=>⟨by rw[kT];rfl,by rw[kT];exact h.2 c hc⟩⟩⟩
theorem pJ(l m:List C):dK (l++m)=dK l++dK m:=by unfold dK;rw[aa1]
def zP(p:Int)(l:List C):DV:= .agg [dI p,dB false,.sl 1 false (l.map fun c=>dS c.key),.sl 2 false [],.sl 5 false (dK l)]
theorem fc{n:N}(hl:n.leaf=false)(h:∀c,c∈n.l→∃k,c.kid=[k]):eT n=zP n.aj n.l:=by
 unfold eT zP aV;rw[hl];simp only[adP,if_false,adT,As h,aeZ];rfl
theorem cm{n:N}(hl:n.leaf=true):eT n= .agg [dI n.aj,dB true,.sl 1 false (n.l.map fun c=>dS c.key),.sl 2 false (n.l.map gx),.sl 5 false []]:=by
 unfold eT aV;rw[hl];rfl
theorem FG(p:Int)(l:List C):Wk (.agg [dI p,dB true,.sl 1 false (l.map fun c=>dS c.key),.sl 2 false (l.map gx),.sl 0 true []]) (eT (.mk p true l)):=by
 rw[cm rfl];exact .agg (.cons (.refl _) (.cons (.refl _) (.cons (.refl _) (.cons (.refl _) (.cons (.nil _ _ _) .nil)))))
theorem K9(p:Int)(l:List C)(h:∀c,c∈l→∃k,c.kid=[k]):Wk (.agg [dI p,dB false,.sl 1 false (l.map fun c=>dS c.key),.sl 0 true [],.sl 5 false (dK l)]) (eT (.mk p false l)):=by
 rw[fc (n:= .mk p false l) rfl h];exact .agg (.cons (.refl _) (.cons (.refl _) (.cons (.refl _) (.cons (.nil _ _ _) (.cons (.refl _) .nil)))))
theorem xp{l:List C}{a:C}(h:l[0]? =some a):keyOf l=a.key:=by
 cases l with
 |nil=>cases h
 |cons b l=>cases h;rfl
theorem Af(key:ByteArray)(l:List C):(l.map fun c=>dS c.key).set 0 (dS key)=(bD key l).map fun c=>dS c.key:=by cases l <;>rfl
theorem BQ{key:ByteArray}{l:List C}(h:∀c,c∈l→∃k,c.kid=[k]):∀c,c∈bD key l→∃k,c.kid=[k]:=by
 cases l with
 |nil=>exact h
 |cons b l=>
  intro c hc;rcases ab6.1 hc with rfl|hc
  ·exact h b aaX
  ·exact h c (abn _ hc)
theorem Mx(key:ByteArray)(l:List C):dK (bD key l)=dK l:=by cases l <;>rfl
theorem Vo(p:Int)(l:List C)(h:∀c,c∈l→∃k,c.kid=[k]):Wk (.agg [dI p,dB false,.sl 1 false ((l.map fun c=>dS c.key).set 0 (.v (.string {data:= #[]}))),.sl 0 true [],.sl 5 false (dK l)]) (eT (.mk p false (bD aN l))):=by
 have e:DV.v (Value.string {data:= #[]})=dS aN:=rfl;rw[e,Af,←Mx aN];exact K9 p _ (BQ h)
theorem XN(w0:W0)(n:N)(i:Nat)(S:St)(hn:n.leaf=false→∀c,c∈n.l→∃k,c.kid=[k])(hi:0<i)(hi2:i<n.l.length)(h0:n.l.length≤524288):
 ab Tryz.prog w0 224 [eT n,dI i] S (fun d S'=>d= .bM [eT (.mk 0 n.leaf (n.l.take i)),eT (.mk 0 n.leaf (if n.leaf then n.l.drop i else bD aN (n.l.drop i))),dS (keyOf (n.l.drop i))]∧S'=S):=by
 cases hl:n.leaf with
 |true=>
  rw[cm hl];refine aJ [1,8] mx Tryz.func224 rfl rfl (by kernel_rfl) ?_;refine @aa _ (ai @Tryz.ntmps224 ?_);intro b b1 b2;refine Y.j4 [8] [] [0,3,1,2,4,5,6,7,8,9] mx (by kernel_rfl) ?_;refine @aa _ (af ?_);intro b3 b4;refine⟨by omega,aK (yS w0 ((n.l.take i).map fun c=>dS c.key) _ (by rw[abv,aaE];omega)) ?_⟩;refine @aa _ (af ?_);refine⟨by omega,aK (yS w0 ((n.l.drop i).map fun c=>dS c.key) _ (by rw[abv,acv];omega)) ?_⟩;refine @aa _ (af ?_);refine⟨by omega,fun a ha=>⟨by omega,aK (GX w0 ((n.l.take i).map gx) _ (by rw[abv,aaE];omega)) ?_⟩⟩;refine @aa _ (af ?_);refine⟨by omega,aK (GX w0 ((n.l.drop i).map gx) _ (by rw[abv,acv];omega)) ?_⟩;refine @aa _ (af ?_);refine Y.R0 [b1.n,b2.n] [3,4] [] [2,0,1,3,4,5] mx (by kernel_rfl) ?_;refine @aa _ (af ?_);rw[xp ha];exact .bM (.cons (FG 0 _) (.cons (FG 0 _) (.cons (.refl _) .nil)))
 |false=>
  rw[fc hl (hn hl)];unfold zP;refine aJ [1,2,8] mx Tryz.func224 rfl rfl (by kernel_rfl) ?_;refine @aa _ (ai @Tryz.ntmps224 ?_);intro b b1 b2;refine Y.j4 [8] [] [0,3,1,2,4,5,6,7,8,9] mx (by kernel_rfl) ?_;refine @aa _ (af ?_);intro b3 b4;refine Y.j4 [4,9] [] [0,2,5,7,1,3,6,8,4,10,9,11,12,13] mx (by kernel_rfl) ?_;refine @aa _ (af ?_);refine⟨by omega,by omega,bC (u9 w0 ((n.l.take i).map fun c=>dS c.key) _ (by rw[abv,aaE];omega)) ?_⟩;rintro d S' ⟨l1,rfl,rfl⟩;refine @aa _ (af ?_);refine bC (u9 w0 ((n.l.drop i).map fun c=>dS c.key) _ (by rw[abv,acv];omega)) ?_;rintro d S' ⟨l2,rfl,rfl⟩;refine @aa _ (af ?_);refine⟨by omega,by omega,fun a ha=>⟨by omega,aK (F5 w0 (dK (n.l.take i)) _ (by rw[jt,aaE];omega)) ?_⟩⟩;refine @aa _ (af ?_);refine⟨by omega,aK (F5 w0 (dK (n.l.drop i)) _ (by rw[jt,acv];omega)) ?_⟩;refine @aa _ (af ?_);refine⟨by omega,by omega,fun a' ha'=>?_⟩;refine Y.R0 [b1.n,b2.n] [3,4] [] [2,0,1,3,4,5] mx (by kernel_rfl) ?_;refine @aa _ (af ?_);rw[xp ha];exact .bM (.cons (K9 0 _ fun c hc=>hn hl c (ac5 hc)) (.cons (Vo 0 _ fun c hc=>hn hl c (adk hc)) (.cons (.refl _) .nil)))
theorem ub{p:Int}{l:List C}{K D:List DV}(h:∀c,c∈l→∃k,c.kid=[k])(hK:K=l.map fun c=>dS c.key)(hD:D=dK l):Wk (.agg [dI p,dB false,.sl 1 false K,.sl 0 true [],.sl 5 false D]) (eT (.mk p false l)):=by
 subst hK;subst hD;exact K9 p l h
theorem Jy{l:List C}{k:Nat}{c:C}(h:l[k]? =some c)(q:ByteArray)(a b:N):((l.take (k+1)).map fun c=>dS c.key)++[dS q]++((l.drop (k+1)).map fun c=>dS c.key)=(aA l k [ak c.key a,ak q b]).map fun c=>dS c.key:=by
 unfold aA;rw[aa1,aa1,abZ,h];simp[ak,C.key]
theorem G5(l:List C)(k:Nat)(x y:ByteArray)(a b:N):dK (l.take k)++[eT a,eT b]++dK (l.drop (k+1))=dK (aA l k [ak x a,ak y b]):=by
 unfold aA;rw[pJ,pJ,←kT,←kT];rfl
theorem Fh{l:List C}{k:Nat}{c:C}(h:l[k]? =some c)(a:N):(l.map fun c=>dS c.key)=(aA l k [ak c.key a]).map fun c=>dS c.key:=by
 obtain⟨hi,rfl⟩:=aaq.1 h;have e:l.map (fun c=>dS c.key)=(l.take k++l[k]::l.drop (k+1)).map fun c=>dS c.key:=by rw[←aet hi,adI]
 unfold aA;rw[e,aa1,aa1,aa1,aa9,abA];rfl
theorem De(l:List C)(k:Nat)(x:ByteArray)(a:N):dK (l.take k)++[eT a]++dK (l.drop (k+1))=dK (aA l k [ak x a]):=by
 unfold aA;rw[pJ,pJ,←kT];rfl
theorem qc{l m:List C}{k:Nat}(h:∀c,c∈l→∃k,c.kid=[k])(hm:∀c,c∈m→∃k,c.kid=[k]):∀c,c∈aA l k m→∃k,c.kid=[k]:=fun c hc=>by
 rcases gP hc with hc|hc
 ·exact h c hc
 ·exact hm c hc
theorem Eb(x y:ByteArray)(a b:N):∀c,c∈[ak x a,ak y b]→∃k,c.kid=[k]:=fun c hc=>by
 simp only[ab6,afJ,or_false]at hc;rcases hc with rfl|rfl
 ·exact⟨a,rfl⟩
 ·exact⟨b,rfl⟩
theorem pM(x:ByteArray)(a:N):∀c,c∈[ak x a]→∃k,c.kid=[k]:=fun c hc=>by
 simp only[acz]at hc;subst hc;exact⟨a,rfl⟩
theorem jr{d:Nat}{n:N}(h:Nd d n):n.leaf=false→∀c,c∈n.l→∃k,c.kid=[k]:=by
 cases d with
 |zero=>intro hl;rw[h.1]at hl;cases hl
 |succ d=>intro _ c hc;obtain⟨_,k,hk,_⟩:=h.2.2 c hc;exact⟨k,hk⟩
theorem OG(w0:W0)(d:Nat)(n kid:N)(c:C)(k:Nat)(S:St)(hn:Nd (d+1) n)(hlen:n.l.length≤262144)(hc:n.l[k]? =some c)(hk:c.kid=[kid])(hkl:kid.l.length≤524288):
 ab Tryz.prog w0 173 [eT n,dI k] S (fun d S'=>d= .bM [eT (aR n kid k c.key).1,dB (aR n kid k c.key).2]∧S'=S):=by
 have hone:=jr hn hn.1;have hlt:=(aaq.1 hc).1;obtain⟨kid',hk',hkn⟩:∃k',c.kid=[k']∧Nd d k':=(hn.2.2 c (aap hc)).2;rw[hk]at hk';cases hk';have hsm:=oq hkn;generalize hp:aR n kid k c.key=p;rw[fc hn.1 hone];refine aJ [] mx Tryz.func173 rfl rfl (by kernel_rfl) ?_;refine @aa _ (ai @Tryz.ntmps173 ?_);unfold zP;refine @aa _ (af ?_);intro b b1;refine⟨hlt,fun a ha=>?_⟩;cases aC hc ha;rw[aO hk];refine ae (rH w0 kid _ hsm (by omega)) ?_;refine @aa _ (af ?_);refine ae (atP w0 _ _ (fp kid hsm (by omega))) ?_;refine @aa _ (af ?_);refine⟨fun h0=>?_,fun h0=>?_⟩
 ·have e:p=(n,false):=by rw[←hp];unfold aR;simp only;rw[if_pos (by omega)]
  subst e;exact .bM (.cons (.eq (fc hn.1 hone).symm) (.cons (.refl _) .nil))
 ·have hat:=DI (ah kid) (by omega);have hsl:(ah kid).length=kid.l.length:=by unfold ah;rw[abv]
  obtain⟨A,B,q,e,hpart⟩:∃A B q,p=(.mk 0 false (aA n.l k [ak c.key A,ak q B]),true)∧∀S,ab Tryz.prog w0 224 [eT kid,dI (atR (ah kid))] S (fun d S'=>d= .bM [eT A,eT B,dS q]∧S'=S):=
   ⟨_,_,_,by rw[←hp];unfold aR;simp only;rw[if_neg (by omega)],fun S=>XN w0 kid (atR (ah kid)) S (jr hkn) (by omega) (by omega) hkl⟩
  refine⟨hlt,fun a ha=>?_⟩;cases aC hc ha;rw[aO hk];refine ae (hpart _) ?_;refine @aa _ (af ?_);intro b2 b3;have ew:IntKind.i64.wrap ((k:Int)+1)=((k+1:Nat):Int):=aZ k (by omega);rw[ew];refine aK (FC w0 (n.l.map fun c=>dS c.key) [dS q] (k+1) 0 _ _ (by rw[abv];omega) (by rw[abv];omega) (by simp)) ?_;refine @aa _ (af ?_);refine aK (swapT w0 (dK n.l) [eT A,eT B] k 1 _ _ (by rw[jt];omega) (by rw[jt];omega) (by simp)) ?_;refine @aa _ (af ?_);subst e;exact .bM (.cons (ub (qc hone (Eb _ _ _ _)) (Jy hc _ A B) (G5 _ _ _ _ _ _)) (.cons (.refl _) .nil))
theorem XQ(w0:W0)(d:Nat)(a b:N)(key:ByteArray)(S:St)(ha:Nd d a)(hb:Nd d b)(h0:a.l.length≤262144)(h1:b.l.length≤262144)(hbn:b.leaf=false→b.l≠[]):
 ab Tryz.prog w0 176 [eT a,eT b,dS key] S (fun d S'=>d=eT (bQ a b key)∧S'=S):=by
 have hle:=mr ha hb;generalize hp:bQ a b key=p
 cases hl:a.leaf with
 |true=>
  rw[hl]at hle;rw[cm hl,cm hle.symm];refine aJ [] mx Tryz.func176 rfl rfl (by kernel_rfl) ?_;refine @aa _ (ai @Tryz.ntmps176 ?_);intro b1 b2 b3;refine ae (yS w0 (b.l.map fun c=>dS c.key) _ (by rw[abv];omega)) ?_;refine @aa _ (af ?_);refine aK (yE w0 [a.l.map (fun c=>dS c.key),b.l.map fun c=>dS c.key] _ (by simp) (by simp[fl];omega)) ?_ ⟨.full _ _ _,trivial⟩;refine @aa _ (af ?_);refine aK (zL w0 [a.l.map gx,b.l.map gx] _ (by simp) (by simp[fl];omega)) ?_ ⟨.full _ _ _,trivial⟩;refine @aa _ (af ?_);refine aK (yU w0 [[],[]] _ (by simp) (by simp[fl])) ?_ ⟨.full _ _ _,trivial⟩;refine @aa _ (af ?_)
  have e:eT p= .agg [dI 0,dB true,.sl 1 false (fl [a.l.map fun c=>dS c.key,b.l.map fun c=>dS c.key]),.sl 2 false (fl [a.l.map gx,b.l.map gx]),.sl 5 false (fl [[],[]])]:=by
   rw[←hp];unfold bQ;rw[if_pos hle.symm,hl,cm rfl];simp[fl,N.l,N.aj]
  exact .eq e.symm
 |false=>
  rw[hl]at hle;rw[fc hl (jr ha hl),fc hle.symm (jr hb hle.symm)];unfold zP;refine aJ [4] mx Tryz.func176 rfl rfl (by kernel_rfl) ?_;refine @aa _ (ai @Tryz.ntmps176 ?_);intro b1 b2 b3;refine bC (u9 w0 (b.l.map fun c=>dS c.key) _ (by rw[abv];omega)) ?_;rintro d S' ⟨l1,rfl,rfl⟩;refine @aa _ (af ?_);have hpos:=ad9.2 (hbn hle.symm);refine⟨by omega,hpos,fun c hc=>?_⟩;refine eI [] [7] mx (by kernel_rfl) ?_;refine @aa _ (af ?_);refine aK (yE w0 [a.l.map (fun c=>dS c.key),(b.l.map fun c=>dS c.key).set 0 (dS key)] _ (by simp) (by simp[fl];omega)) ?_ ⟨.full _ _ _,trivial⟩;refine @aa _ (af ?_);refine aK (zL w0 [[],[]] _ (by simp) (by simp[fl])) ?_ ⟨.full _ _ _,trivial⟩;refine @aa _ (af ?_);refine aK (yU w0 [dK a.l,dK b.l] _ (by simp) (by simp[fl,jt];omega)) ?_ ⟨.full _ _ _,trivial⟩;refine @aa _ (af ?_)
  have e:eT p= .agg [dI 0,dB false,.sl 1 false (fl [a.l.map fun c=>dS c.key,(b.l.map fun c=>dS c.key).set 0 (dS key)]),.sl 2 false (fl [[],[]]),.sl 5 false (fl [dK a.l,dK b.l])]:=by
   rw[←hp];unfold bQ;rw[if_neg (by rw[←hle];simp),hl,Af,←Mx key b.l,fc rfl]
   ·unfold zP;simp[fl,N.l,N.aj,pJ]
   ·intro c hc;rcases abD.1 hc with hc|hc
    ·exact jr ha hl c hc
    ·exact BQ (jr hb hle.symm) c hc
  exact .eq e.symm
theorem wc{l m:List C}{j:Nat}(h:j+1<l.length):aA (aA l (j+1) []) j m=l.take j++m++l.drop (j+1+1):=by
 unfold aA;have e1:(l.take (j+1)).length=j+1:=by rw[aaE];omega
 rw[ad0,aeb (by omega),List.take_take,show min j (j+1)=j by omega,List.drop_append,e1,aeV (by omega)];simp
theorem Io{l:List C}{j:Nat}{c:C}(hj:j+1<l.length)(h:l[j]? =some c)(b:N):((l.take (j+1)).map fun c=>dS c.key)++((l.drop (j+1+1)).map fun c=>dS c.key)=(aA (aA l (j+1) []) j [ak c.key b]).map fun c=>dS c.key:=by
 rw[wc hj,aa1,aa1,abZ,h];simp[ak,C.key]
theorem H7{l:List C}{j:Nat}(hj:j+1<l.length)(x:ByteArray)(b:N):dK (l.take j)++[eT b]++dK (l.drop (j+2))=dK (aA (aA l (j+1) []) j [ak x b]):=by
 rw[wc hj,pJ,pJ,←kT];rfl
theorem Nt(w0:W0)(d:Nat)(n:N)(k:Nat)(S:St)(hn:Nd (d+1) n)(ht:bA n≤131072)(hk:k<n.l.length):ab Tryz.prog w0 126 [eT n,dI k] S (fun e S'=>e=eT (cG n k)∧S'=S):=by
 have hlen:=aT n;have hone:=jr hn hn.1;obtain⟨c,kid,hc,e1,e2,hkid,hkey,hnd⟩:=cw hn hk;have hkt:=cL (aap hc) hkid;have hkl:=aT kid;have hsm:=oq hnd;have hm0:cG n k=cG n k:=rfl
 conv at hm0=>rhs;unfold cG
 simp only[e1,e2]at hm0;generalize hp:aR n kid k c.key=p at hm0;generalize cG n k=m at hm0;rw[fc hn.1 hone];refine aJ [7,8] mx Tryz.func126 rfl rfl (by kernel_rfl) ?_;refine @aa _ (ai @Tryz.ntmps126 ?_);unfold zP;refine @aa _ (af ?_);intro b b1;refine ae (OG w0 d n kid c k _ hn (by omega) hc hkid (by omega)) ?_ ⟨.eq (fc hn.1 hone).symm,.refl _,trivial⟩;rw[hp];refine @aa _ (af ?_);intro b2;refine⟨fun h2=>?_,fun h2=>⟨hk,fun a ha=>?_⟩⟩
 ·rw[if_pos h2]at hm0;subst hm0;exact @aa _ aF
 ·cases aC hc ha;rw[if_neg (by rw[h2];simp)]at hm0;rw[e2];refine ae (rH w0 kid _ hsm (by omega)) ?_;refine @aa _ (af ?_);refine ae (TI w0 _ _ (fp kid hsm (by omega))) ?_;refine @aa _ (af ?_);refine⟨fun hlo=>?_,fun hlo=>⟨fun hl2=>?_,fun hl2=>?_⟩⟩
  ·rw[if_pos (by rw[hlo];rfl)]at hm0;subst hm0;exact .eq (fc hn.1 hone).symm
  ·rw[if_pos (by rw[hlo,decide_eq_true (by omega)];rfl)]at hm0;subst hm0;exact .eq (fc hn.1 hone).symm
  ·rw[if_neg (by rw[hlo,decide_eq_false (by omega)];simp)]at hm0;refine ae (nbP w0 n.l.length k _ (by omega) (by omega) (by omega) (by omega)) ?_
   obtain⟨j,hj,hnb,hj1⟩:∃j:Nat,(if k+1<n.l.length then k else k-1)=j∧(if MN (n.l.length:Int) k<(k:Int)then MN (n.l.length:Int) k else(k:Int))=(j:Int)∧j+1<n.l.length:=by
    refine⟨_,rfl,?_,?_⟩
    ·unfold MN;split <;>split <;>split <;>omega
    ·split <;>omega
   rw[hj]at hm0;refine @aa _ (ai @hnb ?_);obtain⟨c0,k0,hc0,f1,f2,hk0,hkey0,hnd0⟩:=cw hn (k:=j) (by omega);obtain⟨c1,k1,hc1,g1,g2,hk1,hkey1,hnd1⟩:=cw hn hj1;simp only[f1,f2,g1,g2]at hm0;have ht0:=cL (aap hc0) hk0;have ht1:=cL (aap hc1) hk1;have hl0:=aT k0;have hl1:=aT k1;have ew:IntKind.i64.wrap ((j:Int)+1)=((j+1:Nat):Int):=aZ j (by omega);refine Y.j4 [] [] [0,2,5,7,8,11,13,14,1,3,4,6,9,10,12,15,16,17,18,19] mx (by kernel_rfl) ?_;refine @aa _ (ai @ew ?_);refine⟨by omega,fun x hx=>⟨hj1,fun y hy=>⟨hj1,fun z hz=>?_⟩⟩⟩;cases aC hc0 hx;cases aC hc1 hy;cases aC hc1 hz;rw[f2,g2]
   have hbn:k1.leaf=false→k1.l≠[]:=fun hl=>by
    cases d with
    |zero=>rw[hnd1.1]at hl;cases hl
    |succ d=>exact hnd1.2.1
   refine Y.lM (fun T hT=>XQ w0 d k0 k1 c1.key T hnd0 hnd1 (by omega) (by omega) hbn) ?_;have hbo:=yn hnd0 hnd1 hkey1
   have hbl:(bQ k0 k1 c1.key).l.length≤524288:=by
    unfold bQ;simp only[N.eX,c9];split
    ·omega
    ·rw[pY];omega
   generalize bQ k0 k1 c1.key=bo at*;have hw1:Nd (d+1) (.mk 0 false (aA n.l (j+1) [])):=ia hn hj1 0 (.inl (by omega)) (fun c hc=>by cases hc);have hwl:=cI (m:=[]) hj1;simp only[acL]at hwl
   have hw2:=ia hw1 (i:=j) (by simp only[N.eX];omega) 0 (m:=[ak c0.key bo]) (.inr (by simp)) fun c hc=>by
    rw[acz]at hc;subst hc;exact dQ hkey0 hbo
   have hwc:(aA (aA n.l (j+1) []) j [ak c0.key bo])[j]? =some (ak c0.key bo):=vN (by omega);have hwn:=cI (l:=aA n.l (j+1) []) (i:=j) (m:=[ak c0.key bo]) (by omega);simp only[abx,acL]at hwn;simp only[N.eX]at hw2
   have hwk:Wk (.agg [dI 0,dB false,.sl 1 false (((n.l.take (j+1)).map fun c=>dS c.key)++((n.l.drop (j+1+1)).map fun c=>dS c.key)),.sl 0 true [],.sl 5 false (dK (n.l.take j)++[eT bo]++dK (n.l.drop (j+2)))]) (eT (.mk 0 false (aA (aA n.l (j+1) []) j [ak c0.key bo]))):=
    ub (qc (qc hone (fun c hc=>by cases hc)) (pM _ _)) (Io hj1 hc0 bo) (H7 hj1 c0.key bo)
   have hsp:∀T,ab Tryz.prog w0 173 [eT (.mk 0 false (aA (aA n.l (j+1) []) j [ak c0.key bo])),dI j] T (fun d S'=>d= .bM [eT m,dB (aR (.mk 0 false (aA (aA n.l (j+1) []) j [ak c0.key bo])) bo j c0.key).2]∧S'=T):=fun T=>by
    rw[hm0];exact OG w0 d (.mk 0 false (aA (aA n.l (j+1) []) j [ak c0.key bo])) bo (ak c0.key bo) j T hw2 (by simp only[N.eX];omega) hwc rfl hbl
   generalize (aR (.mk 0 false (aA (aA n.l (j+1) []) j [ak c0.key bo])) bo j c0.key).2=pb at hsp;generalize N.mk 0 false (aA (aA n.l (j+1) []) j [ak c0.key bo])=M at hwk hsp;clear hm0 hw2 hwc hwn hwl hw1;refine @aa _ (af ?_);intro b3;refine Y.j4 [] [] [0,2,3,5,7,12,1,4,6,8,9,10,11,13,14,15,16,17,18,19] mx (by kernel_rfl) ?_;refine @aa _ (ai @ew ?_);refine Y.lM (fun T hT=>FC w0 (n.l.map fun c=>dS c.key) [] (j+1) 1 false T (by rw[abv];omega) (by rw[abv];omega) (by simp)) ?_ ⟨.refl _,.refl _,.refl _,.nil _ _ _,trivial⟩;refine @aa _ (af ?_);refine Y.lM (fun T hT=>swapT w0 (dK n.l) [eT bo] j 2 true T (by rw[jt];omega) (by rw[jt];omega) (by simp)) ?_;refine @aa _ (af ?_);refine Y.lM (fun T hT=>hsp T) ?_ ⟨?_,.refl _,trivial⟩
   ·exact @aa _ aF
   ·rw[aa1];exact hwk
theorem NX{n:N}{x:DV}(h:eT n=x):Wk (.agg [dI 0,dB false,.sl 1 true [.v (.string {data:= #[]})],.sl 0 true [],.sl 5 true [x]]) (zP 0 [ak aN n]):=by
 have e:zP 0 [ak aN n]= .agg [dI 0,dB false,.sl 1 false [.v (.string {data:= #[]})],.sl 2 false [],.sl 5 false [x]]:=by
  rw[←h,←kT];rfl
 rw[e];exact .agg (.cons (.refl _) (.cons (.refl _) (.cons (.full _ _ _) (.cons (.nil _ _ _) (.cons (.full _ _ _) .nil)))))
theorem W6(w0:W0):∀(d:Nat) (n:N) (S:St),Nd d n→bA n≤131000→ab Tryz.prog w0 115 [eT n] S (fun e S'=>e=eT (jD n)∧S'=S):=by
 have fin:∀(d:Nat) (n:N),Nd d n→bA n≤131000→atR (ah n)≠0→∀T,ab Tryz.prog w0 126 [zP 0 [ak aN n],dI 0] T (fun e S'=>e=eT (cG (.mk 0 false [ak aN n]) 0)∧S'=T):=fun d n hn ht h0 T=>by
  have hM:Nd (d+1) (.mk 0 false [ak aN n]):=⟨rfl,List.cons_ne_nil _ _,fun c hc=>by
   rw[N.eX,acz]at hc;subst hc;exact dQ (by rw[bk];omega) hn⟩
  have:=Nt w0 d (.mk 0 false [ak aN n]) 0 T hM (by rw[jB,bI,ll,jh];omega) (Nat.lt_add_one 0);rw[fc (n:= .mk 0 false [ak aN n]) rfl (pM _ _)]at this;exact this
 intro d
 induction d with
 |zero=>
  intro n S hn ht;have hlen:=aT n;have hsm:=oq hn;have e1:=cZ n (.inl hn.1);generalize jD n=m at e1;have hf:=fin 0 n hn ht;rw[cm hn.1]at*;refine aJ [] mx Tryz.func115 rfl rfl (by kernel_rfl) ?_;refine @aa _ (ai @Tryz.ntmps115 ?_);intro b b1;refine ae (rH w0 n _ hsm (by omega)) ?_ ⟨.eq (cm hn.1).symm,trivial⟩;refine @aa _ (af ?_);refine ae (atP w0 _ _ (fp n hsm (by omega))) ?_;refine @aa _ (af ?_);refine⟨fun h0=>?_,fun h0=>?_⟩
  ·rw[if_pos (by omega)]at e1;subst e1;exact .eq (cm hn.1).symm
  ·rw[if_neg (by omega)]at e1;subst e1;refine ae (hf (by omega) _) ?_ ⟨NX (cm hn.1),.refl _,trivial⟩;exact @aa _ aF
 |succ d ih=>
  intro n S hn ht;have hlen:=aT n;have hsm:=oq hn;have hone:=jr hn hn.1;generalize hm:jD n=m;have hf:=fin (d+1) n hn ht;rw[fc hn.1 hone]at*;refine aJ [] mx Tryz.func115 rfl rfl (by kernel_rfl) ?_;refine @aa _ (ai @Tryz.ntmps115 ?_);unfold zP;refine @aa _ (af ?_);intro b b1;refine⟨fun h1=>⟨by omega,fun c hc=>?_⟩,fun h1=>?_⟩
  ·obtain⟨c',kid,hc',_,e2,hkid,_,hnd⟩:=cw hn (k:=0) (by omega);cases aC hc hc'
   have hl:n.l=[c]:=by
    cases h:n.l with
    |nil=>rw[h]at hc;cases hc
    |cons a r=>
     rw[h]at hc h1
     cases r with
     |nil=>cases hc;rfl
     |cons _ _=>simp at h1;omega
   have hkt:=cL (aap hc) hkid;rw[e2];refine ae (ih kid _ hnd (by omega)) ?_;rw[j7 n hn.1 hl hkid]at hm;rw[hm];exact @aa _ aF
  ·have e1:=cZ n (.inr (by omega));rw[hm]at e1;refine ae (rH w0 n _ hsm (by omega)) ?_ ⟨.eq (fc hn.1 hone).symm,trivial⟩;refine @aa _ (af ?_);refine ae (atP w0 _ _ (fp n hsm (by omega))) ?_;refine @aa _ (af ?_);refine⟨fun h0=>?_,fun h0=>?_⟩
   ·rw[if_pos (by omega)]at e1;subst e1;exact .eq (fc hn.1 hone).symm
   ·rw[if_neg (by omega)]at e1;subst e1;refine ae (hf (by omega) _) ?_ ⟨NX (fc hn.1 hone),.refl _,trivial⟩;exact @aa _ aF
theorem My{l:List C}(h:dF l)(key:ByteArray):(eG l key=false→l.find? (fun c=>eF c.key key)=none)∧∀c,l[bf l key]? =some c→eG l key=true→l.find? (fun c=>eF c.key key)=some c:=by
 obtain⟨A,B,hl,hA,hB⟩:=rq key h;have hi:bf l key=A.length:=by rw[hl];exact qU hA hB
 have hg:l[bf l key]? =B[0]? :=by rw[hi,hl,adN (abI _),aeK]
 have f1:A.find? (fun c=>eF c.key key)=none:=aeT.2 fun x hx=>by
  rw[bF.2 (cz (hA x hx))];simp
 have e:l.find? (fun c=>eF c.key key)=B.find? fun c=>eF c.key key:=by rw[hl,afi,f1];rfl
 rw[e];unfold eG;rw[hg]
 cases B with
 |nil=>exact⟨fun _=>rfl,fun c hc=>by cases hc⟩
 |cons b B=>
  simp only[aeX];refine⟨fun hn=>?_,fun c hc hy=>?_⟩
  ·rw[afu,hn];refine aeT.2 fun x hx=>?_;have hr:dF (b::B):=by rw[hl]at h;exact(aeB.1 h).2.1
   have h1:cC b.key x.key=true:=(adM.1 hr).1 x hx;have h2:kL key b.key=true:=fR.2 (hB b aaX);rw[bF.2 (cz (mK h2 h1)).symm];simp
  ·cases hc;rw[afu,hy]
theorem td{l:List C}{key:ByteArray}(h:eG l key=true)(val:ByteArray):bf l key+1≤l.length∧bU l key val=l.take (bf l key)++[.mk key val [] []]++l.drop (bf l key+1):=by
 unfold eG at h;unfold bU;split at h
 ·rename_i c hc;refine⟨(aaq.1 hc).1,?_⟩;simp only[hc,h,if_true];rfl
 ·cases h
theorem EZ{l:List C}{key:ByteArray}(h:eG l key=false)(val:ByteArray):bU l key val=l.take (bf l key)++[.mk key val [] []]++l.drop (bf l key+0):=by
 unfold eG at h;unfold bU;split at h
 ·rename_i c hc;simp only[hc,h,adP,if_false];rfl
 ·rename_i hc;simp only[hc];rfl
theorem NZ(key val:ByteArray):Wk (.sl 2 true [.agg [dS val,.sl 0 true []]]) (.sl 2 true [gx (.mk key val [] [])]):= .sl ⟨.agg (.cons (.refl _) (.cons (.nil _ _ _) .nil)),trivial⟩
theorem ZS(w0:W0)(key val:ByteArray)(hk:key.size≤16)(hv:val.size≤400):∀(d:Nat) (n:N) (S:St),Good d n→bA n+d+8≤131000→ab Tryz.prog w0 116 [eT n,dS key,dS val] S (fun e S'=>e=eT (cb key val n)∧S'=S):=by
 intro d
 induction d with
 |zero=>
  intro n S hg ht;have hlen:=aT n;rw[fS key val n hg.1,cm hg.1,cm rfl];refine aJ [] mx Tryz.func116 rfl rfl (by kernel_rfl) ?_;refine @aa _ (ai @Tryz.ntmps116 ?_);intro b b1;refine ae (FP w0 n.l key _ (rY hg.2.1 key) (by omega)) ?_;refine @aa _ (af ?_);refine⟨fun hy=>?_,fun hno=>?_⟩
  ·obtain⟨hi,hput⟩:=td hy val;refine aK (FC w0 (n.l.map fun c=>dS c.key) [dS key] (bf n.l key) 1 _ _ (by rw[abv];omega) (by rw[abv];omega) (by simp)) ?_;refine @aa _ (af ?_);refine aK (Sy w0 (n.l.map gx) [gx (.mk key val [] [])] (bf n.l key) 1 true _ (by rw[abv];omega) (by rw[abv];omega) (by simp)) ?_ ⟨.refl _,.refl _,.refl _,NZ key val,trivial⟩;refine @aa _ (af ?_);rw[hput];simp only[aa1,aa9,adT];exact .agg (.cons (.refl _) (.cons (.refl _) (.cons (.refl _) (.cons (.refl _) (.cons (.nil _ _ _) .nil)))))
  ·have hi:=CR n.l key;refine aK (FC w0 (n.l.map fun c=>dS c.key) [dS key] (bf n.l key) 0 _ _ (by rw[abv];omega) (by rw[abv];omega) (by simp)) ?_;refine @aa _ (af ?_);refine aK (Sy w0 (n.l.map gx) [gx (.mk key val [] [])] (bf n.l key) 0 true _ (by rw[abv];omega) (by rw[abv];omega) (by simp)) ?_ ⟨.refl _,.refl _,.refl _,NZ key val,trivial⟩;refine @aa _ (af ?_);rw[EZ hno];simp only[aa1,aa9,adT];exact .agg (.cons (.refl _) (.cons (.refl _) (.cons (.refl _) (.cons (.refl _) (.cons (.nil _ _ _) .nil)))))
 |succ d ih=>
  intro n S hg ht;have hn:=ax hg;have hlen:=aT n;have hone:=jr hn hn.1;have hlt:=fZ hg.2.1 key;obtain⟨c,kid,hc,e1,e2,hkid,hkey,hnd⟩:=cw hn (k:=fY n.l key) hlt;obtain⟨-, -,kid',hkid',hgk, -⟩:=hg.2.2.cell c (aap hc);rw[hkid]at hkid';cases hkid';have hkt:=cL (aap hc) hkid;have hw:=Vq w0 n key;rw[jz key val n hg.1 hc hkid];have hpt:=oO hk hv hnd;have hpn:=fW hk hv hnd;have ihk:=ih kid;generalize cb key val kid=pk at hpt hpn ihk ⊢
  have hM:=ia hn hlt 0 (m:=[ak c.key pk]) (.inr (by simp)) fun c hc=>by
   rw[acz]at hc;subst hc;exact dQ hkey hpn
  have hMt:bA (.mk 0 false (aA n.l (fY n.l key) [ak c.key pk]))≤131072:=by
   have:=jM (m:=[ak c.key pk]) hc;rw[jB];rw[bI,ll,jh,dw hkid,←bu n]at this;omega
  have hmend:=fun T=>Nt w0 d _ (fY n.l key) T hM hMt (by rw[N.eX];have:=cI (m:=[ak c.key pk]) hlt;simp at this;omega)
  have hwk:Wk (.agg [dI 0,dB false,.sl 1 false (n.l.map fun c=>dS c.key),.sl 0 true [],.sl 5 false (dK (n.l.take (fY n.l key))++[eT pk]++dK (n.l.drop (fY n.l key+1)))]) (eT (.mk 0 false (aA n.l (fY n.l key) [ak c.key pk]))):=
   ub (qc hone (pM _ _)) (Fh hc pk) (De n.l _ c.key pk)
  generalize cG (.mk 0 false (aA n.l (fY n.l key) [ak c.key pk])) (fY n.l key)=m at hmend ⊢;generalize N.mk 0 false (aA n.l (fY n.l key) [ak c.key pk])=M at hmend hwk;clear hM hMt;rw[fc hn.1 hone]at hw ⊢;refine aJ [] mx Tryz.func116 rfl rfl (by kernel_rfl) ?_;refine @aa _ (ai @Tryz.ntmps116 ?_);unfold zP;refine @aa _ (af ?_);intro b b1;refine ae (hw _ (by omega) hg.2.1) ?_;refine @aa _ (af ?_);refine⟨hlt,fun x hx=>?_⟩;cases aC hc hx;rw[e2];refine aK (ihk _ hgk (by omega)) ?_;refine @aa _ (af ?_);refine aK (swapT w0 (dK n.l) [eT pk] (fY n.l key) 1 true _ (by rw[jt];omega) (by rw[jt];omega) (by simp)) ?_;refine @aa _ (af ?_);refine aK (hmend _) ?_ ⟨hwk,.refl _,trivial⟩;exact @aa _ aF
theorem aaZ(w0:W0)(key val:ByteArray)(hk:key.size≤16)(hv:val.size≤400)(d:Nat)(n:N)(S:St)(hg:Good d n)(ht:bA n+2*d+16≤131000):ab Tryz.prog w0 65 [eT n,dS key,dS val] S (fun e S'=>e=eT (kN key val n)∧S'=S):=by
 have h1:=ZS w0 key val hk hv d n;have h2:=oO hk hv (ax hg);have h3:=W6 w0 d (cb key val n);have h4:=fW hk hv (ax hg);unfold kN;generalize cb key val n=p at*;generalize jD p=q at*;refine aJ [] mx Tryz.func65 rfl rfl (by kernel_rfl) ?_;refine @aa _ (ai @Tryz.ntmps65 ?_);intro b b1;refine ae (h1 _ hg (by omega)) ?_;refine @aa _ (af ?_);refine ae (h3 _ h4 (by omega)) ?_;exact @aa _ aF
theorem SU(w0:W0)(key:ByteArray)(d:Nat)(n:N)(S:St)(hg:Good d n)(ht:bA n≤131000):ab Tryz.prog w0 117 [eT n,dS key] S (fun e S'=>e= .bM [dS ((cD key n).getD aN),dB (cD key n).isSome]∧S'=S):=by
 refine aJ [] mx Tryz.func117 rfl rfl (by kernel_rfl) ?_;refine @aa _ (ai @Tryz.ntmps117 ?_);intro b;refine jf [] [1,2] (fun s:Nat×N=>[]) (fun s=>⟨(b.n,cT s.2)::S.box,S.acc⟩) (fun s=>Good s.1 s.2∧bA s.2≤131000∧cD key s.2=cD key n) (fun s=>s.1) (d,n) mx (by kernel_rfl) ?_ ?_
 ·simp(maxDischargeDepth:=12) (maxSteps:=1000000) -implicitDefEqProofs only[go_sem,Nat.reduceAdd,Nat.reduceSub,Nat.reduceMul,Nat.reduceLeDiff,Nat.reduceEqDiff,Nat.reduceGT,Nat.reduceBEq,reduceCtorEq,↓reduceIte,Int.reduceToNat,Int.reduceLE,Int.reduceLT,Int.reduceNe,Int.reduceEq,cT];exact⟨hg,ht⟩
 ·rintro⟨d,m⟩ ⟨hg,ht,he⟩;simp only at hg ht he;have hlen:=aT m
  cases d with
  |zero=>
   have hl:=hg.1;have hf:=My hg.2.1 key;rw[←he,mF key m hl];simp only[cT,hl,gM hl,if_true];refine @aa _ (af ?_);refine ae (FP w0 m.l key _ (rY hg.2.1 key) (by omega)) ?_;refine @aa _ (af ?_);refine⟨fun h=>?_,fun h=>?_⟩
   ·rw[hf.1 h];exact .refl _
   ·obtain⟨hi, -⟩:=td h aN;refine⟨by omega,fun a ha=>?_⟩;rw[hf.2 a ha h];exact .refl _
  |succ d=>
   have hn:=ax hg;have hone:=jr hn hn.1;have hlt:=fZ hg.2.1 key;obtain⟨c,kid,hc,e1,e2,hkid,hkey,hnd⟩:=cw hn (k:=fY m.l key) hlt;obtain⟨-, -,kid',hkid',hgk, -⟩:=hg.2.2.cell c (aap hc);rw[hkid]at hkid';cases hkid';have hkt:=cL (aap hc) hkid
   have hec:cT m=[dI m.aj,dB false,.sl 1 false (m.l.map fun c=>dS c.key),.sl 2 false [],.sl 5 false (dK m.l)]:=by
    have:=fc hn.1 hone;unfold eT zP at this;unfold cT;exact DV.agg.inj this
   have hw:=Vq w0 m key;rw[fc hn.1 hone]at hw;rw[hec];refine @aa _ (af ?_);refine⟨fun _=>aK (hw _ (by omega) hg.2.1) ?_,fun h=>absurd (by omega) h⟩;refine @aa _ (af ?_);refine⟨hlt,fun x hx=>?_⟩;cases aC hc hx;rw[e2];refine⟨(d,kid),⟨hgk,by show bA kid≤131000;omega,?_⟩,Nat.lt_add_one d,?_⟩
   ·show cD key kid=cD key n;rw[←he,qK key m hg.1 hc hkid]
   ·exact .refl _
theorem jc{s:Nat}{xs:List DV}(h:tY s xs)(n:Nat):tY s (xs.take n):=fun d hd=>h d (ac5 hd)
theorem jg{s:Nat}{xs:List DV}(h:tY s xs)(n:Nat):tY s (xs.drop n):=fun d hd=>h d (adk hd)
theorem qe{s:Nat}{xs ys:List DV}(h:tY s xs)(k:tY s ys):tY s (xs++ys):=fun d hd=>(abD.1 hd).elim (h d) (k d)
theorem ir{ds cs:List DV}{o:Nat}(h:o+cs.length≤ds.length):(cS ds o cs).length=ds.length:=by
 unfold cS;simp only[c9,aaE,acv];omega
theorem oH{ds cs:List DV}{o:Nat}(h:o+cs.length≤ds.length):(cS ds o cs).take (o+cs.length)=ds.take o++cs:=by
 unfold cS;rw[aeb (by simp only[c9,aaE];omega)];exact aaA (by simp only[c9,aaE];omega)
theorem qv{ds cs:List DV}{o k:Nat}(hk:k≤o)(h:o+cs.length≤ds.length):(cS ds o cs).take k=ds.take k:=by
 unfold cS;rw[aeb (by simp only[c9,aaE];omega),aeb (by simp only[aaE];omega),List.take_take,aff hk]
theorem rV{s c i o:Nat}{xs:List DV}{Z:List DV}(hs:0<s)(he:tY s xs)(hi:i<xs.length)(hc:xs.length≤c)(ho:o=(i+1)*s∨xs.length=i+1)(ho2:o≤c*s)(hZ:Z.length=s):
 i*s+(((iu s c xs).drop o).take ((xs.length-(i+1))*s)).length≤(iu s c xs).length∧
 o+(xs.length-(i+1))*s≤(iu s c xs).length∧
 (cS (iu s c xs) (i*s) (((iu s c xs).drop o).take ((xs.length-(i+1))*s))).length=c*s∧
 (cS (cS (iu s c xs) (i*s) (((iu s c xs).drop o).take ((xs.length-(i+1))*s))) ((xs.length-1)*s) Z).length=c*s∧
 (cS (cS (iu s c xs) (i*s) (((iu s c xs).drop o).take ((xs.length-(i+1))*s))) ((xs.length-1)*s) Z).take ((xs.length-1)*s)=(xs.take i++xs.drop (i+1)).flatMap cd:=by
 have KH:=nq he hc;have hcs:xs.length*s≤c*s:=ad3 s hc
 have hB:((iu s c xs).drop o).take ((xs.length-(i+1))*s)=(xs.drop (i+1)).flatMap cd:=by
  rcases ho with rfl|ho
  ·have e:xs.flatMap cd=(xs.take (i+1)).flatMap cd++(xs.drop (i+1)).flatMap cd:=by rw[←adK,adI]
   have l1:((xs.take (i+1)).flatMap cd).length=(i+1)*s:=by rw[iN (jc he _),aaE];congr 1;omega
   have l2:((xs.drop (i+1)).flatMap cd).length=(xs.length-(i+1))*s:=by rw[iN (jg he _),acv]
   unfold iu;rw[e,abA,List.drop_append,l1,aeV (by omega),adZ,aeK,aeM,aeb (by omega),aaA (by omega)]
  ·have h0:xs.drop (i+1)=[]:=aeV (by omega);rw[h0,show xs.length-(i+1)=0 by omega];simp
 have hBl:((xs.drop (i+1)).flatMap cd).length=(xs.length-(i+1))*s:=by rw[iN (jg he _),acv]
 rw[hB];have h1:i*s+(xs.length-(i+1))*s=(xs.length-1)*s:=by rw[←afa];congr 1;omega
 have h2:(xs.length-1)*s+s=xs.length*s:=by rw[←aeE];congr 1;omega
 have hA:(iu s c xs).take (i*s)=(xs.take i).flatMap cd:=by
  have e:xs.flatMap cd=(xs.take i).flatMap cd++(xs.drop i).flatMap cd:=by rw[←adK,adI]
  have l1:((xs.take i).flatMap cd).length=i*s:=by rw[iN (jc he _),aaE];congr 1;omega
  unfold iu;rw[e,abA,aeb (by omega),aaA (by omega)]
 have q1:i*s+((xs.drop (i+1)).flatMap cd).length≤(iu s c xs).length:=by rw[hBl,KH];omega
 have q3:=(ir q1).trans KH;have q4:(xs.length-1)*s+Z.length≤(cS (iu s c xs) (i*s) ((xs.drop (i+1)).flatMap cd)).length:=by rw[q3,hZ];omega
 refine⟨q1,?_,q3,(ir q4).trans q3,?_⟩
 ·rw[KH];rcases ho with rfl|ho
  ·rw[←afa,show i+1+(xs.length-(i+1))=xs.length by omega];exact hcs
  ·rw[show xs.length-(i+1)=0 by omega];omega
 ·rw[qv (abI _) q4];have:=oH q1;rw[hBl,h1]at this;rw[this,hA,adK]
theorem aa8(w0:W0)(S:St)(l:Nat)(xs:List DV)(i:Nat)(hl:lk S.acc l=some (.arr 1 xs))(he:tY 1 xs)(hi:i<xs.length)(hb:xs.length≤1048576):
 ab Tryz.prog w0 122 [.acc l xs.length,dI i,dI ((i+1:Nat):Int)] S fun d S'=>∃m:FN S.acc,d= .acc m.n (xs.length-1)∧S'=⟨S.box,tm S.acc l (m.n,.arr 1 (xs.take i++xs.drop (i+1)))⟩:=by
 have hyl:(xs.take i++xs.drop (i+1)).length=xs.length-1:=by rw[c9,aaE,acv];omega
 refine(mG (P:=Tryz.prog) (w0:=w0) (K:=fun ys=>ys=xs.take i++xs.drop (i+1)) hl (by intro e;rw[e]at hi;cases hi) (by omega) he fun b c hbn hc1 hc2=>?_).mono ?_
 ·obtain⟨z1,z2,z3,z4,z5⟩:=rV (s:=1) (c:=c) (o:=if c=i+1 then 0 else(i+1)*1) (Z:=jw (.v (.string ByteArray.empty)) 1) (by omega) he hi hc1 (by split <;>first|(right;omega)|(left;rfl)) (by have:=ad3 1 (show i+1≤c by omega);split <;>omega) rfl;have hrow:=nq he hc1;generalize iu 1 c xs=ds at*;refine mU [] mx Tryz.func122 rfl rfl (by kernel_rfl) ?_;refine @aa _ (ai @Tryz.ntmps122 ?_);have e1:i+(xs.length-(i+1))=xs.length-1:=by omega
  have e2:(if c=0 then 0 else 0)=0:=by split <;>rfl
  have e3:xs.length-(xs.length-1)=1:=by omega
  have e4:¬(c=xs.length-1):=by omega
  simp only[e1,e2,e3,e4,afW,aeD,if_false];refine⟨by omega,by omega,hc1,fun h=>by omega,fun _=>⟨by omega,by omega,hc1,by omega,by omega,z2,fun h1=>⟨by omega,by omega,?_,?_⟩,fun h1=>by omega⟩⟩
  ·rw[z3];have:=ad3 1 hc1;omega
  ·refine⟨b,c,_,_,_,rfl,by rw[hyl],by simp only[lk,if_true],rfl,?_,qe (jc he _) (jg he _),?_,z4,by omega,hc2⟩
   ·rw[ae4 (by simp)];rw[aeJ.2 fun p hp=>by simpa using Y.lD hbn p hp];exact ad5 _
   ·rw[hyl];exact z5
 ·rintro d S' ⟨ys,m,rfl,rfl,rfl⟩;exact⟨m,by rw[hyl],rfl⟩
theorem aaK(w0:W0)(S:St)(l:Nat)(xs:List DV)(i:Nat)(hl:lk S.acc l=some (.arr 2 xs))(he:tY 2 xs)(hi:i<xs.length)(hb:xs.length≤1048576):
 ab Tryz.prog w0 123 [.acc l xs.length,dI i,dI ((i+1:Nat):Int)] S fun d S'=>∃m:FN S.acc,d= .acc m.n (xs.length-1)∧S'=⟨S.box,tm S.acc l (m.n,.arr 2 (xs.take i++xs.drop (i+1)))⟩:=by
 have hyl:(xs.take i++xs.drop (i+1)).length=xs.length-1:=by rw[c9,aaE,acv];omega
 refine(mG (P:=Tryz.prog) (w0:=w0) (K:=fun ys=>ys=xs.take i++xs.drop (i+1)) hl (by intro e;rw[e]at hi;cases hi) (by omega) he fun b c hbn hc1 hc2=>?_).mono ?_
 ·obtain⟨z1,z2,z3,z4,z5⟩:=rV (s:=2) (c:=c) (o:=if c=i+1 then 0 else(i+1)*2) (Z:=jw (.agg [.v (.string ByteArray.empty),.sl 0 true []]) 1) (by omega) he hi hc1 (by split <;>first|(right;omega)|(left;rfl)) (by have:=ad3 2 (show i+1≤c by omega);split <;>omega) rfl;have hrow:=nq he hc1;generalize iu 2 c xs=ds at*;refine mU [] mx Tryz.func123 rfl rfl (by kernel_rfl) ?_;refine @aa _ (ai @Tryz.ntmps123 ?_);have e1:i+(xs.length-(i+1))=xs.length-1:=by omega
  have e2:(if c=0 then 0 else 0)=0:=by split <;>rfl
  have e3:xs.length-(xs.length-1)=1:=by omega
  have e4:¬(c=xs.length-1):=by omega
  simp only[e1,e2,e3,e4,afW,aeD,if_false];refine⟨by omega,by omega,hc1,fun h=>by omega,fun _=>⟨by omega,by omega,hc1,by omega,by omega,z2,fun h1=>⟨by omega,by omega,?_,?_⟩,fun h1=>by omega⟩⟩
  ·rw[z3];have:=ad3 2 hc1;omega
  ·refine⟨b,c,_,_,_,rfl,by rw[hyl],by simp only[lk,if_true],rfl,?_,qe (jc he _) (jg he _),?_,z4,by omega,hc2⟩
   ·rw[ae4 (by simp)];rw[aeJ.2 fun p hp=>by simpa using Y.lD hbn p hp];exact ad5 _
   ·rw[hyl];exact z5
 ·rintro d S' ⟨ys,m,rfl,rfl,rfl⟩;exact⟨m,by rw[hyl],rfl⟩
theorem aaV(w0:W0)(S:St)(l:Nat)(xs:List DV)(i:Nat)(hl:lk S.acc l=some (.arr 6 xs))(he:tY 6 xs)(hi:i<xs.length)(hb:xs.length≤1048576):
 ab Tryz.prog w0 71 [.acc l xs.length,dI i,dI ((i+1:Nat):Int)] S fun d S'=>∃m:FN S.acc,d= .acc m.n (xs.length-1)∧S'=⟨S.box,tm S.acc l (m.n,.arr 6 (xs.take i++xs.drop (i+1)))⟩:=by
 have hyl:(xs.take i++xs.drop (i+1)).length=xs.length-1:=by rw[c9,aaE,acv];omega
 refine(mG (P:=Tryz.prog) (w0:=w0) (K:=fun ys=>ys=xs.take i++xs.drop (i+1)) hl (by intro e;rw[e]at hi;cases hi) (by omega) he fun b c hbn hc1 hc2=>?_).mono ?_
 ·obtain⟨z1,z2,z3,z4,z5⟩:=rV (s:=6) (c:=c) (o:=if c=i+1 then 0 else(i+1)*6) (Z:=jw (.agg [.v (.string ByteArray.empty),.v (.int .i64 0),.v (.bool false),.sl 0 true [],.sl 0 true [],.sl 0 true []]) 1) (by omega) he hi hc1 (by split <;>first|(right;omega)|(left;rfl)) (by have:=ad3 6 (show i+1≤c by omega);split <;>omega) rfl;have hrow:=nq he hc1;generalize iu 6 c xs=ds at*;refine mU [] mx Tryz.func71 rfl rfl (by kernel_rfl) ?_;refine @aa _ (ai @Tryz.ntmps71 ?_);have e1:i+(xs.length-(i+1))=xs.length-1:=by omega
  have e2:(if c=0 then 0 else 0)=0:=by split <;>rfl
  have e3:xs.length-(xs.length-1)=1:=by omega
  have e4:¬(c=xs.length-1):=by omega
  simp only[e1,e2,e3,e4,afW,aeD,if_false];refine⟨by omega,by omega,hc1,fun h=>by omega,fun _=>⟨by omega,by omega,hc1,by omega,by omega,z2,fun h1=>⟨by omega,by omega,?_,?_⟩,fun h1=>by omega⟩⟩
  ·rw[z3];have:=ad3 6 hc1;omega
  ·refine⟨b,c,_,_,_,rfl,by rw[hyl],by simp only[lk,if_true],rfl,?_,qe (jc he _) (jg he _),?_,z4,by omega,hc2⟩
   ·rw[ae4 (by simp)];rw[aeJ.2 fun p hp=>by simpa using Y.lD hbn p hp];exact ad5 _
   ·rw[hyl];exact z5
 ·rintro d S' ⟨ys,m,rfl,rfl,rfl⟩;exact⟨m,by rw[hyl],rfl⟩
theorem AU(a b:ByteArray):eF a b=eF b a:=by
 cases h:eF b a with
 |true=>rw[bZ.1 h];exact gk _
 |false=>exact bF.2 fun e=>by rw[e,gk]at h;cases h
theorem VL(w0:W0)(l:List C)(key:ByteArray)(i:Nat)(c:C)(S:St)(h0:∀(j:Nat) a,j<i→l[j]? =some a→eF a.key key=false)(hc:l[i]? =some c)(he:eF c.key key=true)(hb:l.length≤1048576):
 ab Tryz.prog w0 119 [.sl 1 false (l.map fun c=>dS c.key),dS key] S (fun d S'=>d=dI i∧S'=S):=by
 have hlt:=(aaq.1 hc).1;refine aJ [] mx Tryz.func119 rfl rfl (by kernel_rfl) ?_;refine @aa _ (ai @Tryz.ntmps119 ?_);refine aw [] i [0,1,7,8] (fun k=>[(8,dI k)]) (fun _=>S) (fun _=>True) mx (by kernel_rfl) ?_ ?_
 ·exact @aa _ aF
 ·intro k hk _;refine @aa _ (af ?_);refine⟨fun hl=>⟨hl,fun a ha=>⟨fun h=>?_,fun h=>⟨?_,aZ k (by omega)⟩⟩⟩,fun hl=>by omega⟩
  ·rcases adR k i with q|q
   ·have:=h0 k a q ha;rw[AU,h]at this;cases this
   ·have:k=i:=by omega
    subst this;rfl
  ·rcases adR k i with q|q
   ·omega
   ·have:k=i:=by omega
    subst this;cases aC hc ha;rw[AU,he]at h;cases h
theorem EI{l:List C}(h:dF l){key:ByteArray}(hf:(l.find? fun c=>eF c.key key).isSome=true):∃i c,l[i]? =some c∧eF c.key key=true∧(∀(j:Nat) a,j<i→l[j]? =some a→eF a.key key=false)∧(l.filter fun c=>!eF c.key key)=l.take i++l.drop (i+1):=by
 obtain⟨A,B,hl,hA,hB⟩:=rq key h;have hn:∀a,a∈A→eF a.key key=false:=fun a ha=>bF.2 (cz (hA a ha));have f1:A.find? (fun c=>eF c.key key)=none:=aeT.2 fun x hx=>by rw[hn x hx];simp
 rw[hl,afi,f1]at hf
 cases B with
 |nil=>simp at hf
 |cons b B=>
  have hr:dF (b::B):=by rw[hl]at h;exact(aeB.1 h).2.1
  have hb1:∀x,x∈B→eF x.key key=false:=fun x hx=>by
   have h1:cC b.key x.key=true:=(adM.1 hr).1 x hx;have h2:kL key b.key=true:=fR.2 (hB b aaX);exact bF.2 (cz (mK h2 h1)).symm
  have hb:eF b.key key=true:=by
   cases hq:eF b.key key with
   |true=>rfl
   |false=>
    have:(b::B).find? (fun c=>eF c.key key)=none:=aeT.2 fun x hx=>by
     rcases ab6.1 hx with rfl|hx
     ·rw[hq];simp
     ·rw[hb1 x hx];simp
    rw[this]at hf;simp at hf
  refine⟨A.length,b,by rw[hl];simp,hb,fun j a hj ha=>?_,?_⟩
  ·rw[hl,ad4 hj]at ha;exact hn a (aap ha)
  ·rw[hl,aep,aeA,hb,fx (fun a ha=>by rw[hn a ha];rfl),fx (l:=B) (fun a ha=>by rw[hb1 a ha];rfl)];simp
theorem Nk(l:List C):tY 1 (l.map fun c=>dS c.key):=fun d hd=>by
 obtain⟨c,_,rfl⟩:=adS.1 hd;exact⟨rfl,rfl⟩
theorem KG(l:List C):tY 2 (l.map gx):=fun d hd=>by
 obtain⟨c,_,rfl⟩:=adS.1 hd;exact⟨rfl,rfl⟩
def Zn(k b:Nat):DV:= .v (.func (.func 118) #[] #[.pointer (some ⟨k,0,none⟩),.pointer (some ⟨b,0,none⟩)])
theorem Ya(w0:W0)(key:ByteArray)(k3 b8:Nat):∀(d:Nat) (n:N) (S:St),Good d n→bA n+d≤131000→(cD key n).isSome=true→lk S.box k3=some [dS key]→lk S.box b8=some [Zn k3 b8]→
 ab Tryz.prog w0 118 [eT n,.v (.pointer (some ⟨k3,0,none⟩)),.v (.pointer (some ⟨b8,0,none⟩))] S (fun e S'=>e=eT (aI key n)∧S'=S):=by
 intro d
 induction d with
 |zero=>
  intro n S hg ht hf t3 t8;have hlen:=aT n;rw[mF key n hg.1]at hf;obtain⟨i,c,hc,hce,h0,hflt⟩:=EI hg.2.1 (by simpa using hf);have hlt:=(aaq.1 hc).1;rw[cN key n hg.1,hflt,cm hg.1,cm rfl];refine aJ [3] mx Tryz.func118 rfl rfl (by kernel_rfl) ?_;simp only[Tryz.ntmps118,abx,acL,Nat.reduceAdd,Nat.reduceSub,List.reduceReplicate,aes,adZ];refine @aa _ (eE @Tryz.ntmps118 @t3 @t8 ?_);intro b b1;refine ae (VL w0 n.l key i c _ h0 hc hce (by omega)) ?_;refine @aa _ (aM @t3 @t8 ?_);refine Y.j4 [2,5] [] [0,3,1,4,2,5,6,7] mx (by kernel_rfl) ?_;refine @aa _ (aM @t3 @t8 ?_);refine bC (u9 w0 (n.l.map fun c=>dS c.key) _ (by rw[abv];omega)) ?_;rintro d S' ⟨l1,rfl,rfl⟩;refine @aa _ (aM @t3 @t8 ?_);refine bC (zw w0 (n.l.map gx) _ (by rw[abv];omega)) ?_;rintro d S' ⟨l2,rfl,rfl⟩;refine @aa _ (aM @t3 @t8 ?_);rw[aZ i (by omega)];refine .inl (bC (aa8 w0 _ l1.n (n.l.map fun c=>dS c.key) i (by exact @aa _ aF) (Nk _) (by rw[abv];exact hlt) (by rw[abv];omega)) ?_ ⟨.eq (by rw[abv]),.refl _,.refl _,trivial⟩);rintro d S' ⟨m1,rfl,rfl⟩;refine @aa _ (aM @t3 @t8 ?_);rw[aZ i (by omega)];refine .inl (bC (aaK w0 _ l2.n (n.l.map gx) i (by exact @aa _ aF) (KG _) (by rw[abv];exact hlt) (by rw[abv];omega)) ?_ ⟨.eq (by rw[abv]),.refl _,.refl _,trivial⟩);rintro d S' ⟨m2,rfl,rfl⟩;refine @aa _ (aM @t3 @t8 ?_);omega
 |succ d ih=>
  intro n S hg ht hf t3 t8;have hn:=ax hg;have hlen:=aT n;have hone:=jr hn hn.1;have hlt:=fZ hg.2.1 key;obtain⟨c,kid,hc,e1,e2,hkid,hkey,hnd⟩:=cw hn (k:=fY n.l key) hlt;obtain⟨-, -,kid',hkid',hgk, -⟩:=hg.2.2.cell c (aap hc);rw[hkid]at hkid';cases hkid';have hkt:=cL (aap hc) hkid;have hw:=Vq w0 n key;rw[qK key n hg.1 hc hkid]at hf;rw[fM key n hg.1 hc hkid];have hpt:=lj (key:=key) hnd;have hpn:=db (key:=key) hnd;have ihk:=ih kid;generalize aI key kid=pk at hpt hpn ihk ⊢;generalize hc':C.mk c.key c.data c.an [pk]=c'
  have hsh:UQ c'∧∃k,c'.kid=[k]∧Nd d k:=by
   obtain⟨q1,_⟩:=hn.2.2 c (aap hc);subst hc';exact⟨q1,pk,rfl,hpn⟩
  have hM:=sG hn hlt hsh
  have hMt:bA (.mk 0 false (n.l.set (fY n.l key) c'))≤131072:=by
   have:=F7 (c':=c') hc;rw[jB];have e3:nH c'=1+bA pk:=by subst hc';exact dw rfl
   rw[e3,dw hkid,←bu n]at this;omega
  have hmend:=fun T=>Nt w0 d _ (fY n.l key) T hM hMt (by rw[N.eX,afw];exact hlt)
  have hkeys:(n.l.map fun c=>dS c.key)=(n.l.set (fY n.l key) c').map fun c=>dS c.key:=by
   rw[afK];refine(afA fun j=>?_);rw[afh];split
   ·rename_i e;subst e;rw[acP,hc];subst hc';simp[hlt,C.key]
   ·rfl
  have hkids:(dK n.l).set (fY n.l key) (eT pk)=dK (n.l.set (fY n.l key) c'):=by
   unfold dK;rw[afK,←kT];subst hc';rfl
  have hones:∀x,x∈n.l.set (fY n.l key) c'→∃k,x.kid=[k]:=fun x hx=>by
   rcases mem_set hx with hx|rfl
   ·exact hone x hx
   ·obtain⟨k,hk,_⟩:=hsh.2;exact⟨k,hk⟩
  have hwk:Wk (.agg [dI 0,dB false,.sl 1 false (n.l.map fun c=>dS c.key),.sl 0 true [],.sl 5 false ((dK n.l).set (fY n.l key) (eT pk))]) (eT (.mk 0 false (n.l.set (fY n.l key) c'))):=ub hones hkeys hkids;generalize cG (.mk 0 false (n.l.set (fY n.l key) c')) (fY n.l key)=m at hmend ⊢;generalize N.mk 0 false (n.l.set (fY n.l key) c')=M at hmend hwk;clear hM hMt;rw[fc hn.1 hone]at hw ⊢;refine aJ [] mx Tryz.func118 rfl rfl (by kernel_rfl) ?_;simp only[Tryz.ntmps118,abx,acL,Nat.reduceAdd,Nat.reduceSub,List.reduceReplicate,aes,adZ];refine @aa _ (eE @Tryz.ntmps118 @t3 @t8 ?_);unfold zP;refine @aa _ (aM @t3 @t8 ?_);intro b b1;refine ae (hw _ (by omega) hg.2.1) ?_;refine @aa _ (aM @t3 @t8 ?_);refine bC (zu w0 (dK n.l) _ (by rw[jt];omega)) ?_;rintro d' S' ⟨l1,rfl,rfl⟩;simp(maxDischargeDepth:=12) (maxSteps:=1000000) -implicitDefEqProofs only[go_sem,Nat.reduceAdd,Nat.reduceSub,Nat.reduceMul,Nat.reduceLeDiff,Nat.reduceEqDiff,Nat.reduceGT,Nat.reduceBEq,reduceCtorEq,↓reduceIte,Int.reduceToNat,Int.reduceLE,Int.reduceLT,Int.reduceNe,Int.reduceEq,t3,t8,Zn];refine⟨hlt,fun x hx=>?_⟩;cases aC hc hx;rw[e2];refine aK (ihk _ hgk (by omega) hf (by simp(maxDischargeDepth:=12) (maxSteps:=1000000) -implicitDefEqProofs only[go_sem,Nat.reduceAdd,Nat.reduceSub,Nat.reduceMul,Nat.reduceLeDiff,Nat.reduceEqDiff,Nat.reduceGT,Nat.reduceBEq,reduceCtorEq,↓reduceIte,Int.reduceToNat,Int.reduceLE,Int.reduceLT,Int.reduceNe,Int.reduceEq,t3]) (by simp(maxDischargeDepth:=12) (maxSteps:=1000000) -implicitDefEqProofs only[go_sem,Nat.reduceAdd,Nat.reduceSub,Nat.reduceMul,Nat.reduceLeDiff,Nat.reduceEqDiff,Nat.reduceGT,Nat.reduceBEq,reduceCtorEq,↓reduceIte,Int.reduceToNat,Int.reduceLE,Int.reduceLT,Int.reduceNe,Int.reduceEq,t8,Zn])) ?_;refine @aa _ (af ?_);refine⟨hlt,hlt,fun y hy=>?_⟩;refine ae (hmend _) ?_ ⟨hwk,.refl _,trivial⟩;exact @aa _ aF
def mz:N:= .mk 0 true []
theorem yK:Good 0 mz:=⟨rfl,List.Pairwise.nil,fun c hc=>by cases hc⟩
theorem yz:iT mz:=⟨0,yK,by decide,.inl rfl⟩
theorem emP(w0:W0)(S:St):ab Tryz.prog w0 64 [] S (fun e S'=>e=eT mz∧S'=S):=by
 refine aJ [] mx Tryz.func64 rfl rfl (by kernel_rfl) ?_;refine @aa _ (ai @Tryz.ntmps64 ?_);intro b;exact .agg (.cons (.refl _) (.cons (.refl _) (.cons (.nil _ _ _) (.cons (.nil _ _ _) (.cons (.nil _ _ _) .nil)))))
theorem RW{key:ByteArray}{l:List C}(h:dF l)(ha:∀c,c∈l→c.key=key):l.length≤1:=by
 cases l with
 |nil=>simp
 |cons a l=>
  cases l with
  |nil=>simp
  |cons b l=>
   have h1:cC a.key b.key=true:=(adM.1 h).1 b aaX;rw[ha a aaX,ha b (abn _ aaX),da]at h1;cases h1
theorem xL{key:ByteArray}{n:N}(h:iT n)(hf:(cD key n).isSome=true)(hl:(nf key n).l=[]):nf key n=mz:=by
 have hen:=(qS key h).2;obtain⟨d,hg,hs,h2⟩:=h
 cases d with
 |zero=>
  unfold nf at hl ⊢;rw[if_pos hf]at hl ⊢;rw[cN key n hg.1]at hl ⊢;have e1:=cZ (.mk 0 true (n.l.filter fun c=>!eF c.key key)) (.inl rfl);split at e1
  ·rw[e1]at hl ⊢;rw[N.eX]at hl;rw[hl];rfl
  ·rw[e1]at hl
   have hnd:Nd 0 (.mk 0 true (n.l.filter fun c=>!eF c.key key)):=by
    have:=db (key:=key) (ax hg)
    rwa [cN key n hg.1]at this
   have hM:Nd 1 (.mk 0 false [ak aN (.mk 0 true (n.l.filter fun c=>!eF c.key key))]):=⟨rfl,List.cons_ne_nil _ _,fun c hc=>by
    rw[N.eX,acz]at hc;subst hc;exact dQ (by rw[bk];omega) hnd⟩
   have:=(tX hM (Nat.lt_add_one 0)).2.1;exact absurd hl this
 |succ d=>
  exfalso
  rw[cQ,hl,ae0]at hen;have hlen:2≤n.l.length:=h2.resolve_left (by rw[hg.1];simp)
  have hall:∀c,c∈du n→c.key=key:=fun c hc=>by
   have:=List.filter_eq_nil_iff.1 hen.symm c hc;simp at this;exact bZ.1 this
  have h1:=RW (xk hg) hall;rw[cQ,hg.1]at h1
  match hn:n.l,hlen with
  |a::b::r,_=>
   obtain⟨x,hx⟩:=mq (hg.2.2.cell a (by rw[hn];exact aaX));obtain⟨y,hy⟩:=mq (hg.2.2.cell b (by rw[hn];exact abn _ aaX));rw[hn,acA,acA]at h1;have p1:=List.length_pos_of_mem hx;have p2:=List.length_pos_of_mem hy;simp only[c9]at h1;omega
theorem aaJ(w0:W0)(key:ByteArray)(n:N)(S:St)(h:iT n)(ht:∀d,Nd d n→bA n+2*d+16≤131000):ab Tryz.prog w0 70 [eT n,dS key] S (fun e S'=>e= .bM [eT (nf key n),dB (cD key n).isSome]∧S'=S):=by
 have hde:=xL (key:=key) h;obtain⟨d,hg,hs,h2⟩:=h;have hn:=ax hg;have htd:=ht d hn;have h1:=fun S=>SU w0 key d n S hg (by omega);have h3:=fun k b S=>Ya w0 key k b d n S hg (by omega);have h4:=lj (key:=key) hn;have h5:=fun S=>W6 w0 d (aI key n) S (db hn) (by omega);have hDel:(cD key n).isSome=true→nf key n=jD (aI key n):=fun hf=>by unfold nf;rw[if_pos hf]
 have hDel0:(cD key n).isSome=false→nf key n=n:=fun hf=>by unfold nf;rw[if_neg (by rw[hf];simp)]
 generalize nf key n=D at*;generalize jD (aI key n)=q at*;generalize aI key n=p at*;generalize cD key n=fo at*;refine aJ [] mx Tryz.func70 rfl rfl (by kernel_rfl) ?_;refine @aa _ (ai @Tryz.ntmps70 ?_);intro b b1 b2;refine ae (h1 _) ?_;refine @aa _ (af ?_);refine⟨fun hy b3=>?_,fun hno=>?_⟩
 ·rw[hDel hy]at hde ⊢;refine ae (h3 b1.n b3.n _ hy (by simp(maxDischargeDepth:=12) (maxSteps:=1000000) -implicitDefEqProofs only[go_sem,Nat.reduceAdd,Nat.reduceSub,Nat.reduceMul,Nat.reduceLeDiff,Nat.reduceEqDiff,Nat.reduceGT,Nat.reduceBEq,reduceCtorEq,↓reduceIte,Int.reduceToNat,Int.reduceLE,Int.reduceLT,Int.reduceNe,Int.reduceEq]) (by simp(maxDischargeDepth:=12) (maxSteps:=1000000) -implicitDefEqProofs only[go_sem,Nat.reduceAdd,Nat.reduceSub,Nat.reduceMul,Nat.reduceLeDiff,Nat.reduceEqDiff,Nat.reduceGT,Nat.reduceBEq,reduceCtorEq,↓reduceIte,Int.reduceToNat,Int.reduceLE,Int.reduceLT,Int.reduceNe,Int.reduceEq,Zn])) ?_;refine @aa _ (af ?_);refine ae (h5 _) ?_;refine @aa _ (af ?_);intro b4;refine⟨fun hz=>?_,fun _=>by rw[hy];exact .refl _⟩;have hq:=hde hy (aa4 (by omega));refine ae (emP w0 _) ?_;refine @aa _ (af ?_);rw[hy,hq];exact .refl _
 ·rw[hDel0 hno,hno];exact .refl _
end Go.Proofs.YtpjenciplibdnaaGreatDoor
