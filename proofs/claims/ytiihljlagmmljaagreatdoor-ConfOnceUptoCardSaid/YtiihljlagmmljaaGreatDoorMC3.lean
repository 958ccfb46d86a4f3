/-
  Part 3 of the proof that the last text ends: from 'The equations by which the reckoning goes: each for one form of value' to 'Statements whose order Go leaves open: where each operation hands back one abstract value and leaves the store, every order serves'. By an AI agent.
-/
import Derived.Test.YtiihljlagmmljaaGreatDoorMC2
import Derived.Still
set_option linter.unusedVariables false
set_option linter.unusedSimpArgs false
set_option maxRecDepth 100000
set_option maxHeartbeats 16000000
namespace Aml
open Go Go.RowKit
def Cv(xs:List DV)(i:Nat)(F:DV→Prop):Prop:=∀d,xs[i]? =some d→dA d=true∧F d
def wa(xs:List DV)(i:Nat)(F:DV→Prop):Prop:=∃d,xs[i]? =some d∧dA d=true∧F d
theorem DR{α:Type}(f:α→DV)(l:List α)(i:Nat)(F:DV→Prop):Cv (List.map f l) i F=∀a,l[i]? =some a→dA (f a)=true∧F (f a):=by
 unfold Cv;refine propext ⟨fun h a ha=>h _ (by rw[Rt,ha];rfl),fun h d hd=>?_⟩;rw[Rt,Rw]at hd;obtain⟨a,ha,rfl⟩:=hd;exact h a ha
theorem DM(i:Nat)(F:DV→Prop):Cv [] i F=True:=by simp[Cv]
theorem Bp(x:DV)(xs:List DV)(F:DV→Prop):Cv (x::xs) 0 F=(dA x=true∧F x):=by simp[Cv]
theorem AD(x:DV)(xs:List DV)(i:Nat)(F:DV→Prop):Cv (x::xs) (i+1) F=Cv xs i F:=by simp[Cv]
theorem C1{α:Type}(f:α→DV)(l:List α)(i:Nat)(F:DV→Prop):wa (List.map f l) i F=(i<l.length∧∀a,l[i]? =some a→dA (f a)=true∧F (f a)):=by
 unfold wa;refine propext ⟨fun⟨d,hd,h⟩=>?_,fun⟨hi,h⟩=>⟨f l[i],by rw[Rt,so hi];rfl,h _ (so hi)⟩⟩;rw[Rt,Rw]at hd;obtain⟨a,ha,rfl⟩:=hd;exact⟨(Rp.1 ha).1,fun b hb=>by rw[ha]at hb;cases hb;exact h⟩
theorem A7(x:DV)(xs:List DV)(F:DV→Prop):wa (x::xs) 0 F=(dA x=true∧F x):=by simp[wa]
theorem AW(x:DV)(xs:List DV)(i:Nat)(F:DV→Prop):wa (x::xs) (i+1) F=wa xs i F:=by simp[wa]
theorem IS(u:Value):dA (.v u)=true:=rfl
theorem Dm(s:Nat)(f:Bool)(xs:List DV):dA (.sl s f xs)=true:=rfl
theorem An(ds:List DV):dA (.agg ds)=true:=rfl
theorem Bw(l n:Nat):dA (.acc l n)=true:=rfl
theorem Ld(u:Value):cd (.v u)=[.v u]:=rfl
theorem Ie(s:Nat)(f:Bool)(xs:List DV):cd (.sl s f xs)=[.sl s f xs]:=rfl
theorem CR(ds:List DV):cd (.agg ds)=ds:=rfl
theorem FX(l n:Nat):cd (.acc l n)=[.acc l n]:=rfl
theorem F4{α:Type}(n:Nat):lk ([]:List (Nat×α)) n=none:=rfl
theorem As{α:Type}(k:Nat)(x:α)(t:List (Nat×α)):lk ((k,x)::t) k=some x:=by simp[lk]
theorem sR{α:Type}{k n:Nat}(h:¬k=n)(x:α)(t:List (Nat×α)):lk ((k,x)::t) n=lk t n:=by simp[lk,h]
theorem BU{α:Type}(k:Nat)(x y:α)(t:List (Nat×α)):up ((k,x)::t) k y=(k,y)::t:=by simp[up]
theorem I7{α:Type}{k n:Nat}(h:¬k=n)(x y:α)(t:List (Nat×α)):up ((k,x)::t) n y=(k,x)::up t n y:=by simp[up,h]
section
variable {P:Program} {w0:W0} (K:DV→Prop) (K2:DV→St→Prop) (S:St)
theorem Ep(k:IntKind)(d:DV)(ds:List DV):mL (.int k) (d::ds) K=K d:=rfl
theorem C2(d:DV)(ds:List DV):mL .one (d::ds) K=K d:=rfl
theorem IX(d:DV)(ds:List DV):mL .fn (d::ds) K=K d:=rfl
theorem CI(d:DV)(ds:List DV):mL .str (d::ds) K=K d:=rfl
theorem H0(e s b:Nat)(i:Bool)(d:DV)(ds:List DV):mL (.sl e s b i) (d::ds) K=K d:=rfl
theorem DI(e:Nat)(d:DV)(ds:List DV):mL (.ptr e) (d::ds) K=K d:=rfl
theorem GD(fs:List (Nat×Nat×Bool))(n:Nat)(ds:List DV):mL (.st fs n) ds K=(n≤ds.length∧K (.agg (ds.take n))):=rfl
theorem BN(k:TK)(ds:List DV):bX k S (.ip ds) K=mL k ds K:=rfl
theorem Hw(e s b s':Nat)(f:Bool)(xs:List DV)(k:IntKind)(z:Int):aD (.sl e s b true) (.sl s' f xs) (.v (.int k z)) K=(s'=s∧0≤z∧z<xs.length∧Cv xs z.toNat fun d=>K (.ip (cd d))):=rfl
theorem Dp(e s b bb o n c:Nat)(k:IntKind)(z:Int):aD (.sl e s b true) (.v (.slice (some ⟨bb,o,none⟩) n c)) (.v (.int k z)) K=(0≤z∧z<n∧K (.v (.pointer (some ⟨bb,o+z.toNat*s,none⟩)))):=rfl
theorem Bn(len e s nn:Nat)(a:Bool)(ds:List DV)(k:IntKind)(z:Int):aD (.ar len e s a nn) (.ip ds) (.v (.int k z)) K=(0<s∧0≤z∧z<len∧z.toNat*s≤ds.length∧K (.ip (ds.drop (z.toNat*s)))):=rfl
theorem Gl(e s b l n:Nat)(k:IntKind)(z:Int):aD (.sl e s b true) (.acc l n) (.v (.int k z)) K=(0≤z∧z<n∧K (.ap l n s z.toNat 0)):=rfl
theorem GO(s:ByteArray)(k:IntKind)(z:Int):fC .str (.v (.string s)) (.v (.int k z)) K=(0≤z∧z<s.size∧∀c,s.data.toList[z.toNat]? =some c→K (.v (.int .u8 c.toNat))):=rfl
theorem EI(op:BinOp)(t:TK)(cx cy:Bool)(k k':IntKind)(m n:Int):mV op t cx cy (.v (.int k m)) (.v (.int k' n)) K=(sameKind op k k'=true∧jN op k m n K):=rfl
theorem Eo(op:BinOp)(t:TK)(cx cy:Bool)(a b:ByteArray):mV op t cx cy (.v (.string a)) (.v (.string b)) K=iy op a b K:=rfl
theorem DD(cx cy a b:Bool):mV .eql .one cx cy (.v (.bool a)) (.v (.bool b)) K=K (.v (.bool (a==b))):=rfl
theorem CJ(b:Bool):Au .not (.v (.bool b)) K=K (.v (.bool (!b))):=rfl
theorem Ee(k:IntKind)(n:Int):Au .neg (.v (.int k n)) K=K (.v (.int k (k.wrap (0-n)))):=rfl
theorem Fh(k0 k k1:IntKind)(n:Int):fy (.int k0) (.int k) (.v (.int k1 n)) K=K (.v (.int k (k.wrap n))):=rfl
theorem Ft(a:Addr):notNil (.v (.pointer (some a)))=true:=rfl
theorem De(u:Value):iZ S (.v u) K2=K2 (.v u) S:=rfl
theorem AM(s:Nat)(f:Bool)(xs:List DV):iZ S (.sl s f xs) K2=K2 (.sl s f xs) S:=rfl
theorem vA(K3:List DV→St→Prop):jR S [] K3=K3 [] S:=rfl
theorem tu(d:DV)(ds:List DV)(K3:List DV→St→Prop):jR S (d::ds) K3=iZ S d fun e S=>jR S ds fun es S=>K3 (e::es) S:=rfl
theorem I8(u:Value):shr S (.v u) K2=K2 (.v u) S:=rfl
theorem FJ(s:Nat)(f:Bool)(xs:List DV):shr S (.sl s f xs) K2=K2 (.sl s f xs) S:=rfl
theorem A2(l n:Nat):shr S (.acc l n) K2=iZ S (.acc l n) K2:=rfl
theorem Be(ds:List DV):shr S (.agg ds) K2=jR S ds fun ds S=>K2 (.agg ds) S:=rfl
theorem xI(K3:List DV→St→Prop):eo S [] K3=K3 [] S:=rfl
theorem tW(d:DV)(ds:List DV)(K3:List DV→St→Prop):eo S (d::ds) K3=shr S d fun e S=>eo S ds fun es S=>K3 (e::es) S:=rfl
theorem Et(u:Value):qe S (.v u) K2=K2 (.v u) S:=rfl
theorem Aq(s:Nat)(f:Bool)(xs:List DV):qe S (.sl s f xs) K2=K2 (.sl s f xs) S:=rfl
theorem xn(l n:Nat):qe S (.acc l n) K2=iZ S (.acc l n) K2:=rfl
theorem xe(ds:List DV):qe S (.bU ds) K2=eo S ds fun ds S=>K2 (.bU ds) S:=rfl
theorem xx(z:Int)(K4:Int→Prop):iz none z K4=K4 z:=rfl
theorem yn(k:IntKind)(n z:Int)(K4:Int→Prop):iz (some (.v (.int k n))) z K4=K4 n:=rfl
theorem wW(e s b s':Nat)(f:Bool)(xs:List DV)(lo hi mx:Option DV):du (.sl e s b true) (.sl s' f xs) lo hi mx K=((s'=s∨xs=[])∧iz lo 0 fun l=>iz hi xs.length fun h=>iz mx h fun m=>0≤l∧l≤h∧h≤m∧m≤xs.length∧
 K (.sl s (if mx.isSome then decide (m=h)else(f&&(hi.isNone||xs.isEmpty))) ((xs.take h.toNat).drop l.toNat))):=rfl
theorem vy(s:ByteArray)(lo hi mx:Option DV):du .str (.v (.string s)) lo hi mx K=(mx.isNone=true∧iz lo 0 fun l=>iz hi s.size fun h=>0≤l∧l≤h∧h≤s.size∧K (.v (.string (s.extract l.toNat h.toNat)))):=rfl
theorem FE(e s b:Nat)(i:Bool)(s':Nat)(f:Bool)(xs:List DV):kp (.sl e s b i) (.sl s' f xs) K=K (.v (.int .i64 xs.length)):=rfl
theorem Ap(e s b:Nat)(i:Bool)(l n:Nat):kp (.sl e s b i) (.acc l n) K=K (.v (.int .i64 n)):=rfl
theorem Ab(s:ByteArray):kp .str (.v (.string s)) K=K (.v (.int .i64 s.size)):=rfl
theorem uX(k:TK)(s:Nat)(f:Bool)(xs:List DV)(lo hi mx:Option DV):eX k S (.sl s f xs) lo hi mx K2=du k (.sl s f xs) lo hi mx (K2 · S):=rfl
theorem yA(k:TK)(u:Value)(lo hi mx:Option DV):eX k S (.v u) lo hi mx K2=du k (.v u) lo hi mx (K2 · S):=rfl
theorem yq(t:Nat):fD (.tmp t)=false:=rfl
theorem xf(k:IntKind)(n:Int):fD (.const (.int k n))=false:=rfl
theorem xD(s:ByteArray):fD (.const (.string s))=false:=rfl
theorem xk(n:Nat)(u:Value)(y:DV)(K5:St→Prop):db n S (.v u) y K5=jZ n S (.v u) y K5:=rfl
theorem tM(e s b:Nat)(z:DV)(k k':IntKind)(n m:Int):dt (.sl e s b true) z (.v (.int k n)) (.v (.int k' m)) S K2=(dA z=true∧0≤n∧n≤m∧m*b≤140737488355328∧m≤9223372036854775807∧∀l,gx S.acc l→K2 (.acc l n.toNat) ⟨S.box,(l,.arr s (List.replicate n.toNat z))::S.acc⟩):=rfl
theorem Bk(s:Nat)(f:Bool)(xs:List DV)(K6:Nat→List DV→Prop):gg S (.sl s f xs) K6=K6 s xs:=rfl
theorem E9(e s b:Nat)(k2:TK)(x y:DV):ic (.sl e s b true) k2 S x y K2=(nO k2=true∧gg S y fun s2 ys=>(s2=s∨ys=[])∧uv s b S x ys K2):=rfl
theorem Lo(f:FuncId)(a cap:Array Value)(ds:List DV):pU P w0 (.v (.func (.func f) a cap)) ds S K2=(cap.toList.all (fun u=>u.oneCell')=true∧DF a (gX (okF P f) (eQ S ds fun ds S=>@AC P w0 f (ds++cap.toList.map .v) S ⟨K2⟩) (@XC P w0 f (ds++cap.toList.map .v) S ⟨K2⟩)) fun us=>okF P f=true∧eQ S ds fun ds S=>@AC P w0 f (us.map .v++(ds++cap.toList.map .v)) S ⟨K2⟩):=rfl
theorem Ce(A:Prop)(B:List Value→Prop):DF #[] A B=A:=rfl
theorem sT:eK []=false:=rfl
theorem rQ(l n:Nat)(ds:List DV):eK (.acc l n::ds)=true:=rfl
theorem xq(u:Value)(ds:List DV):eK (.v u::ds)=eK ds:=rfl
theorem vT(s:Nat)(f:Bool)(xs ds:List DV):eK (.sl s f xs::ds)=eK ds:=rfl
theorem rN(xs ds:List DV):eK (.agg xs::ds)=eK ds:=rfl
theorem By(fr:List DV)(t:Nat):mq P fr S K (.tmp t)=K (fr.getD t ud):=rfl
theorem xY(fr:List DV)(a t:Nat):mq P fr S K (.cell a t)=bX (tk P t) S (fr.getD a ud) K:=rfl
theorem yB(fr:List DV)(r:ResultVar):jJ P fr S [r] K=mq P fr S K r:=rfl
theorem wK(fr:List DV):jJ P fr S [] K=K (.bU []):=rfl
theorem yi(fr:List DV)(r r':ResultVar)(rs:List ResultVar):jJ P fr S (r::r'::rs) K=nL P fr S (r::r'::rs) fun ds=>K (.bU ds):=rfl
end
theorem Ct{α:Type}(a:α)(F:α→Prop):oK (some a) F=F a:=rfl
def bK:Option Ob→(Nat→List DV→Prop)→(Nat→List DV→Prop)→Prop
 |some (.arr s xs),F,_=>F s xs
 |some (.tl s xs),_,G=>G s xs
 |_,_,_=>False
theorem EJ(s:Nat)(xs:List DV)(F G:Nat→List DV→Prop):bK (some (.arr s xs)) F G=F s xs:=rfl
theorem GR(s:Nat)(xs:List DV)(F G:Nat→List DV→Prop):bK (some (.tl s xs)) F G=G s xs:=rfl
def KF(p:Option (Nat×Nat×Bool))(x:DV)(K:DV→Prop):Prop:=match p with
 |some (off,sz,_)=>sz≠0∧(match x with
  | .v (.pointer (some ⟨b,o,none⟩))=>K (.v (.pointer (some ⟨b,o+off,none⟩)))
  | .ip ds=>off≤ds.length∧K (.ip (ds.drop off))
  | .ap l n s i o=>K (.ap l n s i (o+off))
  |_=>False)
 |none=>False
def PQ(p:Option (Nat×Nat×Bool))(ds:List DV)(K:DV→Prop):Prop:=match p with
 |some (off,sz,true)=>off+sz≤ds.length∧K (.agg ((ds.drop off).take sz))
 |some (off,sz,false)=>off+sz≤ds.length∧oK (ds[off]?) K
 |none=>False
def gD(t:Nat)(d:DV)(fr:List DV)(want:Bool)(A B:List DV→Prop):Prop:=match d with
 | .v (.bool b)=>(b=want→A (fr.set t (.v (.bool want))))∧(b=!want→B (fr.set t (.v (.bool !want))))
 | .bU []=>B fr
 |_=>False
def gK(t:Option Tmp)(fr:List DV)(want:Bool)(A B:List DV→Prop):Prop:=match t with
 |none=>B fr
 |some t=>gD t (fr.getD t ud) fr want A B
def NU(k:TK)(z:DV)(parts:List (Nat×DV))(K:DV→Prop):Prop:=match k,z with
 | .st fs _,.agg zs=>oK (gN fs zs parts) fun ds=>K (.agg ds)
 |_,_=>False
section
variable {P:Program} {w0:W0} (K:DV→Prop) (K2:DV→St→Prop) (S:St)
theorem w9(k:TK)(b o:Nat):bX k S (.v (.pointer (some ⟨b,o,none⟩))) K=oK (lk S.box b) fun ds=>mL k (ds.drop o) K:=by
 cases h:lk S.box b <;>simp[bX,oK,h]
theorem AN(k:TK)(l n s i o:Nat):bX k S (.ap l n s i o) K=bK (lk S.acc l) (fun s' xs=>xs.length=n∧s'=s∧wa xs i fun d=>mL k ((cd d).drop o) K) (fun s' xs=>xs.length=n∧s'=s∧wa xs i fun d=>mL k ((cd d).drop o) K):=by
 cases h:lk S.acc l with
 |none=>simp[bX,bK,h]
 |some o=>cases o <;>simp[bX,bK,h,wa]
theorem uR(e s b bb o n c:Nat)(lo hi mx:Option DV):du (.sl e s b true) (.v (.slice (some ⟨bb,o,none⟩) n c)) lo hi mx K=iz lo 0 fun l=>iz hi n fun h=>iz mx c fun m=>0≤l∧l≤h∧h≤m∧m≤c∧
 K (.v (.slice (some ⟨bb,if m.toNat=l.toNat then o else o+l.toNat*s,none⟩) (h.toNat-l.toNat) (m.toNat-l.toNat))):=rfl
theorem Bm(e s b:Nat)(i:Bool)(a:Option Addr)(n c:Nat):kp (.sl e s b i) (.v (.slice a n c)) K=K (.v (.int .i64 n)):=rfl
theorem uB(l n:Nat):tQ (.acc l n)=false:=rfl
theorem G3(e s b bb o n c:Nat)(z:DV):jc (.sl e s b true) z S (.v (.slice (some ⟨bb,o,none⟩) n c)) K2=oK (lk S.box bb) fun ds=>dA z=true∧o+n*s≤ds.length∧K2 ud ⟨up S.box bb (kI ds o (fU z n)),S.acc⟩:=by
 cases h:lk S.box bb <;>simp[jc,oK,h]
theorem HH(fs:List (Nat×Nat×Bool))(n f:Nat)(x:DV):dZ (.st fs n) f x K=KF (fs[f]?) x K:=by
 cases h:fs[f]? <;>simp only[dZ,KF,h] <;>cases x <;>rfl
theorem CT(off sz b o:Nat)(ag:Bool):KF (some (off,sz,ag)) (.v (.pointer (some ⟨b,o,none⟩))) K=(sz≠0∧K (.v (.pointer (some ⟨b,o+off,none⟩)))):=rfl
theorem GG(off sz:Nat)(ag:Bool)(ds:List DV):KF (some (off,sz,ag)) (.ip ds) K=(sz≠0∧off≤ds.length∧K (.ip (ds.drop off))):=rfl
theorem IL(off sz l m s i o:Nat)(ag:Bool):KF (some (off,sz,ag)) (.ap l m s i o) K=(sz≠0∧K (.ap l m s i (o+off))):=rfl
theorem Cm(i:Nat)(ds:List DV):cB i (.bU ds) K=oK (ds[i]?) K:=by
 cases h:ds[i]? <;>simp[cB,oK,h]
theorem yC(l n:Nat):iZ S (.acc l n) K2=bK (lk S.acc l) (fun s xs=>xs.length=n∧K2 (.sl s false xs) ⟨S.box,up S.acc l (.tl s xs)⟩) (fun s xs=>xs.length=n∧K2 (.sl s false xs) S):=by
 cases h:lk S.acc l with
 |none=>simp[iZ,bK,h]
 |some o=>cases o <;>simp[iZ,bK,h]
theorem HL(n b o:Nat)(y:DV)(K5:St→Prop):jZ n S (.v (.pointer (some ⟨b,o,none⟩))) y K5=(dA y=true∧(cd y).length=n∧oK (lk S.box b) fun ds=>o+n≤ds.length∧K5 ⟨up S.box b (cG ds o (cd y)),S.acc⟩):=by
 cases h:lk S.box b <;>simp[jZ,oK,h]
theorem vD(n l m s i o:Nat)(y:DV)(K5:St→Prop):db n S (.ap l m s i o) y K5=(dA y=true∧(cd y).length=n∧bK (lk S.acc l) (fun s' xs=>s'=s∧xs.length=m∧o+n≤s∧wa xs i fun d=>oK (mz d o n s y) fun d'=>K5 ⟨S.box,up S.acc l (.arr s (xs.set i d'))⟩) (fun _ _=>False)):=by
 cases h:lk S.acc l with
 |none=>simp[db,bK,h]
 |some o=>cases o with
  |tl s' xs=>simp[db,bK,h]
  |xo f=>simp[db,bK,h]
  |sb T e bs pin=>simp[db,bK,h]
  |arr s' xs=>
   simp only[db,bK,h,wa];refine propext (and_congr Iff.rfl (and_congr Iff.rfl (and_congr Iff.rfl (and_congr Iff.rfl (and_congr Iff.rfl (exists_congr fun d=>and_congr Iff.rfl (and_congr Iff.rfl ?_)))))))
   cases mz d o n s y with
   |none=>simp[oK]
   |some x=>simp[oK]
theorem BJ(l n s by':Nat)(ys:List DV):uv s by' S (.acc l n) ys K2=bK (lk S.acc l)
 (fun s' xs=>s'=s∧xs.length=n∧(xs.length+ys.length)*by'≤140737488355328∧xs.length+ys.length≤maxLen∧K2 (.acc l (xs++ys).length) ⟨S.box,up S.acc l (.arr s (xs++ys))⟩)
 (fun s' xs=>s'=s∧xs.length=n∧(xs.length+ys.length)*by'≤140737488355328∧xs.length+ys.length≤maxLen∧K2 (.acc l (xs++ys).length) ⟨S.box,up S.acc l (.tl s (xs++ys))⟩):=by
 cases h:lk S.acc l with
 |none=>simp[uv,bK,h]
 |some o=>cases o <;>simp[uv,bK,h]
theorem tC(ops:Array Oper)(fr:List DV)(j:Nat)(want:Bool)(A B:List DV→Prop):bl ops fr (some (j,want)) A B=gK ((ops[j]?).bind (·.dst)) fr want A B:=by
 cases h:(ops[j]?).bind (·.dst) <;>simp only[bl,gK,h] <;>rfl
theorem BR(t:Nat)(fr:List DV)(want:Bool)(A B:List DV→Prop):gK (some t) fr want A B=gD t (fr.getD t ud) fr want A B:=rfl
theorem Io(t:Nat)(fr:List DV)(want:Bool)(A B:List DV→Prop):gD t ud fr want A B=B fr:=rfl
theorem Kq(fn:Fn)(a b:List DV):iT fn a b K=oK (cU a) fun us=>oK (cU b) fun vs=>K (.v (.func fn us.toArray vs.toArray)):=by
 cases h:cU a <;>cases h':cU b <;>simp[iT,oK,h,h']
theorem IH(t:TypeId)(parts:List (Nat×DV)):dO P t parts K=NU (tk P t) (zD P t) parts K:=by
 cases h:tk P t <;>cases h':zD P t <;>simp only[dO,NU,h,h'] <;>(rename_i fs _ zs;cases h2:gN fs zs parts <;>simp[oK])
theorem Ph(fs:List (Nat×Nat×Bool))(n:Nat)(zs:List DV)(parts:List (Nat×DV)):NU (.st fs n) (.agg zs) parts K=oK (gN fs zs parts) fun ds=>K (.agg ds):=rfl
theorem MV(e s b len:Nat)(z:DV)(parts:List (Nat×DV)):aG (.sl e s b true) z len parts K=(dA z=true∧(cd z).length=s∧len*s≤16777216∧oK (jO s (List.replicate len z) parts) fun xs=>K (.sl s true xs)):=by
 cases h:jO s (List.replicate len z) parts <;>simp[aG,oK,h]
end
end Aml
namespace Aml
open Go Go.RowKit
def QY(P:Program)(w0:W0)(S:St)(o:Oper)(fr:List DV)(d:DV):Prop:=ae P w0 o (ev fr) S fun d' S'=>d'=d∧S'=S
def cC(ops:Array Oper)(fr:List DV)(gd:Option (Nat×Bool)):Option Bool:=match gd with
 |none=>some true
 |some (j,want)=>match(ops[j]?).bind (·.dst)with
  |none=>some false
  |some t=>match fr.getD t ud with
   | .v (.bool b)=>some (b==want)
   | .bU []=>some false
   |_=>none
def LQ(P:Program)(w0:W0)(S:St)(ops:Array Oper)(K:List DV→Prop):List Oper→List DV→Prop
 |[],fr=>K fr
 |o::rest,fr=>bl ops fr o.guard (fun fr=>∃d,QY P w0 S o fr d∧LQ P w0 S ops K rest (pt fr o.dst d)) (fun fr=>LQ P w0 S ops K rest (pt fr o.dst ud))
def qOp(P:Program)(w0:W0)(S:St)(ops:Array Oper)(i:Nat)(K:List DV→Prop)(fr:List DV):Prop:=
 match ops[i]? with
 |none=>K fr
 |some o=>(cC ops fr o.guard=some true∧∃d,QY P w0 S o fr d∧K (pt fr o.dst d))∨(cC ops fr o.guard=some false∧K (pt fr o.dst ud))
def lV(P:Program)(w0:W0)(S:St)(md:Region.Mode)(ops:Array Oper)(K:List DV→Prop):Nat→Array Bool→List DV→Prop
 |0,listed,fr=>Region.ready md ops listed=[]∧K fr
 |fuel+1,listed,fr=>(Region.ready md ops listed=[]→K fr)∧∀i∈Region.ready md ops listed,qOp P w0 S ops i (lV P w0 S md ops K fuel (listed.setIfInBounds i true)) fr
def YD(P:Program)(w0:W0)(S:St)(ops:Array Oper)(o:Oper)(d:DV)(fr:List DV):Prop:=
 (cC ops fr o.guard=some true∧QY P w0 S o fr d)∨(cC ops fr o.guard=some false∧d=ud)
section
variable {P:Program} {w0:W0} {S:St} {ops:Array Oper} {md:Region.Mode}
theorem tL{fr:List DV}{t:Nat}{d:DV}(h:fr.getD t ud=d)(hd:d≠ud):fr.set t d=fr:=by
 rcases Sj t fr.length with hl|hl
 ·rw[Rl,so hl,To]at h;rw[←h,List.set_getElem_self]
 ·rw[Rl,Ry hl]at h;exact absurd h.symm hd
theorem mB{fr:List DV}{gd:Option (Nat×Bool)}{A B:List DV→Prop}(h:bl ops fr gd A B):(cC ops fr gd=some true∧A fr)∨(cC ops fr gd=some false∧B fr):=by
 unfold bl at h;unfold cC;split at h
 ·exact .inl ⟨rfl,h⟩
 ·rename_i j want;split at h
  ·rename_i hj;exact .inr ⟨by simp only[hj],h⟩
  ·rename_i t hj;simp only[hj];split at h
   ·rename_i b hb;rw[hb];by_cases hw:b=want
    ·have:=h.1 hw;rw[←hw,tL hb (by simp[ud])]at this;exact .inl ⟨by simp[hw],this⟩
    ·have hw':b=!want:=by cases b <;>cases want <;>simp_all
     have:=h.2 hw';rw[←hw',tL hb (by simp[ud])]at this;exact .inr ⟨by simp[hw],this⟩
   ·rename_i hb;rw[hb];exact .inr ⟨rfl,h⟩
   ·exact h.elim
theorem wV{fr:List DV}{gd:Option (Nat×Bool)}{x:Bool}(h:cC ops fr gd=some x):bl ops fr gd (fun _=>x=true) (fun _=>x=false):=by
 unfold cC at h;unfold bl;split at h
 ·simpa using h.symm
 ·rename_i j want;split at h
  ·rename_i hj;simp only[hj];simpa using h.symm
  ·rename_i t hj;simp only[hj];split at h
   ·rename_i b hb;rw[hb];simp only[RC]at h;exact⟨fun e=>by simp[←h,e],fun e=>by simp[←h,e]⟩
   ·rename_i hb;rw[hb];simpa using h.symm
   ·cases h
theorem fY{g:Gh}{fr:List DV}{a:Act}{o:Oper}{x:Bool}(hr:aa g fr a.tmps.toList)(h:cC ops fr o.guard=some x):Region.wanted o (yielded ops a.tmps)=x:=by
 rcases fX (o:=o) hr (wV h)with⟨h1,_,_,h2⟩|⟨h1,_,_,h2⟩
 ·rw[h1,h2]
 ·rw[h1,h2]
theorem qOp_mono{i:Nat}{fr:List DV}{K K':List DV→Prop}(h:∀fr,K fr→K' fr)(hh:qOp P w0 S ops i K fr):qOp P w0 S ops i K' fr:=by
 unfold qOp at*;split
 ·rename_i ho;simp only[ho]at hh;exact h _ hh
 ·rename_i o ho;simp only[ho]at hh;rcases hh with⟨h1,d,h2,h3⟩|⟨h1,h2⟩
  ·exact .inl ⟨h1,d,h2,h _ h3⟩
  ·exact .inr ⟨h1,h _ h2⟩
theorem YD.qOp{i:Nat}{o:Oper}{d:DV}{fr:List DV}(hi:ops[i]? =some o)(hy:YD P w0 S ops o d fr){K:List DV→Prop}(h:K (pt fr o.dst d)):qOp P w0 S ops i K fr:=by
 unfold Aml.qOp;simp only[hi];rcases hy with⟨h1,h2⟩|⟨h1,rfl⟩
 ·exact .inl ⟨h1,d,h2,h⟩
 ·exact .inr ⟨h1,h⟩
theorem Aj{i:Nat}{o:Oper}{fr:List DV}{K:List DV→Prop}(hi:ops[i]? =some o)(h:qOp P w0 S ops i K fr):∃d,YD P w0 S ops o d fr∧K (pt fr o.dst d):=by
 unfold qOp at h;simp only[hi]at h;rcases h with⟨h1,d,h2,h3⟩|⟨h1,h2⟩
 ·exact⟨d,.inl ⟨h1,h2⟩,h3⟩
 ·exact⟨ud,.inr ⟨h1,rfl⟩,h2⟩
theorem cg{o:Oper}{ρD ρD':Operand→DV}{K:DV→St→Prop}(h:∀x,x∈o.op.operands.toList→ρD x=ρD' x)(hy:ae P w0 o ρD S K):ae P w0 o ρD' S K:=
 fun g w ρ h1 h2 h3=>hy g w ρ h1 (fun x hx=>by rw[h x hx];exact h2 x hx) h3
theorem uj{fr:List DV}{t t':Nat}{d:DV}(h:t≠t'):(fr.set t d).getD t' ud=fr.getD t' ud:=by
 simp only[Rl,Ty,if_neg h]
theorem j0{fr:List DV}{dst:Option Tmp}{d:DV}{o:Oper}(h:∀t,dst=some t→t∉o.looksAt ops):∀x,x∈o.op.operands.toList→ev (pt fr dst d) x=ev fr x:=by
 intro x hx
 cases dst with
 |none=>rfl
 |some t=>
  cases x with
  |tmp t'=>
   have:t≠t':=by
    rintro rfl;exact h t rfl (List.mem_append_left _ (List.mem_filterMap.2 ⟨.tmp t,hx,rfl⟩))
   exact uj this
  |_=>rfl
theorem kW{fr:List DV}{dst:Option Tmp}{d:DV}{o:Oper}(h:∀t,dst=some t→t∉o.looksAt ops):cC ops (pt fr dst d) o.guard=cC ops fr o.guard:=by
 cases dst with
 |none=>rfl
 |some t=>
  unfold cC
  cases hg:o.guard with
  |none=>rfl
  |some gw=>
   obtain⟨j,want⟩:=gw;simp only
   cases ht:(ops[j]?).bind (·.dst)with
   |none=>rfl
   |some t'=>
    have hne:t≠t':=fun e=>h t rfl (by subst e;simp[Oper.looksAt,hg,ht]);simp only[pt];rw[uj hne]
theorem nq(fr:List DV){x y:Option Tmp}(d e:DV)(h:∀t,x=some t→y≠some t):pt (pt fr x d) y e=pt (pt fr y e) x d:=by
 cases x with
 |none=>rfl
 |some t=>
  cases y with
  |none=>rfl
  |some u=>
   have hne:t≠u:=fun he=>h t rfl (he▸rfl);simp only[pt];exact List.set_comm _ _ hne
theorem YD.put{o:Oper}{d:DV}{fr:List DV}(hy:YD P w0 S ops o d fr){dst:Option Tmp}{e:DV}(h:∀t,dst=some t→t∉o.looksAt ops):YD P w0 S ops o d (pt fr dst e):=by
 unfold YD at*;rw[kW h];exact hy.imp (fun⟨a,b⟩=>⟨a,cg (fun x hx=>(j0 (ops:=ops) h x hx).symm) b⟩) id
theorem qOp_put{j:Nat}{oi oj:Oper}{d:DV}(hj:ops[j]? =some oj)(hap:oi.apart ops oj=true){K:List DV→Prop}{fr:List DV}(hy:YD P w0 S ops oi d fr)(h:qOp P w0 S ops j K (pt fr oi.dst d)):
 qOp P w0 S ops j (fun fr'=>YD P w0 S ops oi d fr'∧K (pt fr' oi.dst d)) fr:=by
 obtain⟨h1,h2,h3⟩:=Oper.apart_spec hap;unfold Aml.qOp at*;simp only[hj]at*;rw[kW h1]at h;rcases h with⟨hw,e,hq,hk⟩|⟨hw,hk⟩
 ·exact .inl ⟨hw,e,cg (fun x hx=>j0 (ops:=ops) h1 x hx) hq,hy.put h3,by rw[←nq fr d e h2];exact hk⟩
 ·exact .inr ⟨hw,hy.put h3,by rw[←nq fr d ud h2];exact hk⟩
theorem r6{K:List DV→Prop}{i:Nat}{oi:Oper}{d:DV}(hi:ops[i]? =some oi):
 ∀(fuel:Nat) (listed:Array Bool) (fr:List DV),
  (∀j oj,ops[j]? =some oj→j≠i→listed.getD j true=false→(∀e∈oj.after,Region.binds md e=true→e.on≠i)→oi.apart ops oj=true)→
  i∈Region.ready md ops listed→YD P w0 S ops oi d fr→
  lV P w0 S md ops K fuel (listed.setIfInBounds i true) (pt fr oi.dst d)→lV P w0 S md ops K (fuel+1) listed fr:=by
 intro fuel
 induction fuel with
 |zero=>
  intro listed fr _ hr hy H;refine⟨fun h=>(by rw[h]at hr;cases hr),fun j hj=>?_⟩;by_cases hji:j=i
  ·subst hji;exact hy.qOp hi H
  ·have:=ready_mono hj hji;rw[H.1]at this;cases this
 |succ fuel ih=>
  intro listed fr hfree hr hy H;refine⟨fun h=>(by rw[h]at hr;cases hr),fun j hj=>?_⟩;by_cases hji:j=i
  ·subst hji;exact hy.qOp hi H
  ·have h1:=H.2 j (ready_mono hj hji);obtain⟨hjun,oj,hoj,hall⟩:=mem_ready.1 hj
   have hnot:∀e∈oj.after,Region.binds md e=true→e.on≠i:=fun e he hb heq=>by
    have h1:=hall e he hb;have h0:=(mem_ready.1 hr).1;rw[heq]at h1;rcases Sj i listed.size with h'|h'
    ·simp[h']at h0 h1;rw[h0]at h1;cases h1
    ·simp[Ss h']at h1
   have h2:=qOp_put hoj (hfree j oj hoj hji hjun hnot) hy h1
   have hfree':∀k ok,ops[k]? =some ok→k≠i→(listed.setIfInBounds j true).getD k true=false→
    (∀e∈ok.after,Region.binds md e=true→e.on≠i)→oi.apart ops ok=true:=fun k ok hk hki hun hno=>by
    refine hfree k ok hk hki ?_ hno;by_cases hjk:j=k
    ·subst hjk;exact hjun
    ·rw[getD_set_ne true hjk]at hun;exact hun
   refine qOp_mono (fun fr' h3=>ih (listed.setIfInBounds j true) fr' hfree' (ready_mono hr (Ne.symm hji)) h3.1 ?_) h2;rw[Array.setIfInBounds_comm _ _ hji];exact h3.2
theorem px{K:List DV→Prop}:∀(l:List Oper) (k:Nat) (listed:Array Bool) (fr:List DV),(∀j,l[j]? =ops[k+j]?)→
 Region.lexFrom md ops l.length k listed=true→LQ P w0 S ops K l fr→lV P w0 S md ops K l.length listed fr
 |[],_,_,_,_,hB,h=>⟨by simpa[Region.lexFrom]using hB,h⟩
 |o::l,k,listed,fr,hl,hB,h=>by
  have h0:ops[k]? =some o:=by simpa using(hl 0).symm
  simp only[Ru,Region.lexFrom,Rm]at hB;obtain⟨⟨hr,hf⟩,hB'⟩:=hB
  have hst:qOp P w0 S ops k (LQ P w0 S ops K l) fr:=by
   unfold qOp;simp only[h0];exact mB h
  obtain⟨d,hy,hK⟩:=Aj h0 hst
  exact r6 h0 l.length listed fr (Region.free_spec h0 hf) (by simpa using hr) hy
   (px l (k+1) _ _ (fun j=>by have:=hl (j+1);simpa[Sy,Te 1 j]using this) hB' hK)
end
end Aml
