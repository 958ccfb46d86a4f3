/-
  Part 3 of the proof that the last text ends: from 'The walk over code by reckoning: one function over operations, one over code' to 'Statements whose order Go leaves open: where each operation hands back one abstract value and leaves the store, every order serves'. By an AI agent.
-/
import Derived.Test.YtoepfmhnapedoaaGreatDoorMD2
import Derived.Test.YtoepfmhnapedoaaGreatDoorProg
import Derived.KernelRfl
import Derived.Still
set_option linter.unusedVariables false
set_option linter.unusedSimpArgs false
set_option maxRecDepth 100000
set_option maxHeartbeats 16000000
namespace Aml
open Go Go.RowKit
class Cn(α:Type) where
 k:α
def AC(P:Program)(w0:W0)(f:FuncId)(ds:List DV)(S:St)[K:Cn (DV→St→Prop)]:Prop:=ab P w0 f ds S K.k
def fH:List DV→Bool
 |[]=>false
 | .acc _ _::_=>true
 |_::ds=>fH ds
def iz(S:St)(ds:List DV)(F:List DV→St→Prop):Prop:=match fH ds with
 |true=>F ds S∨gk S ds F
 |false=>gk S ds F
def YC(P:Program)(w0:W0)(l:Nat)(ds:List DV)(S:St)[K:Cn (DV→St→Prop)]:Prop:=DU P w0 l ds S K.k
def XC(P:Program)(w0:W0)(f:FuncId)(ds:List DV)(S:St)[K:Cn (DV→St→Prop)]:Prop:=
 ∀g w (us:List Value),Rel w0 g S w→af g ds us→∃v w' g' d S',(callFunc f us.toArray).run P w= .ok (.value v) w'∧g.le g'∧Rel w0 g' S' w'∧aG g' d v∧K.k d S'
def gX(b:Bool)(A B:Prop):Prop:=match b with
 |true=>A
 |false=>B
theorem Kv(A B:Prop):gX true A B=A:=rfl
@[congr] theorem abb {b b':Bool} {A B:Prop} (h:b=b'):gX b A B=gX b' A B:=by rw[h]
def Fm(a:Array Value)(A:Prop)(B:List Value→Prop):Prop:=match a.toList with
 |[]=>A
 |us=>us.all (fun u=>u.oneCell')=true∧B us
@[congr] theorem YK {a a':Array Value} {A:Prop} {B:List Value→Prop} (h:a=a'):Fm a A B=Fm a' A B:=by rw[h]
def oE(P:Program)(w0:W0)(cal:DV)(ds:List DV)(S:St)(K:DV→St→Prop):Prop:=match cal with
 | .v (.func (.func f) a cap)=>cap.toList.all (fun u=>u.oneCell')=true∧Fm a (gX (okF P f) (iz S ds fun ds S=>@AC P w0 f (ds++cap.toList.map .v) S ⟨K⟩) (@XC P w0 f (ds++cap.toList.map .v) S ⟨K⟩))
   fun us=>okF P f=true∧iz S ds fun ds S=>@AC P w0 f (us.map .v++(ds++cap.toList.map .v)) S ⟨K⟩
 | .v (.func (.yield l) a cap)=>a.size=0∧cap.size=0∧gk S ds fun ds S=>@YC P w0 l ds S ⟨K⟩
 |_=>False
theorem pg{P:Program}{w0:W0}{f:FuncId}{a cap:Array Value}{ds:List DV}{S:St}{K:DV→St→Prop}(h1:a.size=0)(h2:cap.toList.all (fun u=>u.oneCell')=true)
 (h3:gX (okF P f) (iz S ds fun ds S=>@AC P w0 f (ds++cap.toList.map .v) S ⟨K⟩) (@XC P w0 f (ds++cap.toList.map .v) S ⟨K⟩)):oE P w0 (.v (.func (.func f) a cap)) ds S K:=by
 have ha:a= #[]:=by apply adk h1
 subst ha;exact⟨h2,h3⟩
def Ct(P:Program)(x:DV)(name:String)(F:FuncId→DV→Prop):Prop:=match x with
 | .jM t (.agg [])=>(match Pj P t name with
  |some f=>okF P f=true∧F f (.agg [])
  |none=>False)
 |_=>False
def qk(w0:W0)(b:Nat)(us:List Value):Prop:=(∀j,w0.gh.aY b j=us[j]?)∧∀u,u∈us→u.oneCell'=true
def qP(w0:W0)(b:Nat)(F:DV→Prop):Prop:=∃us,qk w0 b us∧F (.ip (us.map .v))
theorem tM{w0:W0}{b:Nat}{us:List Value}(h:qk w0 b us)(F:DV→Prop):qP w0 b F=F (.ip (us.map .v)):=by
 unfold qP;apply propext;constructor
 ·rintro⟨vs,hv,hF⟩;have:vs=us:=acy fun j=>by rw[←hv.1,h.1]
  rw[←this];exact hF
 ·exact fun hF=>⟨us,h,hF⟩
theorem J4{w0:W0}{b:Nat}{us:List Value}(h:qk w0 b us){g:Gh}(hg:w0.gh.sub g):aG g (.ip (us.map .v)) (.pointer (some ⟨b,0,none⟩)):=
 .ip _ _ _ us (by simp) (fun i d u a1 a2=>by
  simp only[aaE,aay]at a1;obtain⟨u',a1,rfl⟩:=a1;rw[a2]at a1;cases a1;exact .v _ (h.2 _ (aaf a2))) h.2 (fun j x hj=>by
  rw[acE];exact hg.aY _ _ _ (by rw[h.1];exact hj))
def F0(w0:W0)(fr:List DV)(x:Operand)(F:DV→Prop):Prop:=match x with
 | .global b=>qP w0 b F
 |x=>F (ev fr x)
@[congr] theorem aaa {w0:W0} {fr fr':List DV} {x:Operand} {F:DV→Prop} (h:fr=fr'):F0 w0 fr x F=F0 w0 fr' x F:=by rw[h]
@[congr] theorem Yh {w0:W0} {b:Nat} {F:DV→Prop}:qP w0 b F=qP w0 b F:=rfl
@[congr] theorem Zx {P:Program} {x x':DV} {name:String} {F:FuncId→DV→Prop} (h:x=x'):Ct P x name F=Ct P x' name F:=by rw[h]
def uN:TK→Bool
 | .int _=>true
 |_=>false
theorem vt{k:TK}(h:uN k=true):∃k',k= .int k':=by cases k <;>first|exact⟨_,rfl⟩|cases h
def tZ(w0:W0)(d:DV)(S:St):Prop:=match d with
 | .jM t x=>w0.pq (.jM t x) S
 |_=>False
def aH(P:Program)(w0:W0)(op:Op)(fr:List DV)(S:St)(K:DV→St→Prop):Prop:=match op with
 | .move x=>K (ev fr x) S
 | .assign x=>K (ev fr x) S
 | .pick c a b=>iT (ev fr c) (ev fr a) (ev fr b) (K · S)
 | .load t x=>bE (tk P t) S (ev fr x) (K · S)
 | .fieldAddr t x f=>gC (tk P t) f (ev fr x) (K · S)
 | .indexAddr t x i=>F0 w0 fr x fun d=>aK (tk P t) d (ev fr i) (K · S)
 | .index t x i=>jd (tk P t) (ev fr x) (ev fr i) (K · S)
 | .field t x f=>iB (tk P t) f (ev fr x) (K · S)
 | .extract x i=>dc i (ev fr x) (K · S)
 | .nilCheck x=>notNil (ev fr x)=true∧K (ev fr x) S
 | .binOp b t x y _=>(match gl y with
  |true=>nM b (tk P t) (ev fr x) (K · S)
  |false=>kB P b t (xX x) (xX y) (ev fr x) (ev fr y) (K · S))
 | .unOp b _ x=>Db b (ev fr x) (K · S)
 | .convert s d x=>jS (tk P s) (tk P d) (tk P (dO P s)) (tk P (dO P d)) S (ev fr x) (K · S)
 | .makeInterface t x=>rf (tk P t)=false∧shr S (ev fr x) fun d S=>K (.jM t d) S
 | .typeAssert x _ t ok=>rJ P t ok (ev fr x) (K · S)
 | .build t parts=>gk S (parts.toList.map fun p=>ev fr p.2) fun ds S=>eS P t ((parts.toList.map (·.1)).zip ds) (K · S)
 | .buildSlice t len parts=>gk S (parts.toList.map fun p=>ev fr p.2) fun ds S=>aW (tk P t) (zD P (dO P t)) len ((parts.toList.map (·.1)).zip ds) (K · S)
 | .makeFunc fn a b=>mn fn (a.toList.map (ev fr)) (b.toList.map (ev fr)) (K · S)
 | .slice t x lo hi mx=>(mx.isSome=true→hi.isSome=true)∧iG (tk P t) S (ev fr x) (lo.map (ev fr)) (hi.map (ev fr)) (mx.map (ev fr)) K
 | .box _ x=>eW (ev fr x)=true∧∀b,jT S.box b→K (.v (.pointer (some ⟨b,0,none⟩))) ⟨(b,cd (ev fr x))::S.box,S.acc⟩
 | .alloc t=>eW (zD P t)=true∧∀b,jT S.box b→K (.v (.pointer (some ⟨b,0,none⟩))) ⟨(b,cd (zD P t))::S.box,S.acc⟩
 | .store t x y=>(P.info? t).isSome=true∧eu (P.cellsOf t) S (ev fr x) (ev fr y) (K ud)
 | .makeSlice t x y=>dX (tk P t) (zD P (dO P t)) (ev fr x) (ev fr y) S K
 | .lookup t x y ok=>cc (mZ P t) S (ev fr x) (ev fr y) ok (K · S)
 | .mapUpdate t x y z=>fN (mZ P t) S (ev fr x) (ev fr y) (ev fr z) (K ud)
 | .insert t x y z=>fN (mZ P t) S (ev fr x) (ev fr y) (ev fr z) (K ud)
 | .makeMap t r=>iS (mZ P t) r S K
 | .range t x=>P7 (tk P t) (mZ P t) S (ev fr x) K
 | .next x s=>RK s S (ev fr x) K
 | .entry x=>mB S (ev fr x) (K · S)
 | .panic x=>tZ w0 (ev fr x) S
 | .call c=>match c.callee with
  | .builtin .len=>(match c.args.toList,c.argTypes.toList with
   |[x],[t]=>pA (tk P t) (ev fr x) (K · S)
   |_,_=>False)
  | .builtin .cap=>(match c.args.toList,c.argTypes.toList with
   |[x],[t]=>um (tk P t) (ev fr x) (K · S)
   |_,_=>False)
  | .builtin .append=>(match c.args.toList,c.argTypes.toList with
   |[x,y],[t,t']=>(match vE (ev fr x)with
    |true=>(match uN (tk P t')with
     |true=>vT (tk P t) (zD P (dO P t)) S (ev fr x) (ev fr y) K
     |false=>ve (tk P t) (tk P t') S (ev fr x) (ev fr y) K)
    |false=>(match uN (tk P t')with
     |true=>lp (tk P t) (zD P (dO P t)) S (ev fr x) (ev fr y) K
     |false=>kL (tk P t) (tk P t') S (ev fr x) (ev fr y) K))
   |_,_=>False)
  | .builtin .copy=>(match c.args.toList,c.argTypes.toList with
   |[x,y],[t,t']=>zo (tk P t) S (ev fr x) (ev fr y) K
   |_,_=>False)
  | .builtin .clear=>(match c.args.toList,c.argTypes.toList with
   |[x],[t]=>mA (tk P t) (zD P (dO P t)) S (ev fr x) K
   |_,_=>False)
  | .builtin .delete=>(match c.args.toList,c.argTypes.toList with
   |[x,y],[t,t']=>jH (mZ P t) S (ev fr x) (ev fr y) (K ud)
   |_,_=>False)
  | .builtin .min=>(match c.args.toList with
   |[x,y]=>uf (ev fr x) (ev fr y) (K · S)
   |_=>False)
  | .builtin .max=>(match c.args.toList with
   |[x,y]=>tA (ev fr x) (ev fr y) (K · S)
   |_=>False)
  | .value cal=>oE P w0 (ev fr cal) (c.args.toList.map (ev fr)) S K
  | .invoke r name=>Ct P (ev fr r) name fun f d=>iz S (d::c.args.toList.map (ev fr)) fun ds S=>@AC P w0 f ds S ⟨K⟩
  |_=>False
 |_=>False
def eo:Op→Bool
 | .slice _ x lo hi mx=>(match lo with|some y=>!sameO y x|none=>true)&&(match hi with|some y=>!sameO y x|none=>true)&&(match mx with|some y=>!sameO y x|none=>true)
 |_=>true
where sameO:Operand→Operand→Bool
 | .tmp a,.tmp b=>a==b
 | .const _,.const _=>true
 | .global _,.global _=>true
 | .func _,.func _=>true
 |_,_=>false
section
variable {P:Program} {w0:W0}
theorem dj{α:Type}{a:Array α}{l:List α}(h:a.toList=l):a=l.toArray:=by rw[←h]
theorem tc{y x:Operand}(h:eo.sameO y x=false):y≠x:=by
 rintro rfl;cases y <;>simp[eo.sameO]at h
theorem Pe{o:Oper}{f:FuncId}{args:List Operand}{ts:Array TypeId}{cal:Operand}(ho:o.op= .call {callee:= .value cal,args:=args.toArray,argTypes:=ts}){ρD:Operand→DV}{S:St}{K:DV→St→Prop}
 {cap:List Value} (hcal:ρD cal= .v (.func (.func f) #[] cap.toArray)) (h:@XC P w0 f (args.map ρD++cap.map .v) S ⟨K⟩) (hcap:∀u,u∈cap→u.oneCell'=true):ak P w0 o ρD S K:=by
 intro g w ρ h1 h2 hcst;have hc:=h2 cal (by simp[ho,Op.operands,Call.operands]);rw[hcal]at hc;have hv:=ay hc;have hargs:=cR (g:=g) (ρD:=ρD) (ρ:=ρ) args (fun p hp=>h2 p (by simp[ho,Op.operands,Call.operands,hp]))
 have hcapR:af g (cap.map .v) cap:=⟨by simp,fun i d u a1 a2=>by
  simp only[aaE,aay]at a1;obtain⟨u',a1,rfl⟩:=a1;rw[a2]at a1;cases a1;exact .v _ (hcap _ (aaf a2))⟩
 obtain⟨v,w',g',d,S',q1,q2,q3,q4,q5⟩:=h g w ((args.map ρ)++cap) h1 (hargs.append hcapR)
 have hrun:(execOp ρ o).run P w= .ok (.value v) w':=by
  rw[←q1];simp[execOp,ho,resolve,hv,Deferred.ofValue,invoke]
 rw[hrun];exact⟨g',d,S',q2,q3,q4,q5⟩
theorem M9{o:Oper}{x:Operand}(ho:o.op= .panic x){ρD:Operand→DV}{S:St}{K:DV→St→Prop}(h:tZ w0 (ρD x) S):ak P w0 o ρD S K:=by
 intro g w ρ h1 h2 hcst;have hx:=h2 x (by simp[ho,Op.operands]);unfold tZ at h;split at h
 ·rename_i t d he;rw[he]at hx;have hx':=hx;obtain⟨u,hv,hu⟩:=kN hx
  have hrun:(execOp ρ o).run P w= .halt (.panic (.iface t u)) w:=by
   simp[execOp,ho,hv,Instr.panic]
  rw[hrun];rw[hv]at hx';exact⟨fun c hc=>(by rw[ho]at hc;cases hc),g,_,S,.refl g,h1,hx',h⟩
 ·exact h.elim
theorem bH{o:Oper}{fr:List DV}{S:St}{K:DV→St→Prop}(hs:eo o.op=true)(h:aH P w0 o.op fr S K):ak P w0 o (ev fr) S K:=by
 cases hop:o.op with
 |move x=>rw[hop]at h;exact T7 hop h
 |assign x=>rw[hop]at h;exact J7 hop h
 |pick c a b=>rw[hop]at h;exact Q0 hop h
 |load t x=>rw[hop]at h;exact Ts hop h
 |fieldAddr t x f=>rw[hop]at h;exact x0 hop h
 |indexAddr t x i=>
  rw[hop]at h
  cases x with
  |global b=>
   obtain⟨us,hg,h⟩:=(show qP w0 b fun d=>aK (tk P t) d (ev fr i) (K · S)from h)
   exact ph hop (fun g w u hR r=>by
    have:=ay (show aG g (.v (.pointer (some ⟨b,0,none⟩))) u from r);rw[this];exact J4 hg hR.below.fx) h
  |tmp n=>exact mc hop h
  |const u=>exact mc hop h
  |func f=>exact mc hop h
 |index t x i=>rw[hop]at h;exact O1 hop h
 |field t x f=>rw[hop]at h;exact Ka hop h
 |extract x i=>rw[hop]at h;exact EJ hop h
 |nilCheck x=>rw[hop]at h;exact C1 hop h
 |panic x=>rw[hop]at h;exact M9 hop h
 |binOp b t x y t'=>
  rw[hop]at h;simp only[aH]at h
  cases hq:gl y with
  |true=>rw[hq]at h;exact NB hop hq h
  |false=>rw[hq]at h;exact Um hop h
 |unOp b t x=>rw[hop]at h;exact QZ hop h
 |convert s d x=>rw[hop]at h;exact Da hop h
 |makeInterface t x=>rw[hop]at h;exact CI hop h
 |typeAssert x t' t ok=>rw[hop]at h;exact Ho hop h
 |build t parts=>rw[hop]at h;exact Ki (parts:=parts.toList) (by simpa using hop) h
 |buildSlice t len parts=>rw[hop]at h;exact uT (parts:=parts.toList) (by simpa using hop) h
 |makeFunc fn a b=>rw[hop]at h;exact BB (a:=a.toList) (b:=b.toList) (by simpa using hop) h
 |slice t x lo hi mx=>
  rw[hop]at h hs;simp only[eo,aak]at hs;obtain⟨⟨s1,s2⟩,s3⟩:=hs;refine LF hop h.1 ⟨?_,?_,?_⟩ h.2
  ·rintro rfl;simp only[abU]at s1;exact tc s1 rfl
  ·rintro rfl;simp only[abU]at s2;exact tc s2 rfl
  ·rintro rfl;simp only[abU]at s3;exact tc s3 rfl
 |box t x=>rw[hop]at h;exact Wo hop h
 |alloc t=>rw[hop]at h;exact rN hop h
 |store t x y=>rw[hop]at h;exact IN hop h.1 h.2
 |makeSlice t x y=>rw[hop]at h;exact l9 hop h
 |lookup t x y ok=>rw[hop]at h;exact I4 hop h
 |mapUpdate t x y z=>rw[hop]at h;exact qV hop h
 |insert t x y z=>rw[hop]at h;exact Im hop h
 |makeMap t r=>rw[hop]at h;exact EU hop h
 |range t x=>rw[hop]at h;exact Zl hop h
 |next x s=>rw[hop]at h;exact Zy hop h
 |entry x=>rw[hop]at h;exact Mz hop h
 |call c=>
  rw[hop]at h;obtain⟨callee,args,ts⟩:=c;simp only[aH]at h;split at h
  ·split at h
   ·rename_i x t e1 e2;exact Vu (x:=x) (t:=t) (by rw[hop,dj e1,dj e2]) h
   ·exact h.elim
  ·split at h
   ·rename_i x t e1 e2;exact VX (x:=x) (t:=t) (by rw[hop,dj e1,dj e2]) h
   ·exact h.elim
  ·split at h
   ·rename_i x y t t' e1 e2
    cases hrow:vE (ev fr x)with
    |true=>
     rw[hrow]at h
     cases hq:uN (tk P t')with
     |true=>
      rw[hq]at h;obtain⟨k',hk'⟩:=vt hq;exact Rm (x:=x) (y:=y) (t:=t) (t':=t') (by rw[hop,dj e1,dj e2]) hk' h
     |false=>
      rw[hq]at h;exact Q9 (x:=x) (y:=y) (t:=t) (t':=t') (by rw[hop,dj e1,dj e2]) h
    |false=>
     rw[hrow]at h
     cases hq:uN (tk P t')with
     |true=>
      rw[hq]at h;obtain⟨k',hk'⟩:=vt hq;exact Hx (x:=x) (y:=y) (t:=t) (t':=t') (by rw[hop,dj e1,dj e2]) hk' h
     |false=>
      rw[hq]at h;exact Lk (x:=x) (y:=y) (t:=t) (t':=t') (by rw[hop,dj e1,dj e2]) h
   ·exact h.elim
  ·split at h
   ·rename_i x y t t' e1 e2;exact Q3 (x:=x) (y:=y) (t:=t) (t':=t') (by rw[hop,dj e1,dj e2]) h
   ·exact h.elim
  ·split at h
   ·rename_i x t e1 e2;exact MC (x:=x) (t:=t) (by rw[hop,dj e1,dj e2]) h
   ·exact h.elim
  ·split at h
   ·rename_i x y t t' e1 e2;exact Lx (x:=x) (y:=y) (t:=t) (t':=t') (by rw[hop,dj e1,dj e2]) h
   ·exact h.elim
  ·split at h
   ·rename_i x y e1;exact VI (x:=x) (y:=y) (ts:=ts) (by rw[hop,dj e1]) h
   ·exact h.elim
  ·split at h
   ·rename_i x y e1;exact WM (x:=x) (y:=y) (ts:=ts) (by rw[hop,dj e1]) h
   ·exact h.elim
  ·rename_i cal;unfold oE at h;split at h
   ·rename_i f a cap hcal;obtain⟨hcap,h⟩:=h;obtain⟨a⟩:=a
    cases a with
    |cons u us=>
     obtain⟨hfst,hf,h⟩:=h;refine IE (args:=args.toList) (cal:=cal) (fst:=u::us) (cap:=cap.toList) (ts:=ts) (by simpa using hop) (by simpa using hcal) hf ?_ (aa8.1 hfst) (aa8.1 hcap);unfold iz at h;split at h
     ·exact h
     ·exact .inr h
    |nil=>?_
    replace h:gX (okF P f) (iz S (args.toList.map (ev fr)) fun ds S=>@AC P w0 f (ds++cap.toList.map .v) S ⟨K⟩) (@XC P w0 f (args.toList.map (ev fr)++cap.toList.map .v) S ⟨K⟩):=h
    cases hf:okF P f with
    |false=>
     rw[hf]at h;exact Pe (args:=args.toList) (cal:=cal) (cap:=cap.toList) (ts:=ts) (by simpa using hop) (by simpa using hcal) h (aa8.1 hcap)
    |true=>?_
    rw[hf]at h;simp only[gX]at h;refine Pz (args:=args.toList) (cal:=cal) (cap:=cap.toList) (ts:=ts) (by simpa using hop) (by simpa using hcal) hf ?_ (aa8.1 hcap);unfold iz at h;split at h
    ·exact h
    ·exact .inr h
   ·rename_i l a cap hcal;obtain⟨ha,hcap,h⟩:=h;have ha':a= #[]:=by apply adk ha
    have hc':cap= #[]:=by apply adk hcap
    subst ha';subst hc';exact Nh (args:=args.toList) (cal:=cal) (ts:=ts) (by simpa using hop) hcal h
   ·exact h.elim
  ·rename_i r name;unfold Ct at h;split at h
   ·rename_i t hx;split at h
    ·rename_i f hi;obtain⟨hf,h⟩:=h;refine HZ (args:=args.toList) (ts:=ts) (by simpa using hop) hx hi hf ?_;unfold iz at h;split at h
     ·exact h
     ·exact .inr h
    ·exact h.elim
   ·exact h.elim
  ·exact h.elim
 |_=>rw[hop]at h;exact h.elim
def rV(P:Program)(w0:W0)(ops:Array Oper)(K:List DV→St→Prop):List Oper→List DV→St→Prop
 |[],fr,S=>K fr S
 |o::rest,fr,S=>bP ops fr o.guard (fun fr=>aH P w0 o.op fr S fun d S'=>rV P w0 ops K rest (pt fr o.dst d) S') (fun fr=>rV P w0 ops K rest (pt fr o.dst ud) S)
theorem jo{ops:Array Oper}{fr:List DV}{gd:Option (Nat×Bool)}{A B A' B':List DV→Prop}(ha:∀fr,A fr→A' fr)(hb:∀fr,B fr→B' fr)(h:bP ops fr gd A B):bP ops fr gd A' B':=by
 unfold bP at*;split at h
 ·exact ha _ h
 ·split at h
  ·exact hb _ h
  ·split at h
   ·exact⟨fun e=>ha _ (h.1 e),fun e=>hb _ (h.2 e)⟩
   ·exact hb _ h
   ·exact h
theorem aD{o:Oper}{ρD:Operand→DV}{S:St}{K K':DV→St→Prop}(hk:∀d S,K d S→K' d S)(h:ak P w0 o ρD S K):ak P w0 o ρD S K':=by
 intro g w ρ h1 h2 hcst;have:=h g w ρ h1 h2 hcst;split at this
 ·obtain⟨g',d,S',a,b,c,e⟩:=this;exact⟨g',d,S',a,b,c,hk _ _ e⟩
 ·obtain⟨g',S',a,b,e⟩:=this;exact⟨g',S',a,b,hk _ _ e⟩
 ·exact this.mono fun e w'' k=>k.mono (.refl _) hk
 ·exact fun ro=>(this ro).mono fun e w'' k=>k.mono (.refl _) hk
 ·exact this
 ·exact this
theorem iQ{ops:Array Oper}{K:List DV→St→Prop}:∀(l:List Oper) {fr:List DV} {S:St},l.all (fun o=>eo o.op)=true→rV P w0 ops K l fr S→DM P w0 ops K l fr S
 |[],fr,S,_,h=>h
 |o::rest,fr,S,hs,h=>by
  simp only[ado,aak]at hs;refine jo (fun fr h=>?_) (fun fr h=>iQ rest hs.2 h) h;exact aD (fun d S h=>iQ rest hs.2 h) (bH hs.1 h)
theorem B9{d:DV}{A B A' B':Prop}(ha:A→A')(hb:B→B')(h:dq d A B):dq d A' B':=by
 unfold dq at*;split at h
 ·exact⟨fun e=>ha (h.1 e),fun e=>hb (h.2 e)⟩
 ·exact h
end
end Aml
namespace Go.Proofs.YtoepfmhnapedoaaGreatDoor
open Aml
@[go_sem] theorem tyq.a1:tk Tryz.prog 1= .fn∧zD Tryz.prog 1= .v .nilFunc∧Tryz.prog.cellsOf 1=1∧(Tryz.prog.info? 1).isSome=true∧tk Tryz.prog 2= .int .i64∧zD Tryz.prog 2= .v (.int .i64 0)∧Tryz.prog.cellsOf 2=1∧(Tryz.prog.info? 2).isSome=true∧tk Tryz.prog 3= .int .i64∧zD Tryz.prog 3= .v (.int .i64 0)∧Tryz.prog.cellsOf 3=1∧(Tryz.prog.info? 3).isSome=true∧tk Tryz.prog 4= .one∧zD Tryz.prog 4= .v (.bool false)∧Tryz.prog.cellsOf 4=1∧(Tryz.prog.info? 4).isSome=true∧tk Tryz.prog 5= .int .u8∧zD Tryz.prog 5= .v (.int .u8 0)∧Tryz.prog.cellsOf 5=1∧tk Tryz.prog 6= .int .u8∧zD Tryz.prog 6= .v (.int .u8 0)∧Tryz.prog.cellsOf 6=1∧tk Tryz.prog 7= .st [(0,1,false),(1,1,false),(2,1,false),(3,1,false)] 4∧pH Tryz.prog 7=some [.int .i64,.int .i64,.bool,.int .u8]:=by and_intros<;>kernel_rfl
@[go_sem] theorem tyq.a2:zD Tryz.prog 7= .agg [.v (.int .i64 0),.v (.int .i64 0),.v (.bool false),.v (.int .u8 0)]∧Tryz.prog.cellsOf 7=4∧tk Tryz.prog 8= .st [(0,1,false),(1,1,false),(2,1,false),(3,1,false)] 4∧pH Tryz.prog 8=some [.int .i64,.int .i64,.bool,.int .u8]∧zD Tryz.prog 8= .agg [.v (.int .i64 0),.v (.int .i64 0),.v (.bool false),.v (.int .u8 0)]∧Tryz.prog.cellsOf 8=4∧tk Tryz.prog 9= .str∧zD Tryz.prog 9= .v (.string ByteArray.empty)∧tk Tryz.prog 10= .str∧tk Tryz.prog 11= .str∧tk Tryz.prog 12= .int .u64∧zD Tryz.prog 12= .v (.int .u64 0)∧tk Tryz.prog 13= .st [(0,1,false),(1,1,false)] 2∧tk Tryz.prog 14= .st [(0,1,false),(1,1,false)] 2∧tk Tryz.prog 15= .ptr 258∧tk Tryz.prog 16= .ptr 261∧zD Tryz.prog 20= .v .nilIface∧tk Tryz.prog 22= .sl 9 1 16 true∧dO Tryz.prog 22=9∧Tryz.prog.cellsOf 22=1∧(Tryz.prog.info? 22).isSome=true∧tk Tryz.prog 23= .sl 75 1 8 true∧dO Tryz.prog 23=75∧zD Tryz.prog 23= .sl 0 true []:=by and_intros<;>kernel_rfl
@[go_sem] theorem tyq.a3:Tryz.prog.cellsOf 23=1∧(Tryz.prog.info? 23).isSome=true∧tk Tryz.prog 24= .sl 3 1 8 true∧dO Tryz.prog 24=3∧Tryz.prog.cellsOf 24=1∧(Tryz.prog.info? 24).isSome=true∧tk Tryz.prog 25= .sl 79 3 24 true∧dO Tryz.prog 25=79∧Tryz.prog.cellsOf 25=1∧(Tryz.prog.info? 25).isSome=true∧tk Tryz.prog 27= .st [(0,1,false),(1,1,false),(2,1,false),(3,1,false)] 4∧zD Tryz.prog 27= .agg [.sl 0 true [],.sl 0 true [],.sl 0 true [],.sl 0 true []]∧Tryz.prog.cellsOf 27=4∧(Tryz.prog.info? 27).isSome=true∧tk Tryz.prog 28= .sl 47 11 128 true∧dO Tryz.prog 28=47∧zD Tryz.prog 28= .sl 0 true []∧tk Tryz.prog 29= .sl 4 1 1 true∧zD Tryz.prog 31= .v .nilFunc∧tk Tryz.prog 32= .ptr 85∧(Tryz.prog.info? 32).isSome=true∧tk Tryz.prog 33= .int .i64∧tk Tryz.prog 36= .ptr 55∧tk Tryz.prog 39= .sl 72 3 40 true:=by and_intros<;>kernel_rfl
@[go_sem] theorem tyq.a4:dO Tryz.prog 39=72∧zD Tryz.prog 39= .sl 0 true []∧tk Tryz.prog 41= .st [(0,1,false),(1,1,false),(2,1,false),(3,1,false)] 4∧pH Tryz.prog 41=some [.int .i64,.int .i64,.int .i64,.int .i64]∧zD Tryz.prog 41= .agg [.v (.int .i64 0),.v (.int .i64 0),.v (.int .i64 0),.v (.int .i64 0)]∧tk Tryz.prog 42= .sl 151 6 64 true∧dO Tryz.prog 42=151∧zD Tryz.prog 42= .sl 0 true []∧Tryz.prog.cellsOf 42=1∧(Tryz.prog.info? 42).isSome=true∧tk Tryz.prog 44= .st [(0,1,false),(1,1,false),(2,1,false),(3,4,true),(7,1,false)] 8∧zD Tryz.prog 44= .agg [.v (.int .i64 0),.v (.int .i64 0),.sl 0 true [],.v (.int .i64 0),.v (.int .i64 0),.v (.int .i64 0),.v (.int .i64 0),.sl 0 true []]∧Tryz.prog.cellsOf 44=8∧(Tryz.prog.info? 44).isSome=true∧zD Tryz.prog 46= .agg [.v (.int .i64 0),.v (.int .i64 0),.v (.int .i64 0),.v (.int .i64 0),.v (.string ByteArray.empty),.v (.string ByteArray.empty),.v (.string ByteArray.empty),.v (.int .i64 0),.v (.int .i64 0),.v (.int .i64 0),.sl 0 true []]∧tk Tryz.prog 47= .st [(0,1,false),(1,1,false),(2,1,false),(3,1,false),(4,1,false),(5,1,false),(6,1,false),(7,1,false),(8,1,false),(9,1,false),(10,1,false)] 11∧zD Tryz.prog 47= .agg [.v (.int .i64 0),.v (.int .i64 0),.v (.int .i64 0),.v (.int .i64 0),.v (.string ByteArray.empty),.v (.string ByteArray.empty),.v (.string ByteArray.empty),.v (.int .i64 0),.v (.int .i64 0),.v (.int .i64 0),.sl 0 true []]∧Tryz.prog.cellsOf 47=11∧(Tryz.prog.info? 47).isSome=true∧tk Tryz.prog 50= .sl 116 1 24 true∧dO Tryz.prog 50=116∧Tryz.prog.cellsOf 50=1∧(Tryz.prog.info? 50).isSome=true∧tk Tryz.prog 51= .sl 42 1 24 true:=by and_intros<;>kernel_rfl
@[go_sem] theorem tyq.a5:dO Tryz.prog 51=42∧zD Tryz.prog 51= .sl 0 true []∧tk Tryz.prog 52= .sl 136 5 56 true∧dO Tryz.prog 52=136∧Tryz.prog.cellsOf 52=1∧(Tryz.prog.info? 52).isSome=true∧tk Tryz.prog 53= .sl 145 4 48 true∧dO Tryz.prog 53=145∧zD Tryz.prog 53= .sl 0 true []∧Tryz.prog.cellsOf 53=1∧(Tryz.prog.info? 53).isSome=true∧tk Tryz.prog 55= .st [(0,4,true),(4,1,false),(5,1,false),(6,1,false),(7,1,false),(8,1,false),(9,1,false)] 10∧zD Tryz.prog 55= .agg [.sl 0 true [],.sl 0 true [],.sl 0 true [],.sl 0 true [],.sl 0 true [],.sl 0 true [],.sl 0 true [],.sl 0 true [],.sl 0 true [],.sl 0 true []]∧(Tryz.prog.info? 64).isSome=true∧tk Tryz.prog 66= .sl 39 1 24 true∧dO Tryz.prog 66=39∧tk Tryz.prog 72= .st [(0,1,false),(1,1,false),(2,1,false)] 3∧pH Tryz.prog 72=some [.str,.int .i64,.str]∧zD Tryz.prog 72= .agg [.v (.string ByteArray.empty),.v (.int .i64 0),.v (.string ByteArray.empty)]∧tk Tryz.prog 75= .int .u64∧zD Tryz.prog 75= .v (.int .u64 0)∧Tryz.prog.cellsOf 75=1∧(Tryz.prog.info? 75).isSome=true∧tk Tryz.prog 79= .st [(0,1,false),(1,1,false),(2,1,false)] 3:=by and_intros<;>kernel_rfl
@[go_sem] theorem tyq.a6:pH Tryz.prog 79=some [.int .i64,.int .i64,.int .i64]∧zD Tryz.prog 79= .agg [.v (.int .i64 0),.v (.int .i64 0),.v (.int .i64 0)]∧Tryz.prog.cellsOf 79=3∧(Tryz.prog.info? 79).isSome=true∧tk Tryz.prog 80= .ptr 129∧tk Tryz.prog 82= .map 172 170∧tk Tryz.prog 83= .sl 86 1 8 true∧dO Tryz.prog 83=86∧Tryz.prog.cellsOf 83=1∧(Tryz.prog.info? 83).isSome=true∧tk Tryz.prog 85= .st [(0,4,true),(4,1,false),(5,1,false),(6,1,false)] 7∧zD Tryz.prog 85= .agg [.sl 0 true [],.sl 0 true [],.sl 0 true [],.sl 0 true [],.sl 0 true [],.v (.pointer none),.v (.map none)]∧tk Tryz.prog 86= .ptr 90∧zD Tryz.prog 86= .v (.pointer none)∧tk Tryz.prog 88= .map 9 114∧zD Tryz.prog 88= .v (.map none)∧Tryz.prog.cellsOf 88=1∧(Tryz.prog.info? 88).isSome=true∧tk Tryz.prog 90= .st [(0,1,false),(1,1,false),(2,1,false),(3,1,false)] 4∧zD Tryz.prog 90= .agg [.v (.map none),.sl 0 true [],.v (.int .i64 0),.v (.map none)]∧tk Tryz.prog 93= .ptr 95∧tk Tryz.prog 95= .st [(0,1,false),(1,11,true),(12,1,false),(13,1,false)] 14∧zD Tryz.prog 95= .agg [.v (.pointer none),.v (.int .i64 0),.v (.int .i64 0),.v (.int .i64 0),.v (.int .i64 0),.v (.string ByteArray.empty),.v (.string ByteArray.empty),.v (.string ByteArray.empty),.v (.int .i64 0),.v (.int .i64 0),.v (.int .i64 0),.sl 0 true [],.v (.bool false),.v (.pointer none)]∧tk Tryz.prog 98= .st [(0,1,false),(1,1,false)] 2:=by and_intros<;>kernel_rfl
@[go_sem] theorem tyq.a7:pH Tryz.prog 98=some [.int .i64,.int .i64]∧zD Tryz.prog 98= .agg [.v (.int .i64 0),.v (.int .i64 0)]∧Tryz.prog.cellsOf 98=2∧(Tryz.prog.info? 98).isSome=true∧zD Tryz.prog 100= .v .nilFunc∧tk Tryz.prog 101= .map 3 100∧tk Tryz.prog 114= .map 9 9∧zD Tryz.prog 114= .v (.map none)∧tk Tryz.prog 116= .sl 118 3 48 true∧dO Tryz.prog 116=118∧zD Tryz.prog 116= .sl 0 true []∧Tryz.prog.cellsOf 116=1∧(Tryz.prog.info? 116).isSome=true∧tk Tryz.prog 118= .st [(0,1,false),(1,1,false),(2,1,false)] 3∧zD Tryz.prog 118= .agg [.v (.string ByteArray.empty),.v (.string ByteArray.empty),.v (.string ByteArray.empty)]∧Tryz.prog.cellsOf 118=3∧(Tryz.prog.info? 118).isSome=true∧zD Tryz.prog 119= .v .nilFunc∧tk Tryz.prog 126= .map 3 3∧tk Tryz.prog 127= .map 98 130∧tk Tryz.prog 129= .st [(0,1,false),(1,1,false)] 2∧zD Tryz.prog 129= .agg [.v (.map none),.v (.map none)]∧tk Tryz.prog 130= .ptr 132∧zD Tryz.prog 130= .v (.pointer none):=by and_intros<;>kernel_rfl
@[go_sem] theorem tyq.a8:zD Tryz.prog 131= .agg [.v (.int .i64 0),.v (.map none)]∧tk Tryz.prog 132= .st [(0,1,false),(1,1,false)] 2∧zD Tryz.prog 132= .agg [.v (.int .i64 0),.v (.map none)]∧tk Tryz.prog 136= .st [(0,1,false),(1,1,false),(2,1,false),(3,1,false),(4,1,false)] 5∧zD Tryz.prog 136= .agg [.v (.int .i64 0),.v (.int .i64 0),.sl 0 true [],.v (.int .i64 0),.v (.bool false)]∧Tryz.prog.cellsOf 136=5∧(Tryz.prog.info? 136).isSome=true∧zD Tryz.prog 138= .v .nilFunc∧zD Tryz.prog 139= .v .nilFunc∧tk Tryz.prog 145= .st [(0,1,false),(1,1,false),(2,1,false),(3,1,false)] 4∧zD Tryz.prog 145= .agg [.v (.int .i64 0),.v (.int .i64 0),.v (.int .i64 0),.sl 0 true []]∧Tryz.prog.cellsOf 145=4∧(Tryz.prog.info? 145).isSome=true∧tk Tryz.prog 148= .int .u32∧tk Tryz.prog 151= .st [(0,1,false),(1,1,false),(2,1,false),(3,1,false),(4,1,false),(5,1,false)] 6∧pH Tryz.prog 151=some [.int .i64,.int .i64,.int .i64,.str,.str,.int .u32]∧zD Tryz.prog 151= .agg [.v (.int .i64 0),.v (.int .i64 0),.v (.int .i64 0),.v (.string ByteArray.empty),.v (.string ByteArray.empty),.v (.int .u32 0)]∧tk Tryz.prog 162= .ar 17 9 1 false 17∧tk Tryz.prog 170= .sl 88 1 8 true∧dO Tryz.prog 170=88∧zD Tryz.prog 170= .sl 0 true []∧tk Tryz.prog 172= .st [(0,2,true),(2,1,false)] 3∧pH Tryz.prog 172=none∧qH Tryz.prog 172=some [.i64,.i64,.i64]:=by and_intros<;>kernel_rfl
@[go_sem] theorem tyq.a9:zD Tryz.prog 172= .agg [.v (.int .i64 0),.v (.int .i64 0),.v (.int .i64 0)]∧zD Tryz.prog 182= .v .nilFunc∧zD Tryz.prog 183= .v .nilFunc∧tk Tryz.prog 185= .fn∧tk Tryz.prog 197= .sl 72 3 40 true∧dO Tryz.prog 197=72∧Tryz.prog.cellsOf 197=1∧(Tryz.prog.info? 197).isSome=true∧tk Tryz.prog 204= .sl 5 1 1 true∧dO Tryz.prog 204=5∧zD Tryz.prog 218= .v .nilFunc∧zD Tryz.prog 222= .v .nilFunc∧zD Tryz.prog 228= .v (.pointer none)∧zD Tryz.prog 229= .v .nilFunc∧tk Tryz.prog 241= .ar 16 148 1 false 16∧tk Tryz.prog 245= .ar 64 5 1 false 64∧okF Tryz.prog 0=false∧okF Tryz.prog 1=false∧okF Tryz.prog 2=true∧okF Tryz.prog 3=true∧okF Tryz.prog 4=true∧okF Tryz.prog 5=true∧okF Tryz.prog 6=true∧okF Tryz.prog 7=true:=by and_intros<;>kernel_rfl
@[go_sem] theorem tyq.a10:okF Tryz.prog 8=true∧okF Tryz.prog 9=true∧okF Tryz.prog 10=true∧okF Tryz.prog 11=true∧okF Tryz.prog 12=true∧okF Tryz.prog 13=true∧okF Tryz.prog 14=true∧okF Tryz.prog 15=true∧okF Tryz.prog 16=true∧okF Tryz.prog 17=true∧okF Tryz.prog 18=true∧okF Tryz.prog 19=true∧okF Tryz.prog 20=true∧okF Tryz.prog 22=true∧okF Tryz.prog 25=true∧okF Tryz.prog 26=true∧okF Tryz.prog 27=true∧okF Tryz.prog 28=true∧okF Tryz.prog 29=true∧okF Tryz.prog 30=true∧okF Tryz.prog 31=true∧okF Tryz.prog 33=true∧okF Tryz.prog 34=true∧okF Tryz.prog 35=true:=by and_intros<;>kernel_rfl
@[go_sem] theorem tyq.a11:okF Tryz.prog 36=true∧okF Tryz.prog 37=true∧okF Tryz.prog 38=true∧okF Tryz.prog 39=true∧okF Tryz.prog 40=true∧okF Tryz.prog 41=true∧okF Tryz.prog 42=true∧okF Tryz.prog 43=true∧okF Tryz.prog 44=true∧okF Tryz.prog 45=true∧okF Tryz.prog 46=true∧okF Tryz.prog 47=true∧okF Tryz.prog 48=true∧okF Tryz.prog 49=true∧okF Tryz.prog 50=true∧okF Tryz.prog 51=true∧okF Tryz.prog 52=true∧okF Tryz.prog 53=true∧okF Tryz.prog 54=true∧okF Tryz.prog 55=true∧okF Tryz.prog 56=true∧okF Tryz.prog 57=true∧okF Tryz.prog 58=true∧okF Tryz.prog 59=true:=by and_intros<;>kernel_rfl
@[go_sem] theorem tyq.a12:okF Tryz.prog 60=true∧okF Tryz.prog 61=true∧okF Tryz.prog 62=true∧okF Tryz.prog 63=true∧okF Tryz.prog 64=true∧okF Tryz.prog 65=true∧okF Tryz.prog 66=true∧okF Tryz.prog 67=true∧okF Tryz.prog 68=true∧okF Tryz.prog 84=true∧okF Tryz.prog 85=true∧okF Tryz.prog 86=true∧okF Tryz.prog 87=true∧okF Tryz.prog 88=true∧okF Tryz.prog 89=true∧okF Tryz.prog 90=true∧okF Tryz.prog 91=true∧okF Tryz.prog 92=true∧okF Tryz.prog 93=true∧okF Tryz.prog 94=true∧okF Tryz.prog 95=true∧okF Tryz.prog 96=true∧okF Tryz.prog 97=true∧okF Tryz.prog 98=true:=by and_intros<;>kernel_rfl
@[go_sem] theorem tyq.a13:okF Tryz.prog 101=true∧okF Tryz.prog 102=true∧okF Tryz.prog 103=true∧okF Tryz.prog 104=true∧okF Tryz.prog 105=true∧okF Tryz.prog 106=true∧okF Tryz.prog 107=true∧okF Tryz.prog 108=true∧okF Tryz.prog 109=true∧okF Tryz.prog 110=true∧okF Tryz.prog 111=true∧okF Tryz.prog 112=true∧okF Tryz.prog 113=true∧okF Tryz.prog 114=true∧okF Tryz.prog 115=true∧okF Tryz.prog 116=true∧okF Tryz.prog 117=true∧okF Tryz.prog 118=true∧okF Tryz.prog 119=true∧okF Tryz.prog 120=true∧okF Tryz.prog 121=true∧okF Tryz.prog 122=true∧okF Tryz.prog 123=true∧okF Tryz.prog 124=true:=by and_intros<;>kernel_rfl
@[go_sem] theorem tyq.a14:okF Tryz.prog 125=true∧okF Tryz.prog 126=true∧okF Tryz.prog 128=true∧okF Tryz.prog 129=true∧okF Tryz.prog 130=true∧okF Tryz.prog 131=true∧okF Tryz.prog 132=true∧okF Tryz.prog 133=true∧okF Tryz.prog 134=true∧okF Tryz.prog 135=true∧okF Tryz.prog 136=true∧okF Tryz.prog 137=true∧okF Tryz.prog 138=true∧okF Tryz.prog 139=true∧okF Tryz.prog 142=true∧okF Tryz.prog 143=true∧okF Tryz.prog 144=true∧okF Tryz.prog 145=true∧okF Tryz.prog 147=true∧okF Tryz.prog 149=true∧okF Tryz.prog 151=true∧okF Tryz.prog 152=true∧okF Tryz.prog 153=true∧okF Tryz.prog 154=true:=by and_intros<;>kernel_rfl
@[go_sem] theorem tyq.a15:okF Tryz.prog 155=true∧okF Tryz.prog 156=true∧okF Tryz.prog 157=true∧okF Tryz.prog 158=true∧okF Tryz.prog 160=true∧okF Tryz.prog 161=true∧okF Tryz.prog 162=true∧okF Tryz.prog 163=true∧okF Tryz.prog 175=true∧okF Tryz.prog 176=true∧okF Tryz.prog 177=true∧okF Tryz.prog 178=true∧okF Tryz.prog 180=true∧okF Tryz.prog 181=true∧okF Tryz.prog 182=true∧okF Tryz.prog 183=true∧okF Tryz.prog 185=true∧okF Tryz.prog 186=true∧okF Tryz.prog 187=true∧okF Tryz.prog 189=true∧okF Tryz.prog 190=true∧okF Tryz.prog 193=true∧okF Tryz.prog 194=true∧okF Tryz.prog 195=true:=by and_intros<;>kernel_rfl
@[go_sem] theorem tyq.a16:okF Tryz.prog 196=true∧okF Tryz.prog 197=true∧okF Tryz.prog 198=true∧okF Tryz.prog 199=true∧okF Tryz.prog 204=true∧okF Tryz.prog 215=true∧okF Tryz.prog 216=true:=by and_intros<;>kernel_rfl
theorem mx:Tryz.prog.follows .mixedOrders=true:=by kernel_rfl
end Go.Proofs.YtoepfmhnapedoaaGreatDoor
namespace Aml
open Go Go.RowKit
def va:List DV→Nat→List Nat→List DV
 |[],_,_=>[]
 |_::ds,i,[]=> .any::va ds (i+1) []
 |d::ds,i,j::js=>if i=j then d::va ds (i+1) js else .any::va ds (i+1) (j::js)
def wk(live:List Nat)(fr:List DV):List DV:=va fr 0 live
def kC(fr:List DV):List (Nat×DV)→List DV
 |[]=>fr
 |(i,d)::us=>kC (fr.set i d) us
structure XF where
 a0:DV
 a1:DV
 a2:DV
 a3:DV
 a4:DV
 a5:DV
 a6:DV
 a7:DV
 a8:DV
 a9:DV
 bL:DV
 bQ:DV
 a12:DV
 bW:DV
 bZ:DV
 cg:DV
def rc(r:XF)(l:List DV):List DV:=r.a0::r.a1::r.a2::r.a3::r.a4::r.a5::r.a6::r.a7::r.a8::r.a9::r.bL::r.bQ::r.a12::r.bW::r.bZ::r.cg::l
def dE(l:List DV):List DV:=l
theorem HJ{g:Gh}:∀{ds es:List DV} {us:List Value},af g ds us→ds.length=es.length→(∀(i:Nat) (d e:DV),ds[i]? =some d→es[i]? =some e→e=d∨e= .any)→af g es us:=
 fun{ds es us} h hl hs=>⟨by rw[←hl];exact h.len,fun i e u h1 h2=>by
  have hi:i<ds.length:=by rw[hl];exact(aad.1 h1).1
  rcases hs i _ e (aac hi) h1 with rfl|rfl
  ·exact h.at_ i _ u (aac hi) h2
  ·exact .any u⟩
theorem my:∀(ds:List DV) (k:Nat) (js:List Nat),(va ds k js).length=ds.length∧∀(i:Nat) (d e:DV),ds[i]? =some d→(va ds k js)[i]? =some e→e=d∨e= .any
 |[],k,js=>⟨by simp[va],fun i d e h=>by simp at h⟩
 |d::ds,k,[]=>by
  obtain⟨h1,h2⟩:=my ds (k+1) [];refine⟨by simp[va,h1],fun i d' e a b=>?_⟩
  cases i with
  |zero=>simp[va]at b;exact .inr b.symm
  |succ i=>simp[va]at a b;exact h2 i d' e a b
 |d::ds,k,j::js=>by
  simp only[va];split
  ·obtain⟨h1,h2⟩:=my ds (k+1) js;refine⟨by simp[h1],fun i d' e a b=>?_⟩
   cases i with
   |zero=>simp at a b;exact .inl (b.symm.trans a)
   |succ i=>simp at a b;exact h2 i d' e a b
  ·obtain⟨h1,h2⟩:=my ds (k+1) (j::js);refine⟨by simp[h1],fun i d' e a b=>?_⟩
   cases i with
   |zero=>simp at b;exact .inr b.symm
   |succ i=>simp at a b;exact h2 i d' e a b
theorem gN{g:Gh}{fr:List DV}{us:List Value}(live:List Nat)(h:af g fr us):af g (wk live fr) us:=
 HJ h (my fr 0 live).1.symm (my fr 0 live).2
section
variable {P:Program} {w0:W0}
theorem G5(i s:Nat)(hs:0<s){c:Code}{fr:List DV}{S:St}{Q:Exit→List DV→St→Prop}{s0:Nat}(hi:fr[i]? =some (.sl s0 true []))
 (h:∀l,jT S.acc l→fV P w0 c (fr.set i (.acc l 0)) ⟨S.box,(l,.arr s [])::S.acc⟩ Q):fV P w0 c fr S Q:=by
 intro g a w h1 h2 h3;have hlt:i<a.tmps.toList.length:=by rw[←h2.len];exact(aad.1 hi).1
 have hr:=h2.at_ i _ _ hi (aac hlt);have hr':aG g (.sl s true []) a.tmps.toList[i]:=by obtain⟨o',ho'⟩:=cO hr;rw[ho'];exact .nil _ _ _ _ fun _=>rfl
 obtain⟨l,g',hle,hne,hR,hA⟩:=h1.pV hs hr' (.arr s []) (.inr ⟨rfl,rfl⟩);have hfr:=gF (h2.mono hle) (aac hlt) hA;exact bg (h l (cG hne) g' a w hR hfr (hle.dk h3)) fun _ _ _ k=>k.of_le hle
end
end Aml
namespace Aml
open Go Go.RowKit
def GX(xs:List DV)(i:Nat)(F:DV→Prop):Prop:=∀d,xs[i]? =some d→eW d=true∧F d
def Ov(xs:List DV)(i:Nat)(F:DV→Prop):Prop:=∃d,xs[i]? =some d∧eW d=true∧F d
theorem L1{α:Type}(f:α→DV)(l:List α)(i:Nat)(F:DV→Prop):GX (List.map f l) i F=∀a,l[i]? =some a→eW (f a)=true∧F (f a):=by
 unfold GX;refine propext ⟨fun h a ha=>h _ (by rw[aaE,ha];rfl),fun h d hd=>?_⟩;rw[aaE,aay]at hd;obtain⟨a,ha,rfl⟩:=hd;exact h a ha
theorem KM(i:Nat)(F:DV→Prop):GX [] i F=True:=by simp[GX]
theorem Ei(x:DV)(xs:List DV)(F:DV→Prop):GX (x::xs) 0 F=(eW x=true∧F x):=by simp[GX]
theorem ES(x:DV)(xs:List DV)(i:Nat)(F:DV→Prop):GX (x::xs) (i+1) F=GX xs i F:=by simp[GX]
theorem KL{α:Type}(f:α→DV)(l:List α)(i:Nat)(F:DV→Prop):Ov (List.map f l) i F=(i<l.length∧∀a,l[i]? =some a→eW (f a)=true∧F (f a)):=by
 unfold Ov;refine propext ⟨fun⟨d,hd,h⟩=>?_,fun⟨hi,h⟩=>⟨f l[i],by rw[aaE,aac hi];rfl,h _ (aac hi)⟩⟩;rw[aaE,aay]at hd;obtain⟨a,ha,rfl⟩:=hd;exact⟨(aad.1 ha).1,fun b hb=>by rw[ha]at hb;cases hb;exact h⟩
theorem Mn(u:Value):eW (.v u)=true:=rfl
theorem Kh(s:Nat)(f:Bool)(xs:List DV):eW (.sl s f xs)=true:=rfl
theorem Gp(ds:List DV):eW (.agg ds)=true:=rfl
theorem EP(l n:Nat):eW (.acc l n)=true:=rfl
theorem Q5(u:Value):cd (.v u)=[.v u]:=rfl
theorem N2(s:Nat)(f:Bool)(xs:List DV):cd (.sl s f xs)=[.sl s f xs]:=rfl
theorem KB(ds:List DV):cd (.agg ds)=ds:=rfl
theorem Kl(l n:Nat):cd (.acc l n)=[.acc l n]:=rfl
theorem Ko{α:Type}(n:Nat):lk ([]:List (Nat×α)) n=none:=rfl
theorem GN{α:Type}(k:Nat)(x:α)(t:List (Nat×α)):lk ((k,x)::t) k=some x:=by simp[lk]
theorem oS{α:Type}{k n:Nat}(h:¬k=n)(x:α)(t:List (Nat×α)):lk ((k,x)::t) n=lk t n:=by simp[lk,h]
theorem EB{α:Type}(k:Nat)(x y:α)(t:List (Nat×α)):up ((k,x)::t) k y=(k,y)::t:=by simp[up]
theorem OI{α:Type}{k n:Nat}(h:¬k=n)(x y:α)(t:List (Nat×α)):up ((k,x)::t) n y=(k,x)::up t n y:=by simp[up,h]
section
variable {P:Program} {w0:W0} (K:DV→Prop) (K2:DV→St→Prop) (S:St)
theorem LV(k:IntKind)(d:DV)(ds:List DV):qy (.int k) (d::ds) K=K d:=rfl
theorem K0(d:DV)(ds:List DV):qy .one (d::ds) K=K d:=rfl
theorem OO(d:DV)(ds:List DV):qy .fn (d::ds) K=K d:=rfl
theorem JL(d:DV)(ds:List DV):qy .str (d::ds) K=K d:=rfl
theorem Ox(e s b:Nat)(i:Bool)(d:DV)(ds:List DV):qy (.sl e s b i) (d::ds) K=K d:=rfl
theorem KP(k e:Nat)(d:DV)(ds:List DV):qy (.map k e) (d::ds) K=K d:=rfl
theorem HQ(e:Nat)(d:DV)(ds:List DV):qy (.ptr e) (d::ds) K=K d:=rfl
theorem NR(fs:List (Nat×Nat×Bool))(n:Nat)(ds:List DV):qy (.st fs n) ds K=(n≤ds.length∧K (.agg (ds.take n))):=rfl
theorem EF(k:TK)(ds:List DV):bE k S (.ip ds) K=qy k ds K:=rfl
theorem O5(e s b s':Nat)(f:Bool)(xs:List DV)(k:IntKind)(z:Int):aK (.sl e s b true) (.sl s' f xs) (.v (.int k z)) K=(s'=s∧0≤z∧z<xs.length∧GX xs z.toNat fun d=>K (.ip (cd d))):=rfl
theorem Fv(len e s nn:Nat)(a:Bool)(ds:List DV)(k:IntKind)(z:Int):aK (.ar len e s a nn) (.ip ds) (.v (.int k z)) K=(0<s∧0≤z∧z<len∧z.toNat*s≤ds.length∧K (.ip (ds.drop (z.toNat*s)))):=rfl
theorem ID(e s b l n:Nat)(k:IntKind)(z:Int):aK (.sl e s b true) (.acc l n) (.v (.int k z)) K=(0≤z∧z<n∧K (.ap l n s z.toNat 0)):=rfl
theorem Na(s:ByteArray)(k:IntKind)(z:Int):jd .str (.v (.string s)) (.v (.int k z)) K=(0≤z∧z<s.size∧∀c,s.data.toList[z.toNat]? =some c→K (.v (.int .u8 c.toNat))):=rfl
theorem KZ(op:BinOp)(t:TK)(cx cy:Bool)(k k':IntKind)(m n:Int):lN op t cx cy (.v (.int k m)) (.v (.int k' n)) K=(sameKind op k k'=true∧nu op k m n K):=rfl
theorem Km(op:BinOp)(t:TK)(cx cy:Bool)(a b:ByteArray):lN op t cx cy (.v (.string a)) (.v (.string b)) K=gO op a b K:=rfl
theorem LJ(cx cy a b:Bool):lN .neq .one cx cy (.v (.bool a)) (.v (.bool b)) K=K (.v (.bool (!(a==b)))):=rfl
theorem Em(e:Nat)(cx cy:Bool):lN .eql (.ptr e) cx cy (.v (.pointer none)) (.v (.pointer none)) K=K (.v (.bool true)):=rfl
theorem FT(e:Nat)(cx cy:Bool):lN .neq (.ptr e) cx cy (.v (.pointer none)) (.v (.pointer none)) K=K (.v (.bool false)):=rfl
theorem Lv(e:Nat)(cx cy:Bool)(a:Addr):lN .eql (.ptr e) cx cy (.v (.pointer (some a))) (.v (.pointer none)) K=K (.v (.bool false)):=by simp[lN,vp]
theorem Ha(e:Nat)(cx cy:Bool)(a:Addr):lN .neq (.ptr e) cx cy (.v (.pointer (some a))) (.v (.pointer none)) K=K (.v (.bool true)):=by simp[lN,vp]
theorem KH(b:Bool):Db .not (.v (.bool b)) K=K (.v (.bool (!b))):=rfl
theorem Jc(k:IntKind)(n:Int):Db .xor (.v (.int k n)) K=K (.v (.int k (cZ .xor k (if k.signed then -1 else k.max) n))):=rfl
theorem LW(k:IntKind)(n:Int):Db .neg (.v (.int k n)) K=K (.v (.int k (k.wrap (0-n)))):=rfl
theorem JE(k0 k k1:IntKind)(n:Int):iY (.int k0) (.int k) (.v (.int k1 n)) K=K (.v (.int k (k.wrap n))):=rfl
theorem IV(a:Addr):notNil (.v (.pointer (some a)))=true:=rfl
theorem Hp(u:Value):lZ S (.v u) K2=K2 (.v u) S:=rfl
theorem Gy(s:Nat)(f:Bool)(xs:List DV):lZ S (.sl s f xs) K2=K2 (.sl s f xs) S:=rfl
theorem As(K3:List DV→St→Prop):me S [] K3=K3 [] S:=rfl
theorem xy(d:DV)(ds:List DV)(K3:List DV→St→Prop):me S (d::ds) K3=lZ S d fun e S=>me S ds fun es S=>K3 (e::es) S:=rfl
theorem OJ(u:Value):shr S (.v u) K2=K2 (.v u) S:=rfl
theorem Kw(s:Nat)(f:Bool)(xs:List DV):shr S (.sl s f xs) K2=K2 (.sl s f xs) S:=rfl
theorem GD(l n:Nat):shr S (.acc l n) K2=lZ S (.acc l n) K2:=rfl
theorem Fg(ds:List DV):shr S (.agg ds) K2=me S ds fun ds S=>K2 (.agg ds) S:=rfl
theorem Bb(K3:List DV→St→Prop):gk S [] K3=K3 [] S:=rfl
theorem yp(d:DV)(ds:List DV)(K3:List DV→St→Prop):gk S (d::ds) K3=shr S d fun e S=>gk S ds fun es S=>K3 (e::es) S:=rfl
theorem KA(u:Value):pM S (.v u) K2=K2 (.v u) S:=rfl
theorem Fh(s:Nat)(f:Bool)(xs:List DV):pM S (.sl s f xs) K2=K2 (.sl s f xs) S:=rfl
theorem BE(l n:Nat):pM S (.acc l n) K2=lZ S (.acc l n) K2:=rfl
theorem Bo(ds:List DV):pM S (.agg ds) K2=me S ds fun ds S=>K2 (.agg ds) S:=rfl
theorem BD(ds:List DV):pM S (.cW ds) K2=gk S ds fun ds S=>K2 (.cW ds) S:=rfl
theorem CW(z:Int)(K4:Int→Prop):mR none z K4=K4 z:=rfl
theorem Cr(k:IntKind)(n z:Int)(K4:Int→Prop):mR (some (.v (.int k n))) z K4=K4 n:=rfl
theorem By(e s b s':Nat)(f:Bool)(xs:List DV)(lo hi mx:Option DV):ib (.sl e s b true) (.sl s' f xs) lo hi mx K=((s'=s∨xs=[])∧mR lo 0 fun l=>mR hi xs.length fun h=>mR mx h fun m=>0≤l∧l≤h∧h≤m∧m≤xs.length∧
 K (.sl s (if mx.isSome then decide (m=h)else(f&&(hi.isNone||xs.isEmpty))) ((xs.take h.toNat).drop l.toNat))):=rfl
theorem Lz(e s b:Nat)(i:Bool)(s':Nat)(f:Bool)(xs:List DV):pA (.sl e s b i) (.sl s' f xs) K=K (.v (.int .i64 xs.length)):=rfl
theorem D8(e s b:Nat)(i:Bool)(l n:Nat):pA (.sl e s b i) (.acc l n) K=K (.v (.int .i64 n)):=rfl
theorem Ep(s:ByteArray):pA .str (.v (.string s)) K=K (.v (.int .i64 s.size)):=rfl
theorem WK(k k':IntKind)(m n:Int):uf (.v (.int k m)) (.v (.int k' n)) K=K (.v (.int k (if n<m then n else m))):=rfl
theorem Xf(k k':IntKind)(m n:Int):tA (.v (.int k m)) (.v (.int k' n)) K=K (.v (.int k (if m<n then n else m))):=rfl
theorem yg(k:TK)(s:Nat)(f:Bool)(xs:List DV)(lo hi mx:Option DV):iG k S (.sl s f xs) lo hi mx K2=ib k (.sl s f xs) lo hi mx (K2 · S):=rfl
theorem xG(k:TK)(l n:Nat)(lo hi mx:Option DV):iG k S (.acc l n) lo hi mx K2=((lo.isNone=true∧mx.isNone=true∧UG n hi∧(∃e s b,k= .sl e s b true)∧u9 S (.acc l n) (Xh hi) K2)∨jq k S (.acc l n) lo hi mx K2):=rfl
theorem Wc(k:IntKind)(m:Nat)(n:Int):UG m (some (.v (.int k n)))=((n==0)=true∨(0≤n∧n≤m)):=rfl
theorem W6(k:IntKind)(n:Int):Xh (some (.v (.int k n)))=n.toNat:=rfl
theorem Pd(m:Nat):UG m none=False:=rfl
theorem Cx(t:Nat):gl (.tmp t)=false:=rfl
theorem AE(k:IntKind)(n:Int):gl (.const (.int k n))=false:=rfl
theorem AG(s:ByteArray):gl (.const (.string s))=false:=rfl
theorem CB(a:Option Addr):gl (.const (.pointer a))=false:=rfl
theorem Cd:gl (.const (.slice none 0 0))=true:=rfl
theorem Bm(e s b s':Nat)(i f:Bool)(xs:List DV):nM .eql (.sl e s b i) (.sl s' f xs) K=∀b:Bool,(xs≠[]→b=false)→K (.v (.bool b)):=rfl
theorem LN(e s b s':Nat)(z:DV)(k:IntKind)(n:Int):lp (.sl e s b true) z S (.sl s' true []) (.v (.int k n)) K2=(eW z=true∧0<n∧n*b≤140737488355328∧n≤9223372036854775807∧∀l,jT S.acc l→K2 (.acc l n.toNat) ⟨S.box,(l,.arr s (List.replicate n.toNat z))::S.acc⟩):=rfl
theorem AU(n:Nat)(u:Value)(y:DV)(K5:St→Prop):eu n S (.v u) y K5=ox n S (.v u) y K5:=rfl
theorem Aj(e s b:Nat)(z:DV)(k k':IntKind)(n m:Int):dX (.sl e s b true) z (.v (.int k n)) (.v (.int k' m)) S K2=(eW z=true∧0≤n∧n≤m∧m*b≤140737488355328∧m≤9223372036854775807∧∀l,jT S.acc l→K2 (.acc l n.toNat) ⟨S.box,(l,.arr s (List.replicate n.toNat z))::S.acc⟩):=rfl
theorem Vq(e s b:Nat)(i:Bool)(s':Nat)(xs:List DV):um (.sl e s b i) (.sl s' true xs) K=K (.v (.int .i64 xs.length)):=rfl
theorem ET(s:Nat)(f:Bool)(xs:List DV)(K6:Nat→List DV→Prop):iw S (.sl s f xs) K6=K6 s xs:=rfl
theorem KS(e s b:Nat)(k2:TK)(x y:DV):kL (.sl e s b true) k2 S x y K2=(uh k2=true∧iw S y fun s2 ys=>(s2=s∨ys=[])∧wm s b S x ys K2):=rfl
theorem Ev(s0 s by':Nat)(ys:List DV):wm s by' S (.sl s0 true []) ys K2=(ys.length*by'≤140737488355328∧ys.length≤maxLen∧∀l,jT S.acc l→K2 (.acc l ys.length) ⟨S.box,(l,.arr s ys)::S.acc⟩):=rfl
theorem TL(f:FuncId)(a cap:Array Value)(ds:List DV):oE P w0 (.v (.func (.func f) a cap)) ds S K2=(cap.toList.all (fun u=>u.oneCell')=true∧Fm a (gX (okF P f) (iz S ds fun ds S=>@AC P w0 f (ds++cap.toList.map .v) S ⟨K2⟩) (@XC P w0 f (ds++cap.toList.map .v) S ⟨K2⟩)) fun us=>okF P f=true∧iz S ds fun ds S=>@AC P w0 f (us.map .v++(ds++cap.toList.map .v)) S ⟨K2⟩):=rfl
theorem D6(A:Prop)(B:List Value→Prop):Fm #[] A B=A:=rfl
theorem EC(u:Value)(A:Prop)(B:List Value→Prop):Fm #[u] A B=(([u]:List Value).all (fun u=>u.oneCell')=true∧B [u]):=rfl
theorem xv:fH []=false:=rfl
theorem wZ(l n:Nat)(ds:List DV):fH (.acc l n::ds)=true:=rfl
theorem Bf(u:Value)(ds:List DV):fH (.v u::ds)=fH ds:=rfl
theorem ze(s:Nat)(f:Bool)(xs ds:List DV):fH (.sl s f xs::ds)=fH ds:=rfl
theorem xf(xs ds:List DV):fH (.agg xs::ds)=fH ds:=rfl
theorem EL(fr:List DV)(t:Nat):rk P fr S K (.tmp t)=K (fr.getD t ud):=rfl
theorem B3(fr:List DV)(a t:Nat):rk P fr S K (.cell a t)=bE (tk P t) S (fr.getD a ud) K:=rfl
theorem BG(fr:List DV)(r:ResultVar):mV P fr S [r] K=rk P fr S K r:=rfl
theorem Bg(fr:List DV):mV P fr S [] K=K (.cW []):=rfl
theorem A9(fr:List DV)(r r':ResultVar)(rs:List ResultVar):mV P fr S (r::r'::rs) K=sW P fr S (r::r'::rs) fun ds=>K (.cW ds):=rfl
end
theorem vB{α:Type}(a:α)(F:α→Prop):oK (some a) F=F a:=rfl
def bK:Option Ob→(Nat→List DV→Prop)→(Nat→List DV→Prop)→Prop
 |some (.arr s xs),F,_=>F s xs
 |some (.tl s xs),_,G=>G s xs
 |_,_,_=>False
theorem Ig(s:Nat)(xs:List DV)(F G:Nat→List DV→Prop):bK (some (.arr s xs)) F G=F s xs:=rfl
theorem NG(s:Nat)(xs:List DV)(F G:Nat→List DV→Prop):bK (some (.tl s xs)) F G=G s xs:=rfl
def Tf(p:Option (Nat×Nat×Bool))(x:DV)(K:DV→Prop):Prop:=match p with
 |some (off,sz,_)=>sz≠0∧(match x with
  | .v (.pointer (some ⟨b,o,none⟩))=>K (.v (.pointer (some ⟨b,o+off,none⟩)))
  | .ip ds=>off≤ds.length∧K (.ip (ds.drop off))
  | .ap l n s i o=>K (.ap l n s i (o+off))
  |_=>False)
 |none=>False
def fvK(p:Option (Nat×Nat×Bool))(ds:List DV)(K:DV→Prop):Prop:=match p with
 |some (off,sz,true)=>off+sz≤ds.length∧K (.agg ((ds.drop off).take sz))
 |some (off,sz,false)=>off+sz≤ds.length∧oK (ds[off]?) K
 |none=>False
def gD(t:Nat)(d:DV)(fr:List DV)(want:Bool)(A B:List DV→Prop):Prop:=match d with
 | .v (.bool b)=>(b=want→A (fr.set t (.v (.bool want))))∧(b=!want→B (fr.set t (.v (.bool !want))))
 | .cW []=>B fr
 |_=>False
def gK(t:Option Tmp)(fr:List DV)(want:Bool)(A B:List DV→Prop):Prop:=match t with
 |none=>B fr
 |some t=>gD t (fr.getD t ud) fr want A B
def VQ(k:TK)(z:DV)(parts:List (Nat×DV))(K:DV→Prop):Prop:=match k,z with
 | .st fs _,.agg zs=>oK (kj fs zs parts) fun ds=>K (.agg ds)
 |_,_=>False
section
variable {P:Program} {w0:W0} (K:DV→Prop) (K2:DV→St→Prop) (S:St)
theorem Cc(k:TK)(b o:Nat):bE k S (.v (.pointer (some ⟨b,o,none⟩))) K=oK (lk S.box b) fun ds=>qy k (ds.drop o) K:=by
 cases h:lk S.box b <;>simp[bE,oK,h]
theorem FQ(k:TK)(l n s i o:Nat):bE k S (.ap l n s i o) K=bK (lk S.acc l) (fun s' xs=>xs.length=n∧s'=s∧Ov xs i fun d=>qy k ((cd d).drop o) K) (fun s' xs=>xs.length=n∧s'=s∧Ov xs i fun d=>qy k ((cd d).drop o) K):=by
 cases h:lk S.acc l with
 |none=>simp[bE,bK,h]
 |some o=>cases o <;>simp[bE,bK,h,Ov]
theorem Bx(s:Nat)(f:Bool)(xs:List DV):vE (.sl s f xs)=false:=rfl
theorem zh(l n:Nat):vE (.acc l n)=false:=rfl
theorem JZ(kt et l:Nat)(z:DV):mA (.map kt et) z S (.mp l) K2=xK (lk S.acc l) fun kk es clk=>K2 ud ⟨S.box,up S.acc l (.xo (.mp kk [] clk))⟩:=by
 unfold mA;simp only[xK]
 try rfl
theorem OV(fs:List (Nat×Nat×Bool))(n f:Nat)(x:DV):gC (.st fs n) f x K=Tf (fs[f]?) x K:=by
 cases h:fs[f]? <;>simp only[gC,Tf,h] <;>cases x <;>rfl
theorem IY(off sz b o:Nat)(ag:Bool):Tf (some (off,sz,ag)) (.v (.pointer (some ⟨b,o,none⟩))) K=(sz≠0∧K (.v (.pointer (some ⟨b,o+off,none⟩)))):=rfl
theorem Mv(off sz:Nat)(ag:Bool)(ds:List DV):Tf (some (off,sz,ag)) (.ip ds) K=(sz≠0∧off≤ds.length∧K (.ip (ds.drop off))):=rfl
theorem O0(off sz l m s i o:Nat)(ag:Bool):Tf (some (off,sz,ag)) (.ap l m s i o) K=(sz≠0∧K (.ap l m s i (o+off))):=rfl
theorem Ga(i:Nat)(ds:List DV):dc i (.cW ds) K=oK (ds[i]?) K:=by
 cases h:ds[i]? <;>simp[dc,oK,h]
theorem Bc(l n:Nat):lZ S (.acc l n) K2=bK (lk S.acc l) (fun s xs=>xs.length=n∧K2 (.sl s false xs) ⟨S.box,up S.acc l (.tl s xs)⟩) (fun s xs=>xs.length=n∧K2 (.sl s false xs) S):=by
 cases h:lk S.acc l with
 |none=>simp[lZ,bK,h]
 |some o=>cases o <;>simp[lZ,bK,h]
theorem Mp(n b o:Nat)(y:DV)(K5:St→Prop):ox n S (.v (.pointer (some ⟨b,o,none⟩))) y K5=(eW y=true∧(cd y).length=n∧oK (lk S.box b) fun ds=>o+n≤ds.length∧K5 ⟨up S.box b (gn ds o (cd y)),S.acc⟩):=by
 cases h:lk S.box b <;>simp[ox,oK,h]
theorem Ar(n l m s i o:Nat)(y:DV)(K5:St→Prop):eu n S (.ap l m s i o) y K5=(eW y=true∧(cd y).length=n∧bK (lk S.acc l) (fun s' xs=>s'=s∧xs.length=m∧o+n≤s∧Ov xs i fun d=>oK (uc d o n s y) fun d'=>K5 ⟨S.box,up S.acc l (.arr s (xs.set i d'))⟩) (fun _ _=>False)):=by
 cases h:lk S.acc l with
 |none=>simp[eu,bK,h]
 |some o=>cases o with
  |tl s' xs=>simp[eu,bK,h]
  |xo f=>simp[eu,bK,h]
  |sb T e bs pin=>simp[eu,bK,h]
  |arr s' xs=>
   simp only[eu,bK,h,Ov];refine propext (and_congr adr (and_congr adr (and_congr adr (and_congr adr (and_congr adr (exists_congr fun d=>and_congr adr (and_congr adr ?_)))))))
   cases uc d o n s y with
   |none=>simp[oK]
   |some x=>simp[oK]
theorem A0(l n:Nat)(K6:Nat→List DV→Prop):iw S (.acc l n) K6=bK (lk S.acc l) (fun s xs=>xs.length=n∧K6 s xs) (fun s xs=>xs.length=n∧K6 s xs):=by
 cases h:lk S.acc l with
 |none=>simp[iw,bK,h]
 |some o=>cases o <;>simp[iw,bK,h]
theorem Ed(l n s by':Nat)(ys:List DV):wm s by' S (.acc l n) ys K2=bK (lk S.acc l)
 (fun s' xs=>s'=s∧xs.length=n∧(xs.length+ys.length)*by'≤140737488355328∧xs.length+ys.length≤maxLen∧K2 (.acc l (xs++ys).length) ⟨S.box,up S.acc l (.arr s (xs++ys))⟩)
 (fun s' xs=>s'=s∧xs.length=n∧(xs.length+ys.length)*by'≤140737488355328∧xs.length+ys.length≤maxLen∧K2 (.acc l (xs++ys).length) ⟨S.box,up S.acc l (.tl s (xs++ys))⟩):=by
 cases h:lk S.acc l with
 |none=>simp[wm,bK,h]
 |some o=>cases o <;>simp[wm,bK,h]
theorem rU(ops:Array Oper)(fr:List DV)(j:Nat)(want:Bool)(A B:List DV→Prop):bP ops fr (some (j,want)) A B=gK ((ops[j]?).bind (·.dst)) fr want A B:=by
 cases h:(ops[j]?).bind (·.dst) <;>simp only[bP,gK,h] <;>rfl
theorem GV(t:Nat)(fr:List DV)(want:Bool)(A B:List DV→Prop):gK (some t) fr want A B=gD t (fr.getD t ud) fr want A B:=rfl
theorem Pa(t:Nat)(fr:List DV)(want:Bool)(A B:List DV→Prop):gD t ud fr want A B=B fr:=rfl
theorem SH(fn:Fn)(a b:List DV):mn fn a b K=oK (cU a) fun us=>oK (cU b) fun vs=>K (.v (.func fn us.toArray vs.toArray)):=by
 cases h:cU a <;>cases h':cU b <;>simp[mn,oK,h,h']
theorem NZ(t:TypeId)(parts:List (Nat×DV)):eS P t parts K=VQ (tk P t) (zD P t) parts K:=by
 cases h:tk P t <;>cases h':zD P t <;>simp only[eS,VQ,h,h'] <;>(rename_i fs _ zs;cases h2:kj fs zs parts <;>simp[oK])
theorem Zf(fs:List (Nat×Nat×Bool))(n:Nat)(zs:List DV)(parts:List (Nat×DV)):VQ (.st fs n) (.agg zs) parts K=oK (kj fs zs parts) fun ds=>K (.agg ds):=rfl
theorem Vy(e s b len:Nat)(z:DV)(parts:List (Nat×DV)):aW (.sl e s b true) z len parts K=(eW z=true∧(cd z).length=s∧len*s≤16777216∧oK (nk s (List.replicate len z) parts) fun xs=>K (.sl s true xs)):=by
 cases h:nk s (List.replicate len z) parts <;>simp[aW,oK,h]
end
end Aml
namespace Aml
open Go Go.RowKit
def QY(P:Program)(w0:W0)(S:St)(o:Oper)(fr:List DV)(d:DV):Prop:=ak P w0 o (ev fr) S fun d' S'=>d'=d∧S'=S
def cQ(ops:Array Oper)(fr:List DV)(gd:Option (Nat×Bool)):Option Bool:=match gd with
 |none=>some true
 |some (j,want)=>match(ops[j]?).bind (·.dst)with
  |none=>some false
  |some t=>match fr.getD t ud with
   | .v (.bool b)=>some (b==want)
   | .cW []=>some false
   |_=>none
def LQ(P:Program)(w0:W0)(S:St)(ops:Array Oper)(K:List DV→Prop):List Oper→List DV→Prop
 |[],fr=>K fr
 |o::rest,fr=>bP ops fr o.guard (fun fr=>∃d,QY P w0 S o fr d∧LQ P w0 S ops K rest (pt fr o.dst d)) (fun fr=>LQ P w0 S ops K rest (pt fr o.dst ud))
def qOp(P:Program)(w0:W0)(S:St)(ops:Array Oper)(i:Nat)(K:List DV→Prop)(fr:List DV):Prop:=
 match ops[i]? with
 |none=>K fr
 |some o=>(cQ ops fr o.guard=some true∧∃d,QY P w0 S o fr d∧K (pt fr o.dst d))∨(cQ ops fr o.guard=some false∧K (pt fr o.dst ud))
def pJ(P:Program)(w0:W0)(S:St)(md:Region.Mode)(ops:Array Oper)(K:List DV→Prop):Nat→Array Bool→List DV→Prop
 |0,listed,fr=>Region.ready md ops listed=[]∧K fr
 |fuel+1,listed,fr=>(Region.ready md ops listed=[]→K fr)∧∀i∈Region.ready md ops listed,qOp P w0 S ops i (pJ P w0 S md ops K fuel (listed.setIfInBounds i true)) fr
def YD(P:Program)(w0:W0)(S:St)(ops:Array Oper)(o:Oper)(d:DV)(fr:List DV):Prop:=
 (cQ ops fr o.guard=some true∧QY P w0 S o fr d)∨(cQ ops fr o.guard=some false∧d=ud)
section
variable {P:Program} {w0:W0} {S:St} {ops:Array Oper} {md:Region.Mode}
theorem zP{fr:List DV}{t:Nat}{d:DV}(h:fr.getD t ud=d)(hd:d≠ud):fr.set t d=fr:=by
 rcases abz t fr.length with hl|hl
 ·rw[abj,aac hl,acL]at h;rw[←h,List.set_getElem_self]
 ·rw[abj,aaS hl]at h;exact absurd h.symm hd
theorem jw{fr:List DV}{gd:Option (Nat×Bool)}{A B:List DV→Prop}(h:bP ops fr gd A B):(cQ ops fr gd=some true∧A fr)∨(cQ ops fr gd=some false∧B fr):=by
 unfold bP at h;unfold cQ;split at h
 ·exact .inl ⟨rfl,h⟩
 ·rename_i j want;split at h
  ·rename_i hj;exact .inr ⟨by simp only[hj],h⟩
  ·rename_i t hj;simp only[hj];split at h
   ·rename_i b hb;rw[hb];by_cases hw:b=want
    ·have:=h.1 hw;rw[←hw,zP hb (by simp[ud])]at this;exact .inl ⟨by simp[hw],this⟩
    ·have hw':b=!want:=by cases b <;>cases want <;>simp_all
     have:=h.2 hw';rw[←hw',zP hb (by simp[ud])]at this;exact .inr ⟨by simp[hw],this⟩
   ·rename_i hb;rw[hb];exact .inr ⟨rfl,h⟩
   ·exact h.elim
theorem BN{fr:List DV}{gd:Option (Nat×Bool)}{x:Bool}(h:cQ ops fr gd=some x):bP ops fr gd (fun _=>x=true) (fun _=>x=false):=by
 unfold cQ at h;unfold bP;split at h
 ·simpa using h.symm
 ·rename_i j want;split at h
  ·rename_i hj;simp only[hj];simpa using h.symm
  ·rename_i t hj;simp only[hj];split at h
   ·rename_i b hb;rw[hb];simp only[abg]at h;exact⟨fun e=>by simp[←h,e],fun e=>by simp[←h,e]⟩
   ·rename_i hb;rw[hb];simpa using h.symm
   ·cases h
theorem cq{g:Gh}{fr:List DV}{a:Act}{o:Oper}{x:Bool}(hr:af g fr a.tmps.toList)(h:cQ ops fr o.guard=some x):Region.wanted o (yielded ops a.tmps)=x:=by
 rcases ju (o:=o) hr (BN h)with⟨h1,_,_,h2⟩|⟨h1,_,_,h2⟩
 ·rw[h1,h2]
 ·rw[h1,h2]
theorem qOp_mono{i:Nat}{fr:List DV}{K K':List DV→Prop}(h:∀fr,K fr→K' fr)(hh:qOp P w0 S ops i K fr):qOp P w0 S ops i K' fr:=by
 unfold qOp at*;split
 ·rename_i ho;simp only[ho]at hh;exact h _ hh
 ·rename_i o ho;simp only[ho]at hh;rcases hh with⟨h1,d,h2,h3⟩|⟨h1,h2⟩
  ·exact .inl ⟨h1,d,h2,h _ h3⟩
  ·exact .inr ⟨h1,h _ h2⟩
theorem YD.qOp{i:Nat}{o:Oper}{d:DV}{fr:List DV}(hi:ops[i]? =some o)(hy:YD P w0 S ops o d fr){K:List DV→Prop}(h:K (pt fr o.dst d)):qOp P w0 S ops i K fr:=by
 unfold Aml.qOp;simp only[hi];rcases hy with⟨h1,h2⟩|⟨h1,rfl⟩
 ·exact .inl ⟨h1,d,h2,h⟩
 ·exact .inr ⟨h1,h⟩
theorem GC{i:Nat}{o:Oper}{fr:List DV}{K:List DV→Prop}(hi:ops[i]? =some o)(h:qOp P w0 S ops i K fr):∃d,YD P w0 S ops o d fr∧K (pt fr o.dst d):=by
 unfold qOp at h;simp only[hi]at h;rcases h with⟨h1,d,h2,h3⟩|⟨h1,h2⟩
 ·exact⟨d,.inl ⟨h1,h2⟩,h3⟩
 ·exact⟨ud,.inr ⟨h1,rfl⟩,h2⟩
theorem aL{o:Oper}{ρD ρD':Operand→DV}{K:DV→St→Prop}(h:∀x,x∈o.op.operands.toList→ρD x=ρD' x)(hy:ak P w0 o ρD S K):ak P w0 o ρD' S K:=
 fun g w ρ h1 h2 h3=>hy g w ρ h1 (fun x hx=>by rw[h x hx];exact h2 x hx) h3
theorem yb{fr:List DV}{t t':Nat}{d:DV}(h:t≠t'):(fr.set t d).getD t' ud=fr.getD t' ud:=by
 simp only[abj,adC,if_neg h]
theorem ec{fr:List DV}{dst:Option Tmp}{d:DV}{o:Oper}(h:∀t,dst=some t→t∉o.looksAt ops):∀x,x∈o.op.operands.toList→ev (pt fr dst d) x=ev fr x:=by
 intro x hx
 cases dst with
 |none=>rfl
 |some t=>
  cases x with
  |tmp t'=>
   have:t≠t':=by
    rintro rfl;exact h t rfl (acp _ (List.mem_filterMap.2 ⟨.tmp t,hx,rfl⟩))
   exact yb this
  |_=>rfl
theorem gQ{fr:List DV}{dst:Option Tmp}{d:DV}{o:Oper}(h:∀t,dst=some t→t∉o.looksAt ops):cQ ops (pt fr dst d) o.guard=cQ ops fr o.guard:=by
 cases dst with
 |none=>rfl
 |some t=>
  unfold cQ
  cases hg:o.guard with
  |none=>rfl
  |some gw=>
   obtain⟨j,want⟩:=gw;simp only
   cases ht:(ops[j]?).bind (·.dst)with
   |none=>rfl
   |some t'=>
    have hne:t≠t':=fun e=>h t rfl (by subst e;simp[Oper.looksAt,hg,ht]);simp only[pt];rw[yb hne]
theorem jl(fr:List DV){x y:Option Tmp}(d e:DV)(h:∀t,x=some t→y≠some t):pt (pt fr x d) y e=pt (pt fr y e) x d:=by
 cases x with
 |none=>rfl
 |some t=>
  cases y with
  |none=>rfl
  |some u=>
   have hne:t≠u:=fun he=>h t rfl (he▸rfl);simp only[pt];exact List.set_comm _ _ hne
theorem YD.put{o:Oper}{d:DV}{fr:List DV}(hy:YD P w0 S ops o d fr){dst:Option Tmp}{e:DV}(h:∀t,dst=some t→t∉o.looksAt ops):YD P w0 S ops o d (pt fr dst e):=by
 unfold YD at*;rw[gQ h];exact hy.imp (fun⟨a,b⟩=>⟨a,aL (fun x hx=>(ec (ops:=ops) h x hx).symm) b⟩) id
theorem qOp_put{j:Nat}{oi oj:Oper}{d:DV}(hj:ops[j]? =some oj)(hap:oi.apart ops oj=true){K:List DV→Prop}{fr:List DV}(hy:YD P w0 S ops oi d fr)(h:qOp P w0 S ops j K (pt fr oi.dst d)):
 qOp P w0 S ops j (fun fr'=>YD P w0 S ops oi d fr'∧K (pt fr' oi.dst d)) fr:=by
 obtain⟨h1,h2,h3⟩:=Oper.apart_spec hap;unfold Aml.qOp at*;simp only[hj]at*;rw[gQ h1]at h;rcases h with⟨hw,e,hq,hk⟩|⟨hw,hk⟩
 ·exact .inl ⟨hw,e,aL (fun x hx=>ec (ops:=ops) h1 x hx) hq,hy.put h3,by rw[←jl fr d e h2];exact hk⟩
 ·exact .inr ⟨hw,hy.put h3,by rw[←jl fr d ud h2];exact hk⟩
theorem xk{K:List DV→Prop}{i:Nat}{oi:Oper}{d:DV}(hi:ops[i]? =some oi):
 ∀(fuel:Nat) (listed:Array Bool) (fr:List DV),
  (∀j oj,ops[j]? =some oj→j≠i→listed.getD j true=false→(∀e∈oj.after,Region.binds md e=true→e.on≠i)→oi.apart ops oj=true)→
  i∈Region.ready md ops listed→YD P w0 S ops oi d fr→
  pJ P w0 S md ops K fuel (listed.setIfInBounds i true) (pt fr oi.dst d)→pJ P w0 S md ops K (fuel+1) listed fr:=by
 intro fuel
 induction fuel with
 |zero=>
  intro listed fr _ hr hy H;refine⟨fun h=>(by rw[h]at hr;cases hr),fun j hj=>?_⟩;by_cases hji:j=i
  ·subst hji;exact hy.qOp hi H
  ·have:=ready_mono hj hji;rw[H.1]at this;cases this
 |succ fuel ih=>
  intro listed fr hfree hr hy H;refine⟨fun h=>(by rw[h]at hr;cases hr),fun j hj=>?_⟩;by_cases hji:j=i
  ·subst hji;exact hy.qOp hi H
  ·have h1:=H.2 j (ready_mono hj hji);obtain⟨hjun,oj,hoj,hall⟩:=mem_ready.1 hj
   have hnot:∀e∈oj.after,Region.binds md e=true→e.on≠i:=fun e he hb heq=>by
    have h1:=hall e he hb;have h0:=(mem_ready.1 hr).1;rw[heq]at h1;rcases abz i listed.size with h'|h'
    ·simp[h']at h0 h1;rw[h0]at h1;cases h1
    ·simp[abG h']at h1
   have h2:=qOp_put hoj (hfree j oj hoj hji hjun hnot) hy h1
   have hfree':∀k ok,ops[k]? =some ok→k≠i→(listed.setIfInBounds j true).getD k true=false→
    (∀e∈ok.after,Region.binds md e=true→e.on≠i)→oi.apart ops ok=true:=fun k ok hk hki hun hno=>by
    refine hfree k ok hk hki ?_ hno;by_cases hjk:j=k
    ·subst hjk;exact hjun
    ·rw[getD_set_ne true hjk]at hun;exact hun
   refine qOp_mono (fun fr' h3=>ih (listed.setIfInBounds j true) fr' hfree' (ready_mono hr (abx hji)) h3.1 ?_) h2;rw[adI _ _ hji];exact h3.2
theorem uv{K:List DV→Prop}:∀(l:List Oper) (k:Nat) (listed:Array Bool) (fr:List DV),(∀j,l[j]? =ops[k+j]?)→
 Region.lexFrom md ops l.length k listed=true→LQ P w0 S ops K l fr→pJ P w0 S md ops K l.length listed fr
 |[],_,_,_,_,hB,h=>⟨by simpa[Region.lexFrom]using hB,h⟩
 |o::l,k,listed,fr,hl,hB,h=>by
  have h0:ops[k]? =some o:=by simpa using(hl 0).symm
  simp only[aaW,Region.lexFrom,aak]at hB;obtain⟨⟨hr,hf⟩,hB'⟩:=hB
  have hst:qOp P w0 S ops k (LQ P w0 S ops K l) fr:=by
   unfold qOp;simp only[h0];exact jw h
  obtain⟨d,hy,hK⟩:=GC h0 hst
  exact xk h0 l.length listed fr (Region.free_spec h0 hf) (by simpa using hr) hy
   (uv l (k+1) _ _ (fun j=>by have:=hl (j+1);simpa[acw,ac2 1 j]using this) hB' hK)
end
end Aml
