/-
  Part 5 of the proof that the last text ends: from 'Statements whose order is open, once more: what reads no store may come at any time, and so may what makes a box that nothing ahead looks at' to 'A row of bytes that is written out, and turned to its own type: the run-time marks it'. By an AI agent.
-/
import Derived.Test.YtiihljlagmmljaaGreatDoorMC4
import Derived.Lib.Bytealg
import Derived.Lib.Overlaps
import Derived.Lib.SlBytesConst
set_option linter.unusedVariables false
set_option linter.unusedSimpArgs false
set_option maxRecDepth 100000
set_option maxHeartbeats 16000000
namespace Aml
open Go Go.RowKit
def kX:Op→Nat
 | .load ..=>1
 | .alloc _=>2
 | .call c=>match c.callee with
  | .value _=>1
  | .builtin .len=>0
  | .builtin .cap=>0
  | .builtin .min=>0
  | .builtin .max=>0
  |_=>3
 | .move _=>0
 | .assign _=>0
 | .pick ..=>0
 | .fieldAddr ..=>0
 | .indexAddr ..=>0
 | .index ..=>0
 | .field ..=>0
 | .extract ..=>0
 | .nilCheck _=>0
 | .binOp ..=>0
 | .unOp ..=>0
 | .convert ..=>0
 | .makeInterface ..=>0
 | .makeFunc ..=>0
 | .slice ..=>0
 | .build ..=>0
 | .buildSlice ..=>0
 |_=>3
def Fr(S:St)(B:List (Nat×List DV)):Prop:=∀x,x∈B→gx S.box x.1
def EP(P:Program)(w0:W0)(o:Oper)(fr:List DV)(S:St)(K:List DV→St→Prop):Prop:=
 (kX o.op=0∧∃d,(∀S',QY P w0 S' o fr d)∧K (pt fr o.dst d) S)∨
 (kX o.op=1∧∃d,(∀B,Fr S B→QY P w0 ⟨B++S.box,S.acc⟩ o fr d)∧K (pt fr o.dst d) S)∨
 (kX o.op=2∧∃t,o.op= .alloc t∧dA (zD P t)=true∧∀b,gx S.box b→K (pt fr o.dst (.v (.pointer (some ⟨b,0,none⟩)))) ⟨(b,cd (zD P t))::S.box,S.acc⟩)∨
 (kX o.op=3∧ae P w0 o (ev fr) S fun d S'=>K (pt fr o.dst d) S')
def Lx(P:Program)(w0:W0)(ops:Array Oper)(o:Oper)(fr:List DV)(S:St)(K:List DV→St→Prop):Prop:=
 (cC ops fr o.guard=some true∧EP P w0 o fr S K)∨(cC ops fr o.guard=some false∧K (pt fr o.dst ud) S)
def Cy(a b:Nat):Bool:=a==0||(a==1&&decide (b<3))
section
variable {P:Program} {w0:W0} {ops:Array Oper} {md:Region.Mode}
def qy(P:Program)(w0:W0)(ops:Array Oper)(i:Nat)(fr:List DV)(S:St)(K:List DV→St→Prop):Prop:=match ops[i]? with
 |none=>K fr S
 |some o=>Lx P w0 ops o fr S K
theorem pQ{op:Op}(hk:kX op=0){fr:List DV}{S:St}{K:DV→Prop}(h:aX P w0 op fr S K):∃d,(∀S',aX P w0 op fr S' (·=d))∧K d:=by
 cases op with
 |move x=>exact⟨_,fun _=>rfl,h⟩
 |assign x=>exact⟨_,fun _=>rfl,h⟩
 |pick c a b=>obtain⟨d,q1,q2⟩:=pZ h;exact⟨d,fun _=>q1,q2⟩
 |fieldAddr t x f=>obtain⟨d,q1,q2⟩:=lU h;exact⟨d,fun _=>q1,q2⟩
 |indexAddr t x i=>obtain⟨d,q1,q2⟩:=zU h;exact⟨d,fun _=>q1,q2⟩
 |index t x i=>obtain⟨d,q1,q2⟩:=mo h;exact⟨d,fun _=>q1,q2⟩
 |field t x f=>obtain⟨d,q1,q2⟩:=j7 h;exact⟨d,fun _=>q1,q2⟩
 |extract x i=>obtain⟨d,q1,q2⟩:=iM h;exact⟨d,fun _=>q1,q2⟩
 |nilCheck x=>exact⟨_,fun _=>⟨h.1,rfl⟩,h.2⟩
 |binOp b t x y t'=>obtain⟨d,q1,q2⟩:=pz h.2;exact⟨d,fun _=>⟨h.1,q1⟩,q2⟩
 |unOp b t x=>obtain⟨d,q1,q2⟩:=xv h;exact⟨d,fun _=>q1,q2⟩
 |convert s d x=>obtain⟨d,q1,q2⟩:=oz h;exact⟨d,fun _=>q1,q2⟩
 |makeInterface t x=>exact⟨_,fun _=>⟨h.1,h.2.1,rfl⟩,h.2.2⟩
 |makeFunc fn a b=>obtain⟨d,q1,q2⟩:=ph h;exact⟨d,fun _=>q1,q2⟩
 |slice t x lo hi mx=>obtain⟨d,q1,q2⟩:=lX h.2.2;exact⟨d,fun _=>⟨h.1,h.2.1,q1⟩,q2⟩
 |build t parts=>obtain⟨d,q1,q2⟩:=lY h.2;exact⟨d,fun _=>⟨h.1,q1⟩,q2⟩
 |buildSlice t len parts=>obtain⟨d,q1,q2⟩:=fE h.2;exact⟨d,fun _=>⟨h.1,q1⟩,q2⟩
 |call c=>
  obtain⟨callee,args,ts⟩:=c;simp only[aX]at h ⊢;split at h
  ·split at h
   ·obtain⟨d,q1,q2⟩:=sj h;exact⟨d,fun _=>by simpa using q1,q2⟩
   ·exact h.elim
  ·split at h
   ·obtain⟨d,q1,q2⟩:=s9 h;exact⟨d,fun _=>by simpa using q1,q2⟩
   ·exact h.elim
  ·split at h
   ·obtain⟨d,q1,q2⟩:=sc h;exact⟨d,fun _=>by simpa using q1,q2⟩
   ·exact h.elim
  ·split at h
   ·obtain⟨d,q1,q2⟩:=sN h;exact⟨d,fun _=>by simpa using q1,q2⟩
   ·exact h.elim
  ·cases hk
  ·cases hk
  ·exact h.elim
 |_=>first|exact h.elim|cases hk
end
def QX(P:Program)(w0:W0)(f:FuncId)(ds:List DV)(S:St)[K:Cn (DV→Prop)]:Prop:=∃d,(∀B,Fr S B→ab P w0 f ds ⟨B++S.box,S.acc⟩ fun d' S'=>d'=d∧S'=⟨B++S.box,S.acc⟩)∧K.k d
def nI(P:Program)(w0:W0)(cal:DV)(ds:List DV)(S:St)(K:DV→Prop):Prop:=match cal with
 | .v (.func (.func f) a cap)=>a.size=0∧okF P f=true∧cap.toList.all (fun u=>u.oneCell')=true∧ds.all eG=true∧@QX P w0 f (ds++cap.toList.map .v) S ⟨K⟩
 |_=>False
section
variable {P:Program} {w0:W0} {ops:Array Oper} {md:Region.Mode}
end
end Aml
namespace Aml
open Go Go.RowKit
section
variable {P:Program} {w0:W0} {ops:Array Oper} {fr:List DV} {S:St} {rest:List Oper} {dst:Option Tmp} {op:Op} {ty:TypeId} {pos:String} {aft:Array Edge}
section
variable {K:List DV→St→Prop}
end
variable {K:DV→St→Prop}
@[congr] theorem D7 {cal cal':DV} {ds ds':List DV} {S':St} {K:DV→Prop} (h1:cal=cal') (h2:ds=ds') (h3:S=S'):nI P w0 cal ds S K=nI P w0 cal' ds' S' K:=by cases h1;cases h2;cases h3;rfl
end
end Aml
namespace Aml
open Go Go.RowKit
structure Has(X T:St):Prop where
 box:∀b x,lk X.box b=some x→lk T.box b=some x
 acc:∀l o,lk X.acc l=some o→lk T.acc l=some o
structure Kp(X T T':St):Prop where
 box:∀b x,lk X.box b=none→lk T.box b=some x→lk T'.box b=some x
 acc:∀l o,lk X.acc l=none→lk T.acc l=some o→lk T'.acc l=some o
theorem Has.refl(X:St):Has X X:=⟨fun _ _ h=>h,fun _ _ h=>h⟩
theorem Kp.refl(X T:St):Kp X T T:=⟨fun _ _ _ h=>h,fun _ _ _ h=>h⟩
theorem dy{α:Type}{l:List (Nat×α)}(hn:(l.map (·.1)).Nodup){n:Nat}{x:α}(h:(n,x)∈l):lk l n=some x:=by
 induction l with
 |nil=>cases h
 |cons p t ih=>
  obtain⟨k,y⟩:=p;simp only[Rz,R0]at hn;simp only[lk];rcases Rv.1 h with e|h
  ·cases e;simp
  ·have:k≠n:=by rintro rfl;exact hn.1 (Sl (f:=(·.1)) h)
   rw[if_neg this];exact ih hn.2 h
def kL:List Tmp→List DV→List DV→List DV
 |p::ps,d::ds,fr=>kL ps ds (fr.set p d)
 |_,_,fr=>fr
section
variable {P:Program} {w0:W0}
theorem Rel.has{g:Gh}{S T:St}{w:World}(h:Rel w0 g T w)(hs:Has S T)(nb:(S.box.map (·.1)).Nodup)(na:(S.acc.map (·.1)).Nodup):Rel w0 g S w:=by
 obtain⟨ow,o1,o2⟩:=h.own;exact⟨h.below,h.aO,nb,na,h.df,h.fresh,fun l o hl=>h.top l o (bd (hs.acc _ _ (dy na hl))),ow,fun b ds hb=>o1 b ds (bd (hs.box _ _ (dy nb hb))),fun l o hl=>o2 l o (bd (hs.acc _ _ (dy na hl)))⟩
theorem nQ{g:Gh}:∀(ps:List Tmp) (ds:List DV) (vs:List Value) {fr:List DV} {us:Array Value},aa g fr us.toList→aa g ds vs→
 aa g (kL ps ds fr) (((ps.zip vs).foldl (fun t (p,v)=>t.setIfInBounds p v) us).toList)
 |[],ds,vs,fr,us,h,_=>by simpa[kL]using h
 |p::ps,ds,vs,fr,us,h,r=>by
  cases ds with
  |nil=>have:=r.len;simp at this;obtain rfl:vs=[]:=Rs this.symm;simpa[kL]using h
  |cons d ds=>
   obtain⟨v,vs',rfl,hd,hr⟩:=r.ba;simp only[kL,List.zip_cons_cons,SP];exact nQ ps ds vs' (by simpa using h.set p hd) hr
def W0.np(w0:W0):W0:=⟨w0.w,w0.gh,fun _ _=>False⟩
theorem nP{ss:List Nat}{fr:List DV}{S:St}{Q:Exit→List DV→St→Prop}(f:Operand)(ps:Array Tmp)(a b:Code):vw P w0 ss (.rangeFunc f ps a b) fr S Q= @AL P w0 fr S ⟨((.rangeFunc f ps a b),Q)⟩:=rfl
@[congr] theorem Qy {l:Nat} {ds ds':List DV} {S S':St} [K:Cn (DV→St→Prop)] (h1:ds=ds') (h2:S=S'):YC P w0 l ds S=YC P w0 l ds' S':=by cases h1;cases h2;rfl
theorem pO{α:Type}(l:List (Nat×α))(b:Nat)(v:α):lk (up l b v) b=(lk l b).map fun _=>v:=by
 induction l with
 |nil=>rfl
 |cons p t ih=>obtain⟨k,x⟩:=p;simp only[up,lk];split <;>simp_all [lk]
theorem jd{α:Type}{b c:Nat}(h:¬b=c)(l:List (Nat×α))(v:α):lk (up l b v) c=lk l c:=by
 induction l with
 |nil=>rfl
 |cons p t ih=>
  obtain⟨k,x⟩:=p;simp only[up];split
  ·rename_i e;subst e;simp[lk,h]
  ·simp only[lk,ih]
theorem NF{α:Type}(l:List (Nat×α))(b:Nat)(v v':α):up (up l b v) b v'=up l b v':=by
 induction l with
 |nil=>rfl
 |cons p t ih=>obtain⟨k,x⟩:=p;simp only[up];split <;>simp_all [up]
theorem Has.oL{X T:St}(h:Has X T)(b:FN T.box)(ds:List DV){A:List (Nat×Ob)}(hA:A=T.acc):Has X ⟨(b.n,ds)::T.box,A⟩:=⟨fun c x hc=>by
 have:=h.box c x hc;simp only[lk];rw[if_neg (fun e=>by rw[←e,mH b]at this;cases this)];exact this,fun l o hl=>by rw[hA];exact h.acc l o hl⟩
theorem Has.up{b:Nat}{x v:List DV}{R:List (Nat×List DV)}{A:List (Nat×Ob)}{T:St}(h:Has ⟨(b,x)::R,A⟩ T):Has ⟨(b,v)::R,A⟩ ⟨up T.box b v,T.acc⟩:=⟨fun c y hc=>by
 have hb:=h.box b x (by simp[lk]);simp only[lk]at hc;split at hc
 ·rename_i e;subst e;cases hc;rw[pO,hb];rfl
 ·rename_i e;rw[jd e];exact h.box c y (by simp only[lk,if_neg e];exact hc),h.acc⟩
theorem Kp.up{b:Nat}{v:List DV}{X T:St}(h:(lk X.box b).isSome=true):Kp X T ⟨up T.box b v,T.acc⟩:=⟨fun c x hc hx=>by
 have:¬b=c:=by rintro rfl;rw[hc]at h;cases h
 rw[jd this];exact hx,fun _ _ _ h=>h⟩
theorem Kp.trans{X X' T1 T2 T3:St}(h:Kp X T1 T2)(k:Kp X' T2 T3)(hb:∀b,lk X.box b=none→lk X'.box b=none)(ha:∀l,lk X.acc l=none→lk X'.acc l=none):Kp X T1 T3:=
 ⟨fun b x h1 h2=>k.box b x (hb b h1) (h.box b x h1 h2),fun l o h1 h2=>k.acc l o (ha l h1) (h.acc l o h1 h2)⟩
theorem Kp.oL{X T T':St}(h:Kp X T T')(b:FN T'.box)(ds:List DV){A:List (Nat×Ob)}(hA:A=T'.acc):Kp X T ⟨(b.n,ds)::T'.box,A⟩:=⟨fun c x hc hx=>by
 have:=h.box c x hc hx;simp only[lk];rw[if_neg (fun e=>by rw[←e,mH b]at this;cases this)];exact this,fun l o h1 h2=>by rw[hA];exact h.acc l o h1 h2⟩
theorem A1(k0:IntKind)(b ke kb:TK)(S:St)(x:DV)(K:DV→Prop):gm (.int k0) b ke kb S x K=fy (.int k0) b x K:=rfl
theorem BC(e s b:Nat)(i:Bool)(ke kb:TK)(S:St)(x:DV)(K:DV→Prop):gm (.sl e s b i) .str ke kb S x K=(ke= .int .u8∧Ls x=true∧gg S x fun s xs=>s=1∧nK xs=true∧K (.v (.string (strOfNums (x5 xs))))):=rfl
theorem Br(s:Nat)(f:Bool)(xs:List DV):Ls (.sl s f xs)=true:=rfl
end
attribute [go_sem ↓] A1 BC nP
attribute [go_sem] Br pO jd NF Option.map_some
end Aml
namespace Aml
open Go Go.RowKit
def C3(d:DV)(S:St)(K:DV→St→Prop):Prop:=match d with
 | .sl s true xs=>∀l,gx S.acc l→K (.acc l xs.length) ⟨S.box,(l,.arr s xs)::S.acc⟩
 |_=>False
section
variable {P:Program} {w0:W0}
theorem oa{g:Gh}{S:St}{w:World}(h1:Rel w0 g S w){t len:Nat}{parts:List (Nat×DV)}{vs:List (Nat×Value)}(hx:parts.map (·.1)=vs.map (·.1))(hR:aa g (parts.map (·.2)) (vs.map (·.2))){K:DV→St→Prop}
 {e:Nat} (hte:∀e' s b i,tk P t= .sl e' s b i→e'=e) (h:aG (tk P t) (zD P e) len parts fun d=>C3 d S K):
 ∃d u w' g' S',(Instr.buildSlice t len vs.toArray).run P w= .ok u w'∧g.le g'∧Rel w0 g' S' w'∧aA g' d u∧K d S':=by
 unfold aG at h;split at h
 ·rename_i e' s by' hk;obtain rfl:=hte _ _ _ _ hk;obtain⟨hok,hzl,hbig,h⟩:=h;obtain⟨hu,hs,_,hei⟩:=cE hk;obtain⟨ti,z,hi,hz,hzs,hpos⟩:=bI hei;have hsz:ti.size=s:=by simpa[Program.cellsOf,hi]using hs
  have hzD:zD P e'=cv z:=by simp[zD,hi,hz]
  have hrz:aA g (zD P e') z:=hzD▸ig g z;split at h
  ·rename_i xs hf;have hpw:=sA (z:=z) (s:=s) (n:=len) (by omega) (by omega)
   obtain⟨cs',us',q1,q2,q3,q4,q5⟩:=pg (g:=g) (s:=s) parts vs (List.replicate len (zD P e')) (List.replicate len z) ((Array.range (len*s)).map (z.cells[·%z.cells.size]!)) xs hx hR
    ⟨by simp,fun i d u a b=>by
     rw[RW]at a b;split at a
     ·rename_i hlt;rw[if_pos hlt]at b;simp only[RC]at a b;subst a;subst b;exact hrz
     ·cases a⟩ hpw (fun u hu x hx=>by rw[Tf hu]at hx;exact hrz.one hok x hx) hf
   have hlen:xs.length=len:=by simpa using q5
   have hlu:us'.length=len:=by rw[←q2.len];exact hlen
   have hrun:(Instr.buildSlice t len vs.toArray).run P w= .ok (.slice (some ⟨w.heap.size,0,none⟩) len len) (w.alloc (.cells cs' e')):=by
    have hb:¬(len*s>2^24):=by omega
    simp only[Instr.buildSlice];by_cases hls:len*s=0
    ·have hl0:len=0:=by rcases Nat.mul_eq_zero.1 hls with h'|h' <;>omega
     have hcs:((Array.range (len*s)).map (z.cells[·%z.cells.size]!))= #[]:=by simp[hls]
     rw[hcs]at q1;have hr0:∀f:Nat→Value,(Array.range 0).map f= #[]:=fun f=>by simp
     simp only[run_underlying hu,Go.sizeOf,typeInfo,hi,hsz,hls,newRow,Sem.run_bind,Sem.run_pure,Result.andThen_ok,run_program,hr0,if_true];rw[q1];simp[hl0]
    ·simp[run_underlying hu,Go.sizeOf,typeInfo,hi,hsz,hls,hb,zeroValue,hz,q1,newRow]
   have hlm:len≤maxLen:=by
    have:len*1≤len*s:=Nat.mul_le_mul_left len (by omega);unfold maxLen;omega
   have hcsz:cs'.size=len*s:=by
    have:=q3.size;rw[hlu]at this;simpa using this
   obtain⟨l,g',hle,hne,hRel,hA⟩:=h1.wo (s:=s) (xs:=xs) (us:=us') (c:=len) (bG w (.cells cs' e')) (by omega) (Ro _) (heap_alloc_new w _) hcsz (by omega) hlm q2 q3.each q4 (fun i u j x a b=>by have:=q3.at_ i u j x a b;simpa using this) (uP (by omega) (by rw[RT,hcsz,hlu]) q3.each q4 (fun i u j x a b=>by have:=q3.at_ i u j x a b;simpa using this));rw[hlen]at hA;have h':=h l (bN hne);rw[hlen]at h';exact⟨_,_,_,_,_,hrun,hle,hRel,hA,h'⟩
  ·exact h.elim
 ·exact h.elim
theorem x8{o:Oper}{t len:Nat}{parts:List (Nat×Operand)}(ho:o.op= .buildSlice t len parts.toArray){ρD:Operand→DV}{S:St}{K:DV→St→Prop}
 (h:eo S (parts.map fun p=>ρD p.2) fun ds S=>aG (tk P t) (zD P (dh P t)) len ((parts.map (·.1)).zip ds) fun d=>C3 d S K):ae P w0 o ρD S K:=by
 intro g w ρ h1 h2 hcst;have hR:=fS (g:=g) (ρD:=ρD) (ρ:=ρ) parts (fun p hp=>h2 p.2 (by simp only[ho,Op.operands];simp;exact⟨p.1,hp⟩));obtain⟨g',ds,S',l1,R1,r1,k1⟩:=eY _ h1 hR h;have hlen:(parts.map (·.1)).length=ds.length:=by have:=r1.len;simpa using this.symm
 obtain⟨d,u,w',g2,S2,e1,l2,R2,e2,e3⟩:=oa (P:=P) R1 (t:=t) (len:=len) (parts:=(parts.map (·.1)).zip ds) (vs:=parts.map fun p=>(p.1,ρ p.2)) (by rw[zip_fst hlen];simp) (by rw[nF hlen];simpa[TM]using r1)
  (e:=dh P t) (fun e' s b i hk=>by simp[dh,hk]) k1
 have hrun:(execOp ρ o).run P w= .ok (.value u) w':=by
  have e:(parts.toArray.map fun(i,x)=>(i,ρ x))=(parts.map fun p=>(p.1,ρ p.2)).toArray:=by simp
  simp only[execOp,ho,Sem.run_bind];rw[e,e1];rfl
 rw[hrun];exact⟨g2,d,S2,l1.trans l2,R2,e2,e3⟩
def Oz(P:Program)(w0:W0)(op:Op)(fr:List DV)(S:St)(K:DV→St→Prop):Prop:=match op with
 | .buildSlice t len parts=>eo S (parts.toList.map fun p=>ev fr p.2) fun ds S=>aG (tk P t) (zD P (dh P t)) len ((parts.toList.map (·.1)).zip ds) fun d=>C3 d S K
 |op=>aL P w0 op fr S K
def uc(P:Program)(w0:W0)(ops:Array Oper)(K:List DV→St→Prop):List Oper→List DV→St→Prop
 |[],fr,S=>K fr S
 |o::rest,fr,S=>bl ops fr o.guard (fun fr=>Oz P w0 o.op fr S fun d S'=>uc P w0 ops K rest (pt fr o.dst d) S') (fun fr=>uc P w0 ops K rest (pt fr o.dst ud) S)
theorem A8{o:Oper}{fr:List DV}{S:St}{K:DV→St→Prop}(hs:eE o.op=true)(h:Oz P w0 o.op fr S K):ae P w0 o (ev fr) S K:=by
 cases hop:o.op with
 |buildSlice t len parts=>rw[hop]at h;exact x8 (parts:=parts.toList) (by simpa using hop) h
 |_=>rw[hop]at h;exact ct hs (by rw[hop];exact h)
theorem j6{ops:Array Oper}{K:List DV→St→Prop}:∀(l:List Oper) {fr:List DV} {S:St},l.all (fun o=>eE o.op)=true→uc P w0 ops K l fr S→wb P w0 ops K l fr S
 |[],fr,S,_,h=>h
 |o::rest,fr,S,hs,h=>by
  simp only[SU,Rm]at hs;refine eA (fun fr h=>?_) (fun fr h=>j6 rest hs.2 h) h;exact aF (fun d S h=>j6 rest hs.2 h) (A8 hs.1 h)
section
variable {ops:Array Oper} {fr:List DV} {S:St} {rest:List Oper} {dst:Option Tmp} {op:Op} {ty:TypeId} {pos:String} {aft:Array Edge} {K:List DV→St→Prop} {K2:DV→St→Prop}
theorem Nd:uc P w0 ops K [] fr S=K fr S:=rfl
@[congr] theorem P8 {fr':List DV} {S':St} (h1:fr=fr') (h2:S=S'):Oz P w0 op fr S K2=Oz P w0 op fr' S' K2:=by cases h1;cases h2;rfl
@[congr] theorem Pr {l:List Oper} {fr':List DV} {S':St} (h1:fr=fr') (h2:S=S'):uc P w0 ops K l fr S=uc P w0 ops K l fr' S':=by cases h1;cases h2;rfl
@[congr] theorem OL {d d':DV} {S':St} (h1:d=d') (h2:S=S'):C3 d S K2=C3 d' S' K2:=by cases h1;cases h2;rfl
end
end
attribute [go_sem ↓] Nd
end Aml
namespace Aml
open Go Go.RowKit
section
variable {P:Program} {w0:W0}
end
end Aml
namespace Aml
open Go Go.RowKit
inductive Tr where
 |leaf|head (t:Tr)|snd (t:Tr)|both (t u:Tr)
def Mg(P:Program)(w0:W0)(K:List DV→St→Prop):Tr→List Oper→List DV→St→Prop
 | .leaf,[],fr,S=>K fr S
 | .head t,o::r,fr,S=>aL P w0 o.op fr S fun d S'=>Mg P w0 K t r (pt fr o.dst d) S'
 | .snd t,p::o::r,fr,S=>aL P w0 o.op fr S fun d S'=>Mg P w0 K t (p::r) (pt fr o.dst d) S'
 | .both t u,p::o::r,fr,S=>(aL P w0 p.op fr S fun d S'=>Mg P w0 K t (o::r) (pt fr p.dst d) S')∧aL P w0 o.op fr S fun d S'=>Mg P w0 K u (p::r) (pt fr o.dst d) S'
 |_,_,_,_=>False
def Gv(ops:Array Oper):Nat→Array Bool→Tr→List Nat→Bool
 |_,L,.leaf,[]=>(Region.ready .any ops L).isEmpty
 |f+1,L,.head t,i::r=>!(Region.ready .any ops L).isEmpty&&(Region.ready .any ops L).all (fun x=>x==i)&&Gv ops f (L.setIfInBounds i true) t r
 |f+1,L,.snd t,i::j::r=>!(Region.ready .any ops L).isEmpty&&(Region.ready .any ops L).all (fun x=>x==j)&&Gv ops f (L.setIfInBounds j true) t (i::r)
 |f+1,L,.both t u,i::j::r=>!(Region.ready .any ops L).isEmpty&&(Region.ready .any ops L).all (fun x=>x==i||x==j)&&Gv ops f (L.setIfInBounds i true) t (j::r)&&Gv ops f (L.setIfInBounds j true) u (i::r)
 |_,_,_,_=>false
section
variable {P:Program} {w0:W0}
section
variable {K:List DV→St→Prop} {fr:List DV} {S:St} {t u:Tr} {o p:Oper} {r:List Oper} {dst dst2:Option Tmp} {op op2:Op} {ty ty2:TypeId} {pos pos2:String} {aft aft2:Array Edge}
@[congr] theorem Qb {fr':List DV} {S':St} (h1:fr=fr') (h2:S=S'):Mg P w0 K t r fr S=Mg P w0 K t r fr' S':=by cases h1;cases h2;rfl
end
end
end Aml
namespace Aml
open Go Go.RowKit
section
variable {P:Program} {w0:W0}
theorem Dh{o:Oper}{ρD:Operand→DV}{S:St}{r:DV}(h:ae P w0 o ρD S fun d S'=>shr S' d fun d' S''=>d'=r∧Sub S S''):ae P w0 o ρD S fun d S'=>d=r∧S'=S:=by
 intro g w ρ h1 h2 hcst;have:=h g w ρ h1 h2 hcst;split at this
 ·obtain⟨g',d,S',a,b,c,e⟩:=this;obtain⟨g2,d2,S2,q1,q2,q3,q4,q5⟩:=jS b c e;exact⟨g2,d2,S,a.trans q1,q2.forget q5.box q5.acc,q3,q4,rfl⟩
 ·obtain⟨g',S',a,b,e⟩:=this;have e:ud=r∧Sub S S':=e;exact⟨g',S,a,b.forget e.2.box e.2.acc,e.1,rfl⟩
 ·refine this.mono fun e w'' k=>k.imp (.refl _) ?_;rintro r' g' d S' b c x y;obtain⟨g2,d2,S2,q1,q2,q3,q4,q5⟩:=jS c x y;exact⟨g2,d2,S,b.trans q1,q2.forget q5.box q5.acc,q3,q4,rfl⟩
 ·refine fun ro=>(this ro).mono fun e w'' k=>k.imp (.refl _) ?_;rintro r' g' d S' b c x y;obtain⟨g2,d2,S2,q1,q2,q3,q4,q5⟩:=jS c x y;exact⟨g2,d2,S,b.trans q1,q2.forget q5.box q5.acc,q3,q4,rfl⟩
 ·exact this
 ·exact this
def oV(k:TK)(z x y:DV)(K:DV→Prop):Prop:=match k,x,y with
 | .sl _ s by' true,.v (.int _ n),.v (.int _ m)=>dA z=true∧0≤n∧n≤m∧m*by'≤140737488355328∧m≤9223372036854775807∧K (.sl s false (List.replicate n.toNat z))
 |_,_,_=>False
def o0(a b ke:TK)(x:DV)(K:DV→Prop):Prop:=match a,b,x with
 | .sl _ _ _ _,.str,.sl s _ xs=>ke= .int .u8∧s=1∧nK xs=true∧K (.v (.string (strOfNums (x5 xs))))
 |a,b,x=>fy a b x K
def BV(P:Program)(w0:W0)(op:Op)(fr:List DV)(S:St)(K:DV→Prop):Prop:=match op with
 | .makeSlice t x y=>oV (tk P t) (zD P (dh P t)) (ev fr x) (ev fr y) K
 | .convert s d x=>o0 (tk P s) (tk P d) (tk P (dh P s)) (ev fr x) K
 |op=>aX P w0 op fr S K
def Nj:Op→Bool
 | .makeSlice ..=>true
 |op=>oQ op
def LZ(P:Program)(w0:W0)(S:St)(ops:Array Oper)(K:List DV→St→Prop):List Oper→List DV→Prop
 |[],fr=>K fr S
 |o::rest,fr=>cD (Nj o.op) (bl ops fr o.guard (fun fr=>BV P w0 o.op fr S fun d=>LZ P w0 S ops K rest (pt fr o.dst d)) (fun fr=>LZ P w0 S ops K rest (pt fr o.dst ud))) (qO P w0 ops K (o::rest) fr S)
theorem BQ{o:Oper}{fr:List DV}{S:St}{K:DV→Prop}(hs:eE o.op=true)(h:BV P w0 o.op fr S K):∃d,QY P w0 S o fr d∧K d:=by
 cases hop:o.op with
 |makeSlice t x y=>
  rw[hop]at h;simp only[BV,oV]at h;split at h
  ·rename_i e s by' k1 n k2 m hk hx hy;obtain⟨q1,q2,q3,q4,q5,q6⟩:=h;refine⟨_,Dh (mD hop ?_),q6⟩;rw[hk,hx,hy];refine⟨q1,q2,q3,q4,q5,fun l hl=>?_⟩;show shr _ _ _;unfold shr iZ;simp only[lk,if_true,List.length_replicate,true_and];exact⟨TN _,by show List.Sublist S.acc (up _ _ _);simp only[up,if_true];exact List.sublist_cons_self _ _⟩
  ·exact h.elim
 |convert s d x=>
  rw[hop]at h hs;simp only[BV,o0]at h;split at h
  ·rename_i e c b i s0 f xs hk hd hx;obtain⟨q1,q2,q3,q4⟩:=h;refine⟨_,yK (K:=fun d S'=>d=_∧S'=S) hop ?_,q4⟩;rw[hk,hd,hx];exact⟨q1,rfl,q2,q3,rfl,rfl⟩
  ·exact iQ (by rw[hop];exact hs) (by rw[hop];exact h)
 |_=>rw[hop]at h hs;exact iQ (by rw[hop];exact hs) (by rw[hop];exact h)
section
variable {ops:Array Oper} {K:List DV→St→Prop} {K2:DV→Prop} {fr:List DV} {S:St} {r:List Oper} {dst:Option Tmp} {op:Op} {ty:TypeId} {pos:String} {aft:Array Edge}
@[congr] theorem Qx {fr':List DV} (h1:fr=fr'):LZ P w0 S ops K r fr=LZ P w0 S ops K r fr':=by cases h1;rfl
@[congr] theorem PO {fr':List DV} (h1:fr=fr'):BV P w0 op fr S K2=BV P w0 op fr' S K2:=by cases h1;rfl
@[congr] theorem Mw {k k':TK} {z z' x x' y y':DV} (h1:k=k') (h2:z=z') (h3:x=x') (h4:y=y'):oV k z x y K2=oV k' z' x' y' K2:=by cases h1;cases h2;cases h3;cases h4;rfl
@[congr] theorem Ng {k k' q q' ke ke':TK} {x x':DV} (h1:k=k') (h2:q=q') (h3:ke=ke') (h4:x=x'):o0 k q ke x K2=o0 k' q' ke' x' K2:=by cases h1;cases h2;cases h3;cases h4;rfl
end
end
attribute [go_sem] Nj
end Aml
namespace Aml.Z
open Go Go.RowKit
def kX:Op→Nat
 | .load ..=>1
 | .alloc _=>2
 | .call c=>match c.callee with
  | .value _=>1
  | .builtin .len=>0
  | .builtin .cap=>0
  | .builtin .min=>0
  | .builtin .max=>0
  |_=>3
 | .move _=>0
 | .assign _=>0
 | .pick ..=>0
 | .fieldAddr ..=>0
 | .indexAddr ..=>0
 | .index ..=>0
 | .field ..=>0
 | .extract ..=>0
 | .nilCheck _=>0
 | .binOp ..=>0
 | .unOp ..=>0
 | .convert ..=>0
 | .makeInterface ..=>0
 | .makeFunc ..=>0
 | .slice ..=>0
 | .build ..=>0
 | .buildSlice ..=>0
 | .makeSlice ..=>0
 |_=>3
def Fr(S:St)(B:List (Nat×List DV)):Prop:=∀x,x∈B→gx S.box x.1
def EP(P:Program)(w0:W0)(o:Oper)(fr:List DV)(S:St)(K:List DV→St→Prop):Prop:=
 (kX o.op=0∧∃d,(∀S',QY P w0 S' o fr d)∧K (pt fr o.dst d) S)∨
 (kX o.op=1∧∃d,(∀B,Fr S B→QY P w0 ⟨B++S.box,S.acc⟩ o fr d)∧K (pt fr o.dst d) S)∨
 (kX o.op=2∧∃t,o.op= .alloc t∧dA (zD P t)=true∧∀b,gx S.box b→K (pt fr o.dst (.v (.pointer (some ⟨b,0,none⟩)))) ⟨(b,cd (zD P t))::S.box,S.acc⟩)∨
 (kX o.op=3∧ae P w0 o (ev fr) S fun d S'=>K (pt fr o.dst d) S')
def Lx(P:Program)(w0:W0)(ops:Array Oper)(o:Oper)(fr:List DV)(S:St)(K:List DV→St→Prop):Prop:=
 (cC ops fr o.guard=some true∧EP P w0 o fr S K)∨(cC ops fr o.guard=some false∧K (pt fr o.dst ud) S)
def Cy(a b:Nat):Bool:=a==0||(a==1&&decide (b<3))
section
variable {P:Program} {w0:W0} {ops:Array Oper} {md:Region.Mode}
def qy(P:Program)(w0:W0)(ops:Array Oper)(i:Nat)(fr:List DV)(S:St)(K:List DV→St→Prop):Prop:=match ops[i]? with
 |none=>K fr S
 |some o=>Lx P w0 ops o fr S K
theorem pQ{op:Op}(hk:kX op=0){fr:List DV}{S:St}{K:DV→Prop}(h:aX P w0 op fr S K):∃d,(∀S',aX P w0 op fr S' (·=d))∧K d:=by
 cases op with
 |move x=>exact⟨_,fun _=>rfl,h⟩
 |assign x=>exact⟨_,fun _=>rfl,h⟩
 |pick c a b=>obtain⟨d,q1,q2⟩:=pZ h;exact⟨d,fun _=>q1,q2⟩
 |fieldAddr t x f=>obtain⟨d,q1,q2⟩:=lU h;exact⟨d,fun _=>q1,q2⟩
 |indexAddr t x i=>obtain⟨d,q1,q2⟩:=zU h;exact⟨d,fun _=>q1,q2⟩
 |index t x i=>obtain⟨d,q1,q2⟩:=mo h;exact⟨d,fun _=>q1,q2⟩
 |field t x f=>obtain⟨d,q1,q2⟩:=j7 h;exact⟨d,fun _=>q1,q2⟩
 |extract x i=>obtain⟨d,q1,q2⟩:=iM h;exact⟨d,fun _=>q1,q2⟩
 |nilCheck x=>exact⟨_,fun _=>⟨h.1,rfl⟩,h.2⟩
 |binOp b t x y t'=>obtain⟨d,q1,q2⟩:=pz h.2;exact⟨d,fun _=>⟨h.1,q1⟩,q2⟩
 |unOp b t x=>obtain⟨d,q1,q2⟩:=xv h;exact⟨d,fun _=>q1,q2⟩
 |convert s d x=>obtain⟨d,q1,q2⟩:=oz h;exact⟨d,fun _=>q1,q2⟩
 |makeInterface t x=>exact⟨_,fun _=>⟨h.1,h.2.1,rfl⟩,h.2.2⟩
 |makeFunc fn a b=>obtain⟨d,q1,q2⟩:=ph h;exact⟨d,fun _=>q1,q2⟩
 |slice t x lo hi mx=>obtain⟨d,q1,q2⟩:=lX h.2.2;exact⟨d,fun _=>⟨h.1,h.2.1,q1⟩,q2⟩
 |build t parts=>obtain⟨d,q1,q2⟩:=lY h.2;exact⟨d,fun _=>⟨h.1,q1⟩,q2⟩
 |buildSlice t len parts=>obtain⟨d,q1,q2⟩:=fE h.2;exact⟨d,fun _=>⟨h.1,q1⟩,q2⟩
 |call c=>
  obtain⟨callee,args,ts⟩:=c;simp only[aX]at h ⊢;split at h
  ·split at h
   ·obtain⟨d,q1,q2⟩:=sj h;exact⟨d,fun _=>by simpa using q1,q2⟩
   ·exact h.elim
  ·split at h
   ·obtain⟨d,q1,q2⟩:=s9 h;exact⟨d,fun _=>by simpa using q1,q2⟩
   ·exact h.elim
  ·split at h
   ·obtain⟨d,q1,q2⟩:=sc h;exact⟨d,fun _=>by simpa using q1,q2⟩
   ·exact h.elim
  ·split at h
   ·obtain⟨d,q1,q2⟩:=sN h;exact⟨d,fun _=>by simpa using q1,q2⟩
   ·exact h.elim
  ·cases hk
  ·cases hk
  ·exact h.elim
 |_=>first|exact h.elim|cases hk
theorem AS{op:Op}(hk:kX op=0){fr:List DV}{S:St}{K:DV→Prop}(h:BV P w0 op fr S K):∃d,(∀S',BV P w0 op fr S' (·=d))∧K d:=by
 cases op with
 |makeSlice t x y=>
  simp only[BV,oV]at h ⊢;split at h
  ·obtain⟨q1,q2,q3,q4,q5,q6⟩:=h;exact⟨_,fun _=>⟨q1,q2,q3,q4,q5,rfl⟩,q6⟩
  ·exact h.elim
 |convert s d x=>
  simp only[BV]at h ⊢;unfold o0 at h ⊢;split at h
  ·obtain⟨q1,q2,q3,q4⟩:=h;exact⟨_,fun _=>⟨q1,q2,q3,rfl⟩,q4⟩
  ·obtain⟨dd,p1,p2⟩:=pQ (P:=P) (w0:=w0) (op:= .convert s d x) (fr:=fr) (S:=S) (K:=K) rfl h;exact⟨dd,p1,p2⟩
 |_=>exact pQ (P:=P) (w0:=w0) (S:=S) (fr:=fr) hk h
end
def QX(P:Program)(w0:W0)(f:FuncId)(ds:List DV)(S:St)[K:Cn (DV→Prop)]:Prop:=∃d,(∀B,Fr S B→ab P w0 f ds ⟨B++S.box,S.acc⟩ fun d' S'=>d'=d∧S'=⟨B++S.box,S.acc⟩)∧K.k d
def nI(P:Program)(w0:W0)(cal:DV)(ds:List DV)(S:St)(K:DV→Prop):Prop:=match cal with
 | .v (.func (.func f) a cap)=>a.size=0∧okF P f=true∧cap.toList.all (fun u=>u.oneCell')=true∧ds.all eG=true∧@QX P w0 f (ds++cap.toList.map .v) S ⟨K⟩
 |_=>False
section
variable {P:Program} {w0:W0} {ops:Array Oper} {md:Region.Mode}
end
end Aml.Z
namespace Aml.Z
open Go Go.RowKit
section
variable {P:Program} {w0:W0} {ops:Array Oper} {fr:List DV} {S:St} {rest:List Oper} {dst:Option Tmp} {op:Op} {ty:TypeId} {pos:String} {aft:Array Edge}
section
variable {K:List DV→St→Prop}
end
variable {K:DV→St→Prop}
@[congr] theorem D7 {cal cal':DV} {ds ds':List DV} {S':St} {K:DV→Prop} (h1:cal=cal') (h2:ds=ds') (h3:S=S'):nI P w0 cal ds S K=nI P w0 cal' ds' S' K:=by cases h1;cases h2;cases h3;rfl
end
end Aml.Z
namespace Aml
open Go Go.RowKit
section
variable {P:Program} {w0:W0}
end
end Aml
namespace Aml.Y
open Go Go.RowKit
def kY(op:Op):Nat:=match op with
 | .lookup ..=>1
 |op=>Z.kX op
def cls(gs ns:List Nat)(i:Nat)(op:Op):Nat:=if gs.contains i then 2 else if ns.contains i then 6 else if ns.contains (i+1000)then 5 else match kY op with
 |0=>0
 |1=>1
 |2=>4
 |_=>3
def Cy(a b:Nat):Bool:=a==0||(a==5&&b !=3)||(a==1&&(decide (b<3)||b==4||b==5))||(a==4&&b==4)
structure rW(S T:St):Prop where
 box:S.box.Perm T.box
 acc:S.acc.Perm T.acc
theorem rW.refl(S:St):rW S S:=⟨.refl _,.refl _⟩
theorem rW.symm{S T:St}(h:rW S T):rW T S:=⟨h.box.symm,h.acc.symm⟩
theorem rW.trans{S T U:St}(h:rW S T)(k:rW T U):rW S U:=⟨h.box.trans k.box,h.acc.trans k.acc⟩
theorem rW.rel{w0:W0}{g:Gh}{S T:St}{w:World}(h:rW S T)(r:Rel w0 g S w):Rel w0 g T w:=
 ⟨r.below,r.aO,(h.box.map _).nodup_iff.1 r.nb,(h.acc.map _).nodup_iff.1 r.na,r.df,r.fresh,fun l o ho=>r.top l o (h.acc.mem_iff.2 ho),let⟨ow,h1,h2⟩:=r.own
  ⟨ow,fun b ds hb=>h1 b ds (h.box.mem_iff.2 hb),fun l o hl=>h2 l o (h.acc.mem_iff.2 hl)⟩⟩
theorem kP{α:Type}:∀{l:List (Nat×α)} {b:Nat},gx l b→∀p,p∈l→p.1≠b
 |[],b,_,p,h=>by cases h
 |(k,x)::t,b,h,p,hp=>by
  rcases Rv.1 hp with rfl|hp
  ·exact h.1
  ·exact kP h.2.2 p hp
theorem Fj{α:Type}(l:List (Nat×α)):∃b,gx l b:=by
 have:∃b,∀p,p∈l→p.1<b:=by
  induction l with
  |nil=>exact⟨0,fun p h=>by cases h⟩
  |cons a l ih=>
   obtain⟨b,hb⟩:=ih;refine⟨a.1+b+1,fun p hp=>?_⟩;rcases Rv.1 hp with rfl|hp
   ·omega
   ·have:=hb p hp;omega
 obtain⟨b,hb⟩:=this;exact⟨b,bN fun p hp e=>by have:=hb p hp;omega⟩
theorem rW.gx{S T:St}(h:rW S T){b:Nat}(k:gx S.box b):gx T.box b:=bN fun p hp=>kP k p (h.box.mem_iff.2 hp)
theorem rW.yw{P:Program}{w0:W0}{o:Oper}{ρ:Operand→DV}{S T:St}{K:DV→St→Prop}(h:rW S T)(y:ae P w0 o ρ S K):ae P w0 o ρ T K:=
 fun g w r h1 h2 h3=>y g w r (h.symm.rel h1) h2 h3
structure Hm(X T:St):Prop where
 box:∀b x,lk X.box b=some x→(b,x)∈T.box
 acc:∀l o,lk X.acc l=some o→(l,o)∈T.acc
theorem Hm.of{X T:St}(h:Has X T):Hm X T:=⟨fun b x hb=>bd (h.box b x hb),fun l o hl=>bd (h.acc l o hl)⟩
theorem gq(T:St):Hm ⟨[],[]⟩ T:=⟨fun b x h=>(by cases h),fun l o h=>(by cases h)⟩
theorem Hm.perm{X S T:St}(h:Hm X S)(k:rW S T):Hm X T:=⟨fun b x hb=>k.box.mem_iff.1 (h.box b x hb),fun l o hl=>k.acc.mem_iff.1 (h.acc l o hl)⟩
theorem Hm.has{X T:St}{w0:W0}{g:Gh}{w:World}(h:Hm X T)(r:Rel w0 g T w):Has X T:=⟨fun b x hb=>dy r.nb (h.box b x hb),fun l o hl=>dy r.na (h.acc l o hl)⟩
def PC(F:List DV→St→Prop)(fr:List DV)(S:St):Prop:=∃T,rW T S∧F fr T
theorem PC.mono{F G:List DV→St→Prop}(h:∀fr S,F fr S→G fr S){fr:List DV}{S:St}(k:PC F fr S):PC G fr S:=let⟨T,a,b⟩:=k;⟨T,a,h _ _ b⟩
def I6(K:List DV→St→Prop):Prop:=∀fr S T,rW S T→K fr S→K fr T
theorem PC.PJ(F:List DV→St→Prop):I6 (PC F):=fun _ _ _ h ⟨U,a,b⟩=>⟨U,a.trans h,b⟩
def jf(P:Program)(w0:W0)(S0 S1:St)(c:Nat)(o:Oper)(fr:List DV)(S:St)(K:List DV→St→Prop):Prop:=
 (c=0∧∃d,(∀S',QY P w0 S' o fr d)∧K (pt fr o.dst d) S)∨
 (c=1∧Hm S0 S∧∃d,(∀S',Hm S0 S'→QY P w0 S' o fr d)∧K (pt fr o.dst d) S)∨
 (c=2∧ae P w0 o (ev fr) S fun d S'=>Hm S0 S'∧K (pt fr o.dst d) S')∨
 (c=3∧ae P w0 o (ev fr) S fun d S'=>K (pt fr o.dst d) S')∨
 (c=4∧Hm S0 S∧∃t,o.op= .alloc t∧dA (zD P t)=true∧∀b,gx S.box b→K (pt fr o.dst (.v (.pointer (some ⟨b,0,none⟩)))) ⟨(b,cd (zD P t))::S.box,S.acc⟩)∨
 (c=5∧Hm S1 S∧∃d,(∀S',Hm S1 S'→QY P w0 S' o fr d)∧K (pt fr o.dst d) S)∨
 (c=6∧ae P w0 o (ev fr) S fun d S'=>Hm S1 S'∧K (pt fr o.dst d) S')
def eB(P:Program)(w0:W0)(S0 S1:St)(c:Nat)(ops:Array Oper)(o:Oper)(fr:List DV)(S:St)(K:List DV→St→Prop):Prop:=
 (cC ops fr o.guard=some true∧jf P w0 S0 S1 c o fr S K)∨(cC ops fr o.guard=some false∧K (pt fr o.dst ud) S)
section
variable {P:Program} {w0:W0} {S0 S1:St} {ops:Array Oper} {md:Region.Mode}
theorem p7{c:Nat}{o:Oper}{fr:List DV}{S:St}{K K':List DV→St→Prop}(h:∀fr S,K fr S→K' fr S)(b:jf P w0 S0 S1 c o fr S K):jf P w0 S0 S1 c o fr S K':=by
 rcases b with⟨c,d,q,k⟩|⟨c,hS,d,q,k⟩|⟨c,q⟩|⟨c,q⟩|⟨c,hS,t,ht,hz,k⟩|⟨c,hS,d,q,k⟩|⟨c,q⟩
 ·exact .inl ⟨c,d,q,h _ _ k⟩
 ·exact .inr (.inl ⟨c,hS,d,q,h _ _ k⟩)
 ·exact .inr (.inr (.inl ⟨c,aF (fun d S hk=>⟨hk.1,h _ _ hk.2⟩) q⟩))
 ·exact .inr (.inr (.inr (.inl ⟨c,aF (fun d S hk=>h _ _ hk) q⟩)))
 ·exact .inr (.inr (.inr (.inr (.inl ⟨c,hS,t,ht,hz,fun b hb=>h _ _ (k b hb)⟩))))
 ·exact .inr (.inr (.inr (.inr (.inr (.inl ⟨c,hS,d,q,h _ _ k⟩)))))
 ·exact .inr (.inr (.inr (.inr (.inr (.inr ⟨c,aF (fun d S hk=>⟨hk.1,h _ _ hk.2⟩) q⟩)))))
theorem da{c:Nat}{o:Oper}{fr:List DV}{S:St}{K K':List DV→St→Prop}(h:∀fr S,K fr S→K' fr S)(b:eB P w0 S0 S1 c ops o fr S K):eB P w0 S0 S1 c ops o fr S K':=
 b.imp (fun⟨a,b⟩=>⟨a,p7 h b⟩) fun⟨a,b⟩=>⟨a,h _ _ b⟩
theorem D6{c:Nat}{o:Oper}{K:List DV→St→Prop}(hK:I6 K):I6 fun fr S=>eB P w0 S0 S1 c ops o fr S K:=fun fr S T hp h=>by
 rcases h with⟨g,b⟩|⟨g,k⟩
 ·refine .inl ⟨g,?_⟩;rcases b with⟨c,d,q,k⟩|⟨c,hS,d,q,k⟩|⟨c,q⟩|⟨c,q⟩|⟨c,hS,t,ht,hz,k⟩|⟨c,hS,d,q,k⟩|⟨c,q⟩
  ·exact .inl ⟨c,d,q,hK _ _ _ hp k⟩
  ·exact .inr (.inl ⟨c,hS.perm hp,d,q,hK _ _ _ hp k⟩)
  ·exact .inr (.inr (.inl ⟨c,hp.yw q⟩))
  ·exact .inr (.inr (.inr (.inl ⟨c,hp.yw q⟩)))
  ·exact .inr (.inr (.inr (.inr (.inl ⟨c,hS.perm hp,t,ht,hz,fun b hb=>hK _ ⟨(b,cd (zD P t))::S.box,S.acc⟩ _ ⟨hp.box.cons _,hp.acc⟩ (k b (hp.symm.gx hb))⟩))))
  ·exact .inr (.inr (.inr (.inr (.inr (.inl ⟨c,hS.perm hp,d,q,hK _ _ _ hp k⟩)))))
  ·exact .inr (.inr (.inr (.inr (.inr (.inr ⟨c,hp.yw q⟩)))))
 ·exact .inr ⟨g,hK _ _ _ hp k⟩
theorem B8{c:Nat}{o:Oper}{fr:List DV}{S:St}{K:List DV→St→Prop}{dst:Option Tmp}{e:DV}(h1:∀t,dst=some t→t∉o.looksAt ops)(h2:∀t,dst=some t→o.dst≠some t):
 jf P w0 S0 S1 c o (pt fr dst e) S K↔jf P w0 S0 S1 c o fr S fun fr' S'=>K (pt fr' dst e) S':=by
 have hq:∀S d,QY P w0 S o (pt fr dst e) d↔QY P w0 S o fr d:=fun S d=>
  ⟨cg (fun x hx=>j0 (ops:=ops) h1 x hx),cg (fun x hx=>(j0 (ops:=ops) h1 x hx).symm)⟩
 have hc:∀d,pt (pt fr dst e) o.dst d=pt (pt fr o.dst d) dst e:=fun d=>nq fr e d h2
 have hy:∀K,ae P w0 o (ev (pt fr dst e)) S K↔ae P w0 o (ev fr) S K:=fun K=>
  ⟨cg (fun x hx=>j0 (ops:=ops) h1 x hx),cg (fun x hx=>(j0 (ops:=ops) h1 x hx).symm)⟩
 unfold jf;simp only[hq,hc,hy]
theorem ey{c:Nat}{o:Oper}{fr:List DV}{S:St}{K:List DV→St→Prop}{dst:Option Tmp}{e:DV}(h1:∀t,dst=some t→t∉o.looksAt ops)(h2:∀t,dst=some t→o.dst≠some t):
 eB P w0 S0 S1 c ops o (pt fr dst e) S K↔eB P w0 S0 S1 c ops o fr S fun fr' S'=>K (pt fr' dst e) S':=by
 unfold eB;rw[kW h1,B8 h1 h2,nq fr e ud h2]
theorem vv{c:Nat}{o:Oper}{fr:List DV}{S:St}{K K':List DV→St→Prop}(h:∀e S,K (pt fr o.dst e) S→K' (pt fr o.dst e) S)(b:jf P w0 S0 S1 c o fr S K):jf P w0 S0 S1 c o fr S K':=by
 rcases b with⟨c,d,q,k⟩|⟨c,hS,d,q,k⟩|⟨c,q⟩|⟨c,q⟩|⟨c,hS,t,ht,hz,k⟩|⟨c,hS,d,q,k⟩|⟨c,q⟩
 ·exact .inl ⟨c,d,q,h _ _ k⟩
 ·exact .inr (.inl ⟨c,hS,d,q,h _ _ k⟩)
 ·exact .inr (.inr (.inl ⟨c,aF (fun d S hk=>⟨hk.1,h _ _ hk.2⟩) q⟩))
 ·exact .inr (.inr (.inr (.inl ⟨c,aF (fun d S hk=>h _ _ hk) q⟩)))
 ·exact .inr (.inr (.inr (.inr (.inl ⟨c,hS,t,ht,hz,fun b hb=>h _ _ (k b hb)⟩))))
 ·exact .inr (.inr (.inr (.inr (.inr (.inl ⟨c,hS,d,q,h _ _ k⟩)))))
 ·exact .inr (.inr (.inr (.inr (.inr (.inr ⟨c,aF (fun d S hk=>⟨hk.1,h _ _ hk.2⟩) q⟩)))))
theorem o7{c:Nat}{o:Oper}{fr:List DV}{S:St}{K K':List DV→St→Prop}(h:∀e S,K (pt fr o.dst e) S→K' (pt fr o.dst e) S)(b:eB P w0 S0 S1 c ops o fr S K):eB P w0 S0 S1 c ops o fr S K':=
 b.imp (fun⟨a,b⟩=>⟨a,vv h b⟩) fun⟨a,b⟩=>⟨a,h _ _ b⟩
theorem Hm.cons{X S:St}(h:Hm X S){b:Nat}(v:List DV):Hm X ⟨(b,v)::S.box,S.acc⟩:=⟨fun c x hc=>Rr _ (h.box c x hc),fun l o hl=>h.acc l o hl⟩
theorem wZ(hSS:∀T,Hm S0 T→Hm S1 T){cx cy:Nat}{x y:Oper}(hap:x.apart ops y=true)(hk:Cy cx cy=true){fr:List DV}{S:St}{K:List DV→St→Prop}(hK:I6 K)(h:eB P w0 S0 S1 cx ops x fr S fun fr S=>eB P w0 S0 S1 cy ops y fr S K):
 eB P w0 S0 S1 cy ops y fr S fun fr S=>eB P w0 S0 S1 cx ops x fr S K:=by
 obtain⟨b1,b2,b3⟩:=Oper.apart_spec hap;have hw:∀e,cC ops (pt fr y.dst e) x.guard=cC ops fr x.guard:=fun e=>kW b3;have hq:∀{S d e},QY P w0 S x fr d→QY P w0 S x (pt fr y.dst e) d:=fun{S d e} q=>cg (fun z hz=>(j0 (ops:=ops) b3 z hz).symm) q;rcases h with⟨hg,hb⟩|⟨hg,hb⟩
 ·rcases hb with⟨c,d,q,k⟩|⟨c,hS,d,q,k⟩|⟨c, -⟩|⟨c, -⟩|⟨c,hS,t,ht,hz,k⟩|⟨c,hS,d,q,k⟩|⟨c, -⟩
  ·rw[ey b1 b2]at k;exact o7 (fun e S' hk=> .inl ⟨by rw[hw];exact hg,.inl ⟨c,d,fun S''=>hq (q S''),hk⟩⟩) k
  ·rw[ey b1 b2]at k;rcases k with⟨g2,k⟩|⟨g2,k⟩
   ·rcases k with⟨c2,d2,q2,k⟩|⟨c2,hS2,d2,q2,k⟩|⟨c2,q2⟩|⟨c2, -⟩|⟨c2,hS2,t2,ht2,hz2,k2⟩|⟨c2,hS2,d2,q2,k⟩|⟨c2, -⟩
    ·exact .inl ⟨g2,.inl ⟨c2,d2,q2,.inl ⟨by rw[hw];exact hg,.inr (.inl ⟨c,hS,d,fun S' h'=>hq (q S' h'),k⟩)⟩⟩⟩
    ·exact .inl ⟨g2,.inr (.inl ⟨c2,hS2,d2,q2,.inl ⟨by rw[hw];exact hg,.inr (.inl ⟨c,hS,d,fun S' h'=>hq (q S' h'),k⟩)⟩⟩)⟩
    ·exact .inl ⟨g2,.inr (.inr (.inl ⟨c2,aF (fun e S' h'=>⟨h'.1,.inl ⟨by rw[hw];exact hg,.inr (.inl ⟨c,h'.1,d,fun S'' h''=>hq (q S'' h''),h'.2⟩)⟩⟩) q2⟩))⟩
    ·rw[c,c2]at hk;exact absurd hk (by decide)
    ·exact .inl ⟨g2,.inr (.inr (.inr (.inr (.inl ⟨c2,hS2,t2,ht2,hz2,fun b hb=> .inl ⟨by rw[hw];exact hg,.inr (.inl ⟨c,Hm.cons hS _,d,fun S'' h''=>hq (q S'' h''),k2 b hb⟩)⟩⟩))))⟩
    ·exact .inl ⟨g2,.inr (.inr (.inr (.inr (.inr (.inl ⟨c2,hS2,d2,q2,.inl ⟨by rw[hw];exact hg,.inr (.inl ⟨c,hS,d,fun S' h'=>hq (q S' h'),k⟩)⟩⟩)))))⟩
    ·rw[c,c2]at hk;exact absurd hk (by decide)
   ·exact .inr ⟨g2,.inl ⟨by rw[hw];exact hg,.inr (.inl ⟨c,hS,d,fun S' h'=>hq (q S' h'),k⟩)⟩⟩
  ·rw[c]at hk;simp[Cy]at hk
  ·rw[c]at hk;simp[Cy]at hk
  ·have hc2:cy=4:=by rw[c]at hk;simpa[Cy]using hk
   subst hc2;rcases Classical.em (cC ops fr y.guard=some true)with g2|g2
   ·refine .inl ⟨g2,.inr (.inr (.inr (.inr (.inl ⟨rfl,hS,?_⟩))))⟩;obtain⟨a0,ha0⟩:=Fj S.box;have k0:eB P w0 S0 S1 4 ops y (pt fr x.dst (.v (.pointer (some ⟨a0,0,none⟩)))) ⟨(a0,cd (zD P t))::S.box,S.acc⟩ K:=k a0 ha0;rw[ey b1 b2]at k0
    have gen:∀a,gx S.box a→∃t2,y.op= .alloc t2∧dA (zD P t2)=true∧∀b,gx ((a,cd (zD P t))::S.box) b→K (pt (pt fr y.dst (.v (.pointer (some ⟨b,0,none⟩)))) x.dst (.v (.pointer (some ⟨a,0,none⟩)))) ⟨(b,cd (zD P t2))::(a,cd (zD P t))::S.box,S.acc⟩:=fun a ha=>by
     have k1:eB P w0 S0 S1 4 ops y (pt fr x.dst (.v (.pointer (some ⟨a,0,none⟩)))) ⟨(a,cd (zD P t))::S.box,S.acc⟩ K:=k a ha;rw[ey b1 b2]at k1;rcases k1 with⟨-,b⟩|⟨g3, -⟩
     ·rcases b with⟨c2, -⟩|⟨c2, -⟩|⟨c2, -⟩|⟨c2, -⟩|⟨c2, -,t2,ht2,hz2,k2⟩|⟨c2, -⟩|⟨c2, -⟩
      ·cases c2
      ·cases c2
      ·cases c2
      ·cases c2
      ·exact⟨t2,ht2,hz2,fun b hb=>k2 b hb⟩
      ·cases c2
      ·cases c2
     ·rw[g2]at g3;cases g3
    obtain⟨t2,ht2,hz2, -⟩:=gen a0 ha0;refine⟨t2,ht2,hz2,fun b hb=> .inl ⟨by rw[hw];exact hg,.inr (.inr (.inr (.inr (.inl ⟨c,Hm.cons hS _,t,ht,hz,fun a ha=>?_⟩))))⟩⟩;obtain⟨t3,ht3, -,k3⟩:=gen a ha.2.2;rw[ht2]at ht3;cases ht3;exact hK _ ⟨(b,cd (zD P t2))::(a,cd (zD P t))::S.box,S.acc⟩ _ ⟨.swap _ _ _,.refl _⟩ (k3 b ⟨fun e=>ha.2.1 e,fun e=>ha.1 e,hb⟩)
   ·obtain⟨a0,ha0⟩:=Fj S.box;have k0:eB P w0 S0 S1 4 ops y (pt fr x.dst (.v (.pointer (some ⟨a0,0,none⟩)))) ⟨(a0,cd (zD P t))::S.box,S.acc⟩ K:=k a0 ha0;rw[ey b1 b2]at k0;rcases k0 with⟨g3, -⟩|⟨g3, -⟩
    ·exact absurd g3 g2
    ·refine .inr ⟨g3,.inl ⟨by rw[hw];exact hg,.inr (.inr (.inr (.inr (.inl ⟨c,hS,t,ht,hz,fun a ha=>?_⟩))))⟩⟩;have k1:eB P w0 S0 S1 4 ops y (pt fr x.dst (.v (.pointer (some ⟨a,0,none⟩)))) ⟨(a,cd (zD P t))::S.box,S.acc⟩ K:=k a ha;rw[ey b1 b2]at k1;rcases k1 with⟨g4, -⟩|⟨g4,k1⟩
     ·exact absurd g4 g2
     ·exact k1
  ·rw[ey b1 b2]at k;have fin:∀e S',Hm S1 S'→K (pt (pt fr y.dst e) x.dst d) S'→eB P w0 S0 S1 cx ops x (pt fr y.dst e) S' K:=fun e S' h' k'=> .inl ⟨by rw[hw];exact hg,.inr (.inr (.inr (.inr (.inr (.inl ⟨c,h',d,fun S'' h''=>hq (q S'' h''),k'⟩)))))⟩;rcases k with⟨g2,k⟩|⟨g2,k⟩
   ·rcases k with⟨c2,d2,q2,k⟩|⟨c2,hS2,d2,q2,k⟩|⟨c2,q2⟩|⟨c2, -⟩|⟨c2,hS2,t2,ht2,hz2,k2⟩|⟨c2,hS2,d2,q2,k⟩|⟨c2,q2⟩
    ·exact .inl ⟨g2,.inl ⟨c2,d2,q2,fin _ _ hS k⟩⟩
    ·exact .inl ⟨g2,.inr (.inl ⟨c2,hS2,d2,q2,fin _ _ hS k⟩)⟩
    ·exact .inl ⟨g2,.inr (.inr (.inl ⟨c2,aF (fun e S' h'=>⟨h'.1,fin _ _ (hSS _ h'.1) h'.2⟩) q2⟩))⟩
    ·rw[c,c2]at hk;exact absurd hk (by decide)
    ·exact .inl ⟨g2,.inr (.inr (.inr (.inr (.inl ⟨c2,hS2,t2,ht2,hz2,fun b hb=>fin _ _ (Hm.cons hS _) (k2 b hb)⟩))))⟩
    ·exact .inl ⟨g2,.inr (.inr (.inr (.inr (.inr (.inl ⟨c2,hS2,d2,q2,fin _ _ hS k⟩)))))⟩
    ·exact .inl ⟨g2,.inr (.inr (.inr (.inr (.inr (.inr ⟨c2,aF (fun e S' h'=>⟨h'.1,fin _ _ h'.1 h'.2⟩) q2⟩)))))⟩
   ·exact .inr ⟨g2,fin _ _ hS k⟩
  ·rw[c]at hk;simp[Cy]at hk
 ·rw[ey b1 b2]at hb;exact o7 (fun e S' hk=> .inr ⟨by rw[hw];exact hg,hk⟩) hb
theorem Bh(hSS:∀T,Hm S0 T→Hm S1 T){cx cy:Nat}{x y:Oper}(hap:x.apart ops y=true)(hk:Cy cx cy=true){fr:List DV}{S:St}{K:List DV→St→Prop}(h:eB P w0 S0 S1 cx ops x fr S (PC fun fr S=>eB P w0 S0 S1 cy ops y fr S (PC K))):
 eB P w0 S0 S1 cy ops y fr S (PC fun fr S=>eB P w0 S0 S1 cx ops x fr S (PC K)):=
 da (fun fr S h=>⟨S,.refl S,h⟩) (wZ hSS hap hk (PC.PJ K) (da (fun fr S ⟨T,hp,h⟩=>D6 (PC.PJ K) _ _ _ hp h) h))
def qy(P:Program)(w0:W0)(S0 S1:St)(gs ns:List Nat)(ops:Array Oper)(i:Nat)(fr:List DV)(S:St)(K:List DV→St→Prop):Prop:=match ops[i]? with
 |none=>K fr S
 |some o=>eB P w0 S0 S1 (cls gs ns i o.op) ops o fr S K
def II(P:Program)(w0:W0)(S0 S1:St)(gs ns:List Nat)(md:Region.Mode)(ops:Array Oper)(K:List DV→St→Prop):Nat→Array Bool→List DV→St→Prop
 |0,listed,fr,S=>Region.ready md ops listed=[]∧K fr S
 |fuel+1,listed,fr,S=>(Region.ready md ops listed=[]→K fr S)∧∀i∈Region.ready md ops listed,qy P w0 S0 S1 gs ns ops i fr S (PC (II P w0 S0 S1 gs ns md ops K fuel (listed.setIfInBounds i true)))
theorem rn(hSS:∀T,Hm S0 T→Hm S1 T){gs ns D:List Nat}{K:List DV→St→Prop}{i:Nat}{oi:Oper}(hi:ops[i]? =some oi):
 ∀(fuel:Nat) (listed:Array Bool) (fr:List DV) (S:St),
  (∀j,j∈D→listed.getD j true=false∧∃oj,ops[j]? =some oj∧∃e∈oj.after,Region.binds md e=true∧(e.on=i∨e.on∈D))→
  (∀j oj,ops[j]? =some oj→j≠i→listed.getD j true=false→j∉D→oi.apart ops oj=true∧Cy (cls gs ns i oi.op) (cls gs ns j oj.op)=true)→
  (∀l:List Nat,l.Nodup→(∀k,k∈l→listed.getD k true=false)→l.length≤fuel+1)→
  i∈Region.ready md ops listed→eB P w0 S0 S1 (cls gs ns i oi.op) ops oi fr S (PC (II P w0 S0 S1 gs ns md ops K fuel (listed.setIfInBounds i true)))→II P w0 S0 S1 gs ns md ops K (fuel+1) listed fr S:=by
 intro fuel
 induction fuel with
 |zero=>
  intro listed fr S _ _ hcnt hr H;refine⟨fun h=>(by rw[h]at hr;cases hr),fun j hj=>?_⟩;by_cases hji:j=i
  ·subst hji;unfold qy;simp only[hi];exact H
  ·exfalso
   have:=hcnt [i,j] (by simp[Ne.symm hji]) fun k hk=>by
    simp only[Rv,SL,or_false]at hk;rcases hk with rfl|rfl
    ·exact(mem_ready.1 hr).1
    ·exact(mem_ready.1 hj).1
   simp at this
 |succ fuel ih=>
  intro listed fr S hD hfree hcnt hr H;refine⟨fun h=>(by rw[h]at hr;cases hr),fun j hj=>?_⟩;by_cases hji:j=i
  ·subst hji;unfold qy;simp only[hi];exact H
  ·obtain⟨hjun,oj,hoj,hall⟩:=mem_ready.1 hj
   have hlis:∀e∈oj.after,Region.binds md e=true→listed.getD e.on true=false→False:=fun e he hb h0=>by
    have h1:=hall e he hb;rcases Sj e.on listed.size with h'|h'
    ·simp[h']at h0 h1;rw[h0]at h1;cases h1
    ·simp[Ss h']at h1
   have hjD:j∉D:=fun hjD=>by
    obtain⟨_,oj',ho,e,he,hb,hor⟩:=hD j hjD;rw[hoj]at ho;cases ho;rcases hor with h|h
    ·exact hlis e he hb (by rw[h];exact(mem_ready.1 hr).1)
    ·exact hlis e he hb (hD _ h).1
   have h1:eB P w0 S0 S1 (cls gs ns i oi.op) ops oi fr S (PC fun fr S=>eB P w0 S0 S1 (cls gs ns j oj.op) ops oj fr S (PC (II P w0 S0 S1 gs ns md ops K fuel ((listed.setIfInBounds i true).setIfInBounds j true)))):=
    da (fun fr S h=>PC.mono (fun fr S h=>by
     have:=h.2 j (ready_mono hj hji);unfold qy at this;simp only[hoj]at this;exact this) h) H
   have hc:=hfree j oj hoj hji hjun hjD;have h2:=Bh hSS hc.1 hc.2 h1
   have hfree':∀k ok,ops[k]? =some ok→k≠i→(listed.setIfInBounds j true).getD k true=false→k∉D→oi.apart ops ok=true∧Cy (cls gs ns i oi.op) (cls gs ns k ok.op)=true:=fun k ok hk hki hun hno=>by
    refine hfree k ok hk hki ?_ hno;by_cases hjk:j=k
    ·subst hjk;exact hjun
    ·rw[getD_set_ne true hjk]at hun;exact hun
   have hD':∀k,k∈D→(listed.setIfInBounds j true).getD k true=false∧∃ok,ops[k]? =some ok∧∃e∈ok.after,Region.binds md e=true∧(e.on=i∨e.on∈D):=fun k hk=>by
    refine⟨?_,(hD k hk).2⟩;rw[getD_set_ne true (show j≠k from fun e=>hjD (by rw[e];exact hk))];exact(hD k hk).1
   unfold qy;simp only[hoj]
   have hcnt':∀l:List Nat,l.Nodup→(∀k,k∈l→(listed.setIfInBounds j true).getD k true=false)→l.length≤fuel+1:=by
    intro l hn hl
    have hjs:j<listed.size:=by
     rcases Sj j listed.size with h|h
     ·exact h
     ·rw[RE,Ss h]at hjun;cases hjun
    have hjl:j∉l:=fun hj=>by
     have:=hl j hj;rw[RE,RF]at this;simp[hjs]at this
    have:=hcnt (j::l) (R0.2 ⟨hjl,hn⟩) fun k hk=>by
     rcases Rv.1 hk with rfl|hk
     ·exact hjun
     ·have:=hl k hk;rw[getD_set_ne true (show j≠k from fun e=>hjl (e▸hk))]at this;exact this
    simp at this;omega
   refine da (fun fr S h=>PC.mono (fun fr S h=>ih (listed.setIfInBounds j true) fr S hD' hfree' hcnt' (ready_mono hr (Ne.symm hji)) ?_) h) h2;rw[Array.setIfInBounds_comm _ _ hji];exact h
def Pt(md:Region.Mode)(ops:Array Oper)(listed:Array Bool)(i:Nat):List Nat:=(List.range ops.size).foldl (fun D j=>match ops[j]? with
 |some oj=>if !(j==i)&&!listed.getD j true&&oj.after.any (fun e=>Region.binds md e&&(e.on==i||D.contains e.on))then j::D else D
 |none=>D) []
def vY(gs ns:List Nat)(md:Region.Mode)(ops:Array Oper)(listed:Array Bool)(i:Nat)(D:List Nat):Bool:=(D.all fun j=>!listed.getD j true&&match ops[j]? with
 |some oj=>oj.after.any (fun e=>Region.binds md e&&(e.on==i||D.contains e.on))
 |none=>false)&&(List.range ops.size).all fun j=>match ops[i]?,ops[j]? with
 |some oi,some oj=>j==i||listed.getD j true||D.contains j||(oi.apart ops oj&&Cy (cls gs ns i oi.op) (cls gs ns j oj.op))
 |_,_=>false
def Js(gs ns:List Nat)(md:Region.Mode)(ops:Array Oper)(listed:Array Bool)(i:Nat):Bool:=vY gs ns md ops listed i (Pt md ops listed i)
def w8(gs ns:List Nat)(md:Region.Mode)(ops:Array Oper):List Nat→Array Bool→Bool
 |[],listed=>(Region.ready md ops listed).isEmpty
 |k::ks,listed=>(Region.ready md ops listed).contains k&&Js gs ns md ops listed k&&w8 gs ns md ops ks (listed.setIfInBounds k true)
theorem rp{gs ns D:List Nat}{listed:Array Bool}{i:Nat}(h:vY gs ns md ops listed i D=true):∀j,j∈D→listed.getD j true=false∧∃oj,ops[j]? =some oj∧∃e∈oj.after,Region.binds md e=true∧(e.on=i∨e.on∈D):=by
 intro j hj;simp only[vY,Rm]at h;have:=RD.1 h.1 j hj;simp only[Rm,Sc]at this;refine⟨this.1,?_⟩;obtain⟨-,h2⟩:=this;split at h2
 ·rename_i oj ho;obtain⟨e,he,h3⟩:=Array.any_eq_true'.1 h2;simp only[Rm,SF,beq_iff_eq,List.contains_iff_mem]at h3;exact⟨oj,ho,e,he,h3⟩
 ·cases h2
theorem pD{gs ns D:List Nat}{listed:Array Bool}{i:Nat}{oi:Oper}(hi:ops[i]? =some oi)(h:vY gs ns md ops listed i D=true):∀j oj,ops[j]? =some oj→j≠i→listed.getD j true=false→j∉D→oi.apart ops oj=true∧Cy (cls gs ns i oi.op) (cls gs ns j oj.op)=true:=by
 intro j oj hj hji hun hno;simp only[vY,Rm]at h;have hlt:j<ops.size:=(Rq.1 hj).1;have:=RD.1 h.2 j (Si.2 hlt);simp only[hi,hj,hun,Bool.or_false,SF,beq_iff_eq,Rm,List.contains_iff_mem]at this;rcases this with(h|h)|h
 ·exact absurd h hji
 ·exact absurd h hno
 ·exact h
def LO(P:Program)(w0:W0)(S0 S1:St)(gs ns:List Nat)(ops:Array Oper)(K:List DV→St→Prop):List Nat→List DV→St→Prop
 |[],fr,S=>K fr S
 |i::is,fr,S=>match ops[i]? with
  |none=>False
  |some o=>eB P w0 S0 S1 (cls gs ns i o.op) ops o fr S (LO P w0 S0 S1 gs ns ops K is)
theorem sr(hSS:∀T,Hm S0 T→Hm S1 T){gs ns:List Nat}{K:List DV→St→Prop}:∀(l:List Nat) (listed:Array Bool) (fr:List DV) (S:St),
 (∀l':List Nat,l'.Nodup→(∀k,k∈l'→listed.getD k true=false)→l'.length≤l.length)→
 w8 gs ns md ops l listed=true→LO P w0 S0 S1 gs ns ops K l fr S→II P w0 S0 S1 gs ns md ops K l.length listed fr S
 |[],_,_,_,_,hB,h=>⟨by simpa[w8]using hB,h⟩
 |k::l,listed,fr,S,hcnt,hB,h=>by
  simp only[Ru,w8,Rm]at hB;obtain⟨⟨hr,hf⟩,hB'⟩:=hB;have hr':k∈Region.ready md ops listed:=by simpa using hr
  have hun:=(mem_ready.1 hr').1;unfold LO at h;split at h
  ·exact h.elim
  rename_i o h0;refine rn hSS h0 l.length listed fr S (rp hf) (pD h0 hf) (by simpa using hcnt) hr' ?_;refine da (fun fr S h=>⟨S,.refl S,sr hSS l _ fr S ?_ hB' h⟩) h;intro l' hn hl'
  have hks:k<listed.size:=by
   rcases Sj k listed.size with h|h
   ·exact h
   ·rw[RE,Ss h]at hun;cases hun
  have hkl:k∉l':=fun hk=>by
   have:=hl' k hk;rw[RE,RF]at this;simp[hks]at this
  have:=hcnt (k::l') (R0.2 ⟨hkl,hn⟩) fun m hm=>by
   rcases Rv.1 hm with rfl|hm
   ·exact hun
   ·have:=hl' m hm;rw[getD_set_ne true (show k≠m from fun e=>hkl (e▸hm))]at this;exact this
  simp at this;omega
theorem r8{c:Nat}{o:Oper}{fr:List DV}{S:St}{K:List DV→St→Prop}(h:jf P w0 S0 S1 c o fr S K):ae P w0 o (ev fr) S fun d S'=>K (pt fr o.dst d) S':=by
 rcases h with⟨c,d,q,k⟩|⟨c,hS,d,q,k⟩|⟨c,q⟩|⟨c,q⟩|⟨c,hS,t,ht,hz,k⟩|⟨c,hS,d,q,k⟩|⟨c,q⟩
 ·exact aF (fun d' S' h=>by rw[h.1,h.2];exact k) (q S)
 ·exact aF (fun d' S' h=>by rw[h.1,h.2];exact k) (q S hS)
 ·exact aF (fun d' S' h=>h.2) q
 ·exact q
 ·exact zx ht ⟨hz,k⟩
 ·exact aF (fun d' S' h=>by rw[h.1,h.2];exact k) (q S hS)
 ·exact aF (fun d' S' h=>h.2) q
theorem fB{gs ns:List Nat}{ro:Option Nat}{g0:Gh}{Q:Exit→List DV→St→Prop}:∀(fuel:Nat) (listed:Array Bool) (fr:List DV) (S:St) (g:Gh) (a:Act) (w:World),g0.le g→Rel w0 g S w→aa g fr a.tmps.toList→Dk w0 g a w→
 II P w0 S0 S1 gs ns md ops (fun fr S=>Q .normal fr S) fuel listed fr S→wpAnyIn (fz ro) 0 P md ops (Good w0 g0 Q) fuel listed a w
 |0,listed,fr,S,g,a,w,k,h1,h2,h3,h=>⟨h.1,k.kd h3,g,fr,S,k,h1,h2,h.2⟩
 |fuel+1,listed,fr,S,g,a,w,k,h1,h2,h3,h=>by
  refine⟨fun h0=>⟨k.kd h3,g,fr,S,k,h1,h2,h.1 h0⟩,fun i hi=>?_⟩;have hq:=h.2 i hi;unfold qy at hq;unfold wpOpIn;split
  ·rename_i ho;simp only[ho]at hq;obtain⟨T,hp,hq⟩:=hq;exact fB fuel _ fr T g a w k (hp.symm.rel h1) h2 h3 hq
  ·rename_i o ho;simp only[ho]at hq;rcases hq with⟨hw,hb⟩|⟨hw,hk⟩
   ·have hw':=fY (o:=o) h2 hw;rw[if_pos hw'];refine dF (r8 hb) h1 (fun x _=>fw h2 x) h3 k h2 fun g' d' u S' w' k1 k2 k3 k4 k5=>?_;obtain⟨T,hp,k4⟩:=k4;exact fB fuel _ _ _ g' _ _ (k.trans k1) (hp.symm.rel k2) (bM (h2.mono k1) _ k3) (k1.dk k5) k4
   ·have hw':=fY (o:=o) h2 hw;rw[if_neg (by simp[hw'])];obtain⟨T,hp,hk⟩:=hk;exact⟨fun _ _=>trivial,fB fuel _ _ _ g _ _ k (hp.symm.rel h1) (bM h2 _ (gu g)) (h3.ma (put_defers _ _ _) fun _ _ h _=>h) hk⟩
theorem lM(hSS:∀T,Hm S0 T→Hm S1 T){id:Nat}{l:List Oper}{gs ns ord:List Nat}{fr:List DV}{S:St}{Q:Exit→List DV→St→Prop}(hm:P.follows .mixedOrders=true)(hB:w8 gs ns .any l.toArray ord (Array.replicate l.length false)=true)(hO:ord.length=l.length)(h:LO P w0 S0 S1 gs ns l.toArray (fun fr S=>Q .normal fr S) ord fr S):fK P w0 (.region id l.toArray true) fr S Q:=by
 intro g a w h1 h2 h3;refine fF hm fun ro=>?_;have hR:Rel w0 g S {w with drawn:=w.drawn+1}:=h1.grow (jT w)
 have hcnt:∀l':List Nat,l'.Nodup→(∀k,k∈l'→(Array.replicate l.length false).getD k true=false)→l'.length≤ord.length:=by
  intro l' hn hl
  have hsub:∀k,k∈l'→k∈List.range l.length:=fun k hk=>by
   have:=hl k hk;rw[Si];rcases Sj k l.length with h|h
   ·exact h
   ·rw[RE,Ss (by simpa using h)]at this;cases this
  have:=hn.length_le_of_subset (l₂:=List.range l.length) hsub;rw[hO];simpa using this
 have:=sr hSS (P:=P) (w0:=w0) (S0:=S0) (S1:=S1) (md:= .any) (ops:=l.toArray) ord (Array.replicate l.length false) fr S hcnt hB h;have:=fB (ro:=ro) (g0:=g) (Q:=Q) _ _ fr S g a _ (.refl g) hR h2 (h3.ma rfl fun _ _ h _=>h) this;rw[hO]at this;simpa using this
theorem xp{m:Option (KK×DV)}{S T:St}{x y:DV}{ok:Bool}{K:DV→Prop}(hT:Has S T)(h:cL m S x y ok K):cL m T x y ok K:=by
 unfold cL at*
 cases m with
 |none=>exact h.elim
 |some p=>
  obtain⟨h1,h2⟩:=h;refine⟨h1,?_⟩
  cases hk:qx y with
  |none=>rw[hk]at h2;exact h2.elim
  |some k=>
   rw[hk]at h2;obtain⟨h3,h4⟩:=h2;refine⟨h3,?_⟩
   cases x with
   |mp l=>
    simp only at h4 ⊢
    cases hl:lk S.acc l with
    |none=>rw[hl]at h4;exact h4.elim
    |some o=>rw[hT.acc _ _ hl];rw[hl]at h4;exact h4
   |v u=>
    cases u with
    |map o=>cases o <;>exact h4
    |_=>exact h4
   |_=>exact h4
theorem Fe{k:TK}{S T:St}{x:DV}{K:DV→Prop}(hT:Has S T)(h:bX k S x K):bX k T x K:=by
 unfold bX at*;split at h
 ·split at h
  ·rename_i ds hb;simp only[hT.box _ _ hb];exact h
  ·exact h.elim
 ·exact h
 ·split at h
  ·rename_i hb;simp only[hT.acc _ _ hb];exact h
  ·rename_i hb;simp only[hT.acc _ _ hb];exact h
  ·exact h.elim
 ·exact h.elim
end
def QO(P:Program)(w0:W0)(S0:St)(f:FuncId)(ds:List DV)[K:Cn (DV→Prop)]:Prop:=∃d,(∀T,Has S0 T→ab P w0 f ds T fun d' S'=>d'=d∧S'=T)∧K.k d
def lO(P:Program)(w0:W0)(S0:St)(cal:DV)(ds:List DV)(K:DV→Prop):Prop:=match cal with
 | .v (.func (.func f) a cap)=>a.size=0∧okF P f=true∧cap.toList.all (fun u=>u.oneCell')=true∧ds.all eG=true∧@QO P w0 S0 f (ds++cap.toList.map .v) ⟨K⟩
 |_=>False
def qh(P:Program)(w0:W0)(S0:St)(op:Op)(fr:List DV)(S:St)(K:DV→St→Prop):Prop:=match op with
 | .load t x=>Has S0 S∧bX (tk P t) S0 (ev fr x) (K · S)
 | .call ⟨.value cal,args,_⟩=>Has S0 S∧lO P w0 S0 (ev fr cal) (args.toList.map (ev fr)) (K · S)
 | .alloc t=>Has S0 S∧dA (zD P t)=true∧Gs S (zD P t) K
 | .lookup t x y ok=>Has S0 S∧cL (nT P t) S0 (ev fr x) (ev fr y) ok (K · S)
 |op=>cD (Z.kX op==0) (BV P w0 op fr S (K · S)) (aL P w0 op fr S K)
def NK(P:Program)(w0:W0)(S0 S1:St)(gs ns:List Nat)(i:Nat)(op:Op)(fr:List DV)(S:St)(K:DV→St→Prop):Prop:=
 cD (gs.contains i) (aL P w0 op fr S fun d S'=>Has S0 S'∧K d S') (cD (ns.contains i) (aL P w0 op fr S fun d S'=>Has S1 S'∧K d S') (cD (ns.contains (i+1000)) (kY op=1∧qh P w0 S1 op fr S K) (qh P w0 S0 op fr S K)))
def rf(P:Program)(w0:W0)(S0 S1:St)(gs ns:List Nat)(ops:Array Oper)(K:List DV→St→Prop)(oo:Option Oper)(i:Nat)(fr:List DV)(S:St):Prop:=match oo with
 |none=>False
 |some o=>bl ops fr o.guard (fun fr=>NK P w0 S0 S1 gs ns i o.op fr S fun d S'=>K (pt fr o.dst d) S') (fun fr=>K (pt fr o.dst ud) S)
def iR(P:Program)(w0:W0)(S0 S1:St)(gs ns:List Nat)(ops:Array Oper)(K:List DV→St→Prop):List Nat→List DV→St→Prop
 |[],fr,S=>K fr S
 |i::is,fr,S=>rf P w0 S0 S1 gs ns ops (iR P w0 S0 S1 gs ns ops K is) ops[i]? i fr S
section
variable {P:Program} {w0:W0} {S0 S1:St} {ops:Array Oper} {md:Region.Mode}
theorem Fm{S0:St}{o:Oper}{fr:List DV}{d:DV}(q:∀T,Has S0 T→QY P w0 T o fr d)(T:St)(hT:Hm S0 T):QY P w0 T o fr d:=fun g w ρ r=>q T (hT.has r) g w ρ r
theorem lx{S0:St}{o:Oper}{fr:List DV}{S:St}{K:List DV→St→Prop}(hs:eE o.op=true)(hk:kY o.op=1)(h:qh P w0 S0 o.op fr S fun d S'=>K (pt fr o.dst d) S'):1=1∧Hm S0 S∧∃d,(∀S',Hm S0 S'→QY P w0 S' o fr d)∧K (pt fr o.dst d) S:=by
 cases hop:o.op with
 |load t x=>
  rw[hop]at h hs;obtain⟨hS,h⟩:=h;obtain⟨d,q1,q2⟩:=uK (show bX (tk P t) S0 (ev fr x) (fun d=>K (pt fr o.dst d) S)from h);refine⟨rfl,.of hS,d,Fm fun T hT=>?_,q2⟩;exact ct (by rw[hop];exact hs) (by rw[hop];simpa[aL]using Fe hT q1)
 |call c=>
  obtain⟨callee,args,ts⟩:=c
  cases callee with
  |value cal=>
   rw[hop]at h hs;obtain⟨hS,h⟩:=h;simp only[lO]at h;split at h
   ·rename_i f a cap hcal;obtain⟨h1,h2,h3,h4,d,h5,h6⟩:=h;refine⟨rfl,.of hS,d,Fm fun T hT=>?_,h6⟩;exact ct (by rw[hop];exact hs) (by rw[hop];simp only[aL,hcal];exact v7 h1 h3 (by rw[h2,J0];exact oT h4 (h5 T hT)))
   ·exact h.elim
  |builtin b=>rw[hop]at hk;cases b <;>cases hk
  |invoke r m=>rw[hop]at hk;cases hk
 |lookup t x y ok=>
  rw[hop]at h hs;obtain⟨hS,h⟩:=h;obtain⟨d,q1,q2⟩:=oP (show cL (nT P t) S0 (ev fr x) (ev fr y) ok (fun d=>K (pt fr o.dst d) S)from h);refine⟨rfl,.of hS,d,Fm fun T hT=>?_,q2⟩;exact ct (by rw[hop];exact hs) (by rw[hop];simpa[aL]using xp hT q1)
 |_=>rw[hop]at hk;cases hk
theorem Ci{gs ns:List Nat}{i:Nat}{o:Oper}{fr:List DV}{S:St}{K:List DV→St→Prop}(hs:eE o.op=true)(h:NK P w0 S0 S1 gs ns i o.op fr S fun d S'=>K (pt fr o.dst d) S'):jf P w0 S0 S1 (cls gs ns i o.op) o fr S K:=by
 unfold NK at h
 cases hg:gs.contains i with
 |true=>
  rw[hg]at h;have hc:cls gs ns i o.op=2:=by unfold cls;rw[if_pos hg]
  rw[hc];have h':aL P w0 o.op fr S fun d S'=>Has S0 S'∧K (pt fr o.dst d) S':=h;exact .inr (.inr (.inl ⟨rfl,aF (fun d S' hk=>⟨.of hk.1,hk.2⟩) (ct hs h')⟩))
 |false=>
  rw[hg]at h
  cases hn:ns.contains i with
  |true=>
   rw[hn]at h;have hc:cls gs ns i o.op=6:=by unfold cls;rw[if_neg (by rw[hg];simp),if_pos hn]
   rw[hc];have h':aL P w0 o.op fr S fun d S'=>Has S1 S'∧K (pt fr o.dst d) S':=h;exact .inr (.inr (.inr (.inr (.inr (.inr ⟨rfl,aF (fun d S' hk=>⟨.of hk.1,hk.2⟩) (ct hs h')⟩)))))
  |false=>
   rw[hn]at h
   cases hm:ns.contains (i+1000)with
   |true=>
    rw[hm]at h;have hc:cls gs ns i o.op=5:=by unfold cls;rw[if_neg (by rw[hg];simp),if_neg (by rw[hn];simp),if_pos hm]
    rw[hc];obtain⟨h1,h⟩:kY o.op=1∧qh P w0 S1 o.op fr S fun d S'=>K (pt fr o.dst d) S':=h;obtain⟨-,hS,d,q,k⟩:=lx hs h1 h;exact .inr (.inr (.inr (.inr (.inr (.inl ⟨rfl,hS,d,q,k⟩)))))
   |false=>
   rw[hm]at h;have hc:cls gs ns i o.op=(match kY o.op with|0=>0|1=>1|2=>4|_=>3):=by unfold cls;rw[if_neg (by rw[hg];simp),if_neg (by rw[hn];simp),if_neg (by rw[hm];simp)]
   rw[hc];replace h:qh P w0 S0 o.op fr S fun d S'=>K (pt fr o.dst d) S':=h
   have gen:∀(h:cD (Z.kX o.op==0) (BV P w0 o.op fr S fun d=>K (pt fr o.dst d) S) (aL P w0 o.op fr S fun d S'=>K (pt fr o.dst d) S')),Z.kX o.op=0∨Z.kX o.op=3→kY o.op=Z.kX o.op→jf P w0 S0 S1 (match kY o.op with|0=>0|1=>1|2=>4|_=>3) o fr S K:=by
    intro h hk hkk;rw[hkk];rcases hk with hk|hk
    ·rw[hk]at h ⊢;obtain⟨d,q1,q2⟩:=Z.AS hk (show BV P w0 o.op fr S fun d=>K (pt fr o.dst d) S from h)
     exact .inl ⟨rfl,d,fun S'=>by
      obtain⟨d',k1,k2⟩:=BQ hs (q1 S');subst k2;exact k1,q2⟩
    ·rw[hk]at h ⊢;exact .inr (.inr (.inr (.inl ⟨rfl,ct hs h⟩)))
   cases hop:o.op with
   |load t x=>
    have h1:kY o.op=1:=by rw[hop];rfl
    obtain⟨-,hS,d,q,k⟩:=lx hs h1 h;exact .inr (.inl ⟨rfl,hS,d,q,k⟩)
   |alloc t=>
    rw[hop]at h;exact .inr (.inr (.inr (.inr (.inl ⟨rfl,.of h.1,t,hop,h.2.1,h.2.2⟩))))
   |call c=>
    obtain⟨callee,args,ts⟩:=c
    cases callee with
    |value cal=>
     have h1:kY o.op=1:=by rw[hop];rfl
     obtain⟨-,hS,d,q,k⟩:=lx hs h1 h;exact .inr (.inl ⟨rfl,hS,d,q,k⟩)
    |builtin b=>
     rw[←hop];refine gen (by rw[hop]at h ⊢;exact h) ?_ (by rw[hop];rfl);rw[hop];cases b <;>first|exact .inl rfl|exact .inr rfl
    |invoke r m=>
     rw[←hop];refine gen (by rw[hop]at h ⊢;exact h) ?_ (by rw[hop];rfl);rw[hop];exact .inr rfl
   |lookup t x y ok=>
    have h1:kY o.op=1:=by rw[hop];rfl
    obtain⟨-,hS,d,q,k⟩:=lx hs h1 h;exact .inr (.inl ⟨rfl,hS,d,q,k⟩)
   |_=>rw[←hop];refine gen (by rw[hop]at h ⊢;exact h) ?_ (by rw[hop];rfl);rw[hop];first|exact .inl rfl|exact .inr rfl
theorem cr{gs ns:List Nat}{K:List DV→St→Prop}(hs:∀(i:Nat) (o:Oper),ops[i]? =some o→eE o.op=true):∀(l:List Nat) {fr:List DV} {S:St},iR P w0 S0 S1 gs ns ops K l fr S→LO P w0 S0 S1 gs ns ops K l fr S
 |[],fr,S,h=>h
 |i::is,fr,S,h=>by
  unfold iR rf at h;unfold LO
  cases ho:ops[i]? with
  |none=>rw[ho]at h;exact h
  |some o=>
   rw[ho]at h;simp only at h ⊢;rcases mB h with⟨hw,ha⟩|⟨hw,hb⟩
   ·exact .inl ⟨hw,p7 (fun fr S h=>cr hs is h) (Ci (hs i o ho) ha)⟩
   ·exact .inr ⟨hw,cr hs is hb⟩
def Mn(l:List Oper)(gs ns ord:List Nat):Bool:=l.all (fun o=>eE o.op)&&w8 gs ns .any l.toArray ord (Array.replicate l.length false)&&(ord.length==l.length)
theorem Ib(gs ns ord:List Nat){id:Nat}{l:List Oper}{fr:List DV}{S:St}{Q:Exit→List DV→St→Prop}(hm:P.follows .mixedOrders=true)(hB:Mn l gs ns ord=true)(h:iR P w0 S ⟨[],[]⟩ gs ns l.toArray (fun fr S=>fP fr fun fr=>Q .normal fr S) ord fr S):fK P w0 (.region id l.toArray true) fr S Q:=by
 simp only[Mn,Rm,beq_iff_eq]at hB;refine lM (fun T _=>gq T) hm hB.1.2 hB.2 (cr (fun i o ho=>?_) ord h);have:l[i]? =some o:=by simpa using ho
 exact RD.1 hB.1.1 o (Rj this)
theorem u1(S0 S1:St)(gs ns ord:List Nat){id:Nat}{l:List Oper}{fr:List DV}{S:St}{Q:Exit→List DV→St→Prop}(hm:P.follows .mixedOrders=true)(hB:Mn l gs ns ord=true)(hSS:∀T,Hm S0 T→Hm S1 T)(h:iR P w0 S0 S1 gs ns l.toArray (fun fr S=>fP fr fun fr=>Q .normal fr S) ord fr S):fK P w0 (.region id l.toArray true) fr S Q:=by
 simp only[Mn,Rm,beq_iff_eq]at hB;refine lM hSS hm hB.1.2 hB.2 (cr (fun i o ho=>?_) ord h);have:l[i]? =some o:=by simpa using ho
 exact RD.1 hB.1.1 o (Rj this)
def y0:List Nat→Nat→Prop
 |[],_=>False
 |a::L,b=>a=b∨y0 L b
noncomputable def Bd(L:List Nat)(S:St):St:=⟨S.box.filter fun p=>@decide (¬y0 L p.1) (Classical.propDecidable _),S.acc⟩
theorem j5{L:List Nat}{S:St}{b:Nat}(h:¬y0 L b):lk (Bd L S).box b=lk S.box b:=by
 obtain⟨B,A⟩:=S;show lk (B.filter _) b=lk B b
 induction B with
 |nil=>rfl
 |cons p B ih=>
  obtain⟨k,x⟩:=p;rw[TC];split
  ·simp only[lk,ih]
  ·rename_i hn;have hk:¬k=b:=fun e=>hn (by subst e;exact @decide_eq_true _ (Classical.propDecidable _) h);rw[ih];simp only[lk,if_neg hk]
theorem gC{L:List Nat}{S:St}{b:Nat}(h:y0 L b):lk (Bd L S).box b=none:=by
 obtain⟨B,A⟩:=S;show lk (B.filter _) b=none
 induction B with
 |nil=>rfl
 |cons p B ih=>
  obtain⟨k,x⟩:=p;rw[TC];split
  ·rename_i hn
   have hk:¬k=b:=fun e=>by
    subst e;exact(@of_decide_eq_true _ (Classical.propDecidable _) hn) h
   simp only[lk,if_neg hk];exact ih
  ·exact ih
theorem HG(L:List Nat)(S:St):Has (Bd L S) S:=⟨fun b x hb=>by
 by_cases h:y0 L b
 ·rw[gC h]at hb;cases hb
 ·rwa [j5 h]at hb,fun l o hl=>hl⟩
theorem MM(L gs ns ord:List Nat){id:Nat}{l:List Oper}{fr:List DV}{S:St}{Q:Exit→List DV→St→Prop}(hm:P.follows .mixedOrders=true)(hB:Mn l gs ns ord=true)(h:iR P w0 (Bd L S) ⟨[],[]⟩ gs ns l.toArray (fun fr S=>fP fr fun fr=>Q .normal fr S) ord fr S):fK P w0 (.region id l.toArray true) fr S Q:=by
 simp only[Mn,Rm,beq_iff_eq]at hB;refine lM (fun T _=>gq T) hm hB.1.2 hB.2 (cr (fun i o ho=>?_) ord h);have:l[i]? =some o:=by simpa using ho
 exact RD.1 hB.1.1 o (Rj this)
theorem Nr{f:FuncId}{args args':List DV}{K:DV→Prop}{r:DV}(h:∀T,Has S0 T→ab P w0 f args' T (fun d S'=>d=r∧S'=T))(hk:K r)(ha:eR args args':=by exact eR.refl _):@QO P w0 S0 f args ⟨K⟩:=
 ⟨r,fun T hT=>mh (h T hT) ha ⟨rfl,rfl⟩,hk⟩
end
section
variable {P:Program} {w0:W0} {S0 S1:St} {gs ns:List Nat} {ops:Array Oper} {fr:List DV} {S:St} {dst:Option Tmp} {op:Op} {ty:TypeId} {pos:String} {aft:Array Edge}
section
variable {K:List DV→St→Prop}
theorem Nq:iR P w0 S0 S1 gs ns ops K [] fr S=K fr S:=rfl
theorem J7(i:Nat)(is:List Nat):iR P w0 S0 S1 gs ns ops K (i::is) fr S=rf P w0 S0 S1 gs ns ops (iR P w0 S0 S1 gs ns ops K is) ops[i]? i fr S:=rfl
@[congr] theorem OF {oo oo':Option Oper} {i:Nat} (h:oo=oo'):rf P w0 S0 S1 gs ns ops K oo i fr S=rf P w0 S0 S1 gs ns ops K oo' i fr S:=by cases h;rfl
theorem JO(i:Nat):rf P w0 S0 S1 gs ns ops K (some ⟨dst,op,ty,pos,aft,none⟩) i fr S=NK P w0 S0 S1 gs ns i op fr S fun d S'=>K (pt fr dst d) S':=rfl
end
variable {K:DV→St→Prop}
theorem Pl(i:Nat):NK P w0 S0 S1 gs ns i op fr S K=cD (gs.contains i) (aL P w0 op fr S fun d S'=>Has S0 S'∧K d S') (cD (ns.contains i) (aL P w0 op fr S fun d S'=>Has S1 S'∧K d S') (cD (ns.contains (i+1000)) (kY op=1∧qh P w0 S1 op fr S K) (qh P w0 S0 op fr S K))):=rfl
theorem KB(t:TypeId)(x:Operand):qh P w0 S0 (.load t x) fr S K=(Has S0 S∧bX (tk P t) S0 (ev fr x) (K · S)):=rfl
theorem Iz(t:TypeId):qh P w0 S0 (.alloc t) fr S K=(Has S0 S∧dA (zD P t)=true∧Gs S (zD P t) K):=rfl
theorem Lc(cal:Operand)(a:List Operand)(ts:Array TypeId):qh P w0 S0 (.call ⟨.value cal,a.toArray,ts⟩) fr S K=(Has S0 S∧lO P w0 S0 (ev fr cal) (a.map (ev fr)) (K · S)):=rfl
theorem GB(f:FuncId)(a cap:Array Value)(ds:List DV)(K:DV→Prop):lO P w0 S0 (.v (.func (.func f) a cap)) ds K=(a.size=0∧okF P f=true∧cap.toList.all (fun u=>u.oneCell')=true∧ds.all eG=true∧@QO P w0 S0 f (ds++cap.toList.map .v) ⟨K⟩):=rfl
@[congr] theorem NP {cal cal':DV} {ds ds':List DV} {K:DV→Prop} (h1:cal=cal') (h2:ds=ds'):lO P w0 S0 cal ds K=lO P w0 S0 cal' ds' K:=by cases h1;cases h2;rfl
theorem JQ(x:Operand):qh P w0 S0 (.move x) fr S K=aX P w0 (.move x) fr S (K · S):=rfl
theorem Ed(x:Operand):qh P w0 S0 (.assign x) fr S K=aX P w0 (.assign x) fr S (K · S):=rfl
theorem uh(t:TypeId)(x:Operand)(f:Nat):qh P w0 S0 (.fieldAddr t x f) fr S K=aX P w0 (.fieldAddr t x f) fr S (K · S):=rfl
theorem ua(t:TypeId)(x i:Operand):qh P w0 S0 (.indexAddr t x i) fr S K=aX P w0 (.indexAddr t x i) fr S (K · S):=rfl
theorem xF(x:Operand):qh P w0 S0 (.nilCheck x) fr S K=aX P w0 (.nilCheck x) fr S (K · S):=rfl
theorem Il(b:BinOp)(t:TypeId)(x y:Operand)(t':TypeId):qh P w0 S0 (.binOp b t x y t') fr S K=aX P w0 (.binOp b t x y t') fr S (K · S):=rfl
theorem yd(fn:Fn)(a b:Array Operand):qh P w0 S0 (.makeFunc fn a b) fr S K=aX P w0 (.makeFunc fn a b) fr S (K · S):=rfl
theorem Ht(t:TypeId)(parts:Array (Nat×Operand)):qh P w0 S0 (.build t parts) fr S K=aX P w0 (.build t parts) fr S (K · S):=rfl
theorem r9(t:TypeId)(len:Nat)(parts:Array (Nat×Operand)):qh P w0 S0 (.buildSlice t len parts) fr S K=aX P w0 (.buildSlice t len parts) fr S (K · S):=rfl
theorem Gz(t:TypeId)(x y:Operand):qh P w0 S0 (.store t x y) fr S K=aL P w0 (.store t x y) fr S K:=rfl
theorem Hq(a:Array Operand)(ts:Array TypeId):qh P w0 S0 (.call ⟨.builtin .len,a,ts⟩) fr S K=aX P w0 (.call ⟨.builtin .len,a,ts⟩) fr S (K · S):=rfl
theorem Iu(S:St):Has ⟨[],[]⟩ S=True:=eq_true ⟨fun b x h=>(by cases h),fun l o h=>(by cases h)⟩
theorem Hr(t:TypeId)(x:Operand):(kY (.load t x)=1)=True:=eq_true rfl
theorem E3(S:St):Has S S=True:=eq_true (.refl S)
theorem IQ{S0:St}{B:List (Nat×List DV)}{A:List (Nat×Ob)}(b:Nat)(v:List DV)(hb:lk S0.box b=none)(h:Has S0 ⟨B,A⟩):Has S0 ⟨(b,v)::B,A⟩=True:=eq_true ⟨fun c x hc=>by
 have h1:=h.box c x hc;show lk ((b,v)::B) c=some x;rw[sR (fun e=>by rw[←e,hb]at hc;cases hc)];exact h1,h.acc⟩
theorem HV{S0:St}{B:List (Nat×List DV)}{A:List (Nat×Ob)}(l:Nat)(v:Ob)(hb:lk S0.acc l=none)(h:Has S0 ⟨B,A⟩):Has S0 ⟨B,(l,v)::A⟩=True:=eq_true ⟨h.box,fun c x hc=>by
 have h1:=h.acc c x hc;show lk ((l,v)::A) c=some x;rw[sR (fun e=>by rw[←e,hb]at hc;cases hc)];exact h1⟩
theorem I9(b:Nat):y0 [] b=False:=rfl
theorem EX(a:Nat)(L:List Nat)(b:Nat):y0 (a::L) b=(a=b∨y0 L b):=rfl
theorem FW(L:List Nat)(S:St):Has (Bd L S) S=True:=eq_true (HG L S)
theorem Ga{L:List Nat}{B B':List (Nat×List DV)}{A A':List (Nat×Ob)}(h:Has (Bd L ⟨B,A⟩) ⟨B',A'⟩){c:Nat}{x:List DV}(hc:¬y0 L c)(hx:lk B c=some x):lk B' c=some x:=
 h.box c x (by rw[j5 hc];exact hx)
theorem Dx{L:List Nat}{B B':List (Nat×List DV)}{A A':List (Nat×Ob)}(b:Nat)(v:List DV)(h:Has (Bd L ⟨B,A⟩) ⟨B',A'⟩):Has (Bd L ⟨(b,v)::B,A⟩) ⟨(b,v)::B',A'⟩=True:=eq_true ⟨fun c x hc=>by
 by_cases hL:y0 L c
 ·rw[gC hL]at hc;cases hc
 ·rw[j5 hL]at hc;show lk ((b,v)::B') c=some x;simp only[lk]at hc ⊢;split
  ·rename_i e;rw[if_pos e]at hc;exact hc
  ·rename_i e;rw[if_neg e]at hc;exact Ga h hL hc,h.acc⟩
theorem Ai{L:List Nat}{B B':List (Nat×List DV)}{A A':List (Nat×Ob)}(b:Nat)(v w:List DV)(hi:y0 L b)(h:Has (Bd L ⟨B,A⟩) ⟨B',A'⟩):Has (Bd L ⟨(b,v)::B,A⟩) ⟨(b,w)::B',A'⟩=True:=eq_true ⟨fun c x hc=>by
 by_cases hL:y0 L c
 ·rw[gC hL]at hc;cases hc
 ·rw[j5 hL]at hc;have hne:¬b=c:=fun e=>hL (e▸hi);show lk ((b,w)::B') c=some x;simp only[lk,if_neg hne]at hc ⊢;exact Ga h hL hc,h.acc⟩
def Oi{α:Type}(l' l:List (Nat×α)):Prop:=∃p,l=p++l'
theorem Ex{α:Type}(l:List (Nat×α)):Oi l l=True:=eq_true ⟨[],rfl⟩
theorem FY{α:Type}(x:Nat×α)(l' l:List (Nat×α))(h:Oi l' l):Oi l' (x::l)=True:=eq_true (let⟨p,e⟩:=h;⟨x::p,by rw[e];rfl⟩)
theorem KO{α:Type}{l' l:List (Nat×α)}(b:FN l)(h:Oi l' l):lk l' b.n=none:=by
 obtain⟨p,e⟩:=h;subst e;refine pf (bN fun q hq=>kP b.h q (List.mem_append_right _ hq))
end
attribute [go_sem ↓] Nq J7 Pl KB Iz Lc GB JQ Ed uh ua xF Il yd Ht r9 Gz Hq
attribute [go_sem] JO Iu Hr E3 IQ HV Ex FY KO I9 EX FW Dx Ai j5 gC
end Aml.Y
namespace Aml
open Go Go.RowKit
def del(L:List (Nat×Ob))(n:Nat):List (Nat×Ob):=L.filter fun p=>p.1 !=n
theorem zR{L:List (Nat×Ob)}{n:Nat}{p:Nat×Ob}:p∈del L n↔p∈L∧p.1≠n:=by unfold del;simp
theorem E6{L:List (Nat×Ob)}{n:Nat}(h:∀p,p∈L→p.1≠n):del L n=L:=List.filter_eq_self.2 fun p hp=>by simpa using h p hp
theorem uM{n:Nat}{p:Nat×Ob}{o:Ob}:∀{L:List (Nat×Ob)},(L.map (·.1)).Nodup→lk L n=some o→(tJ L n p).Perm (p::del L n)
 |[],_,h=>by cases h
 |(k,x)::t,hn,h=>by
  simp only[Rz,R0]at hn;simp only[lk]at h;simp only[tJ];split
  ·rename_i e;subst e
   have h1:del ((k,x)::t) k=t:=by
    have h2:del t k=t:=E6 fun q hq e=>hn.1 (by rw[←e];exact Sl hq);unfold del at*;rw[TJ (by simp)];exact h2
   rw[h1]
  ·rename_i e;rw[if_neg e]at h;have h1:del ((k,x)::t) n=(k,x)::del t n:=by unfold del;rw[List.filter_cons_of_pos (by simpa using e)]
   rw[h1];exact((uM hn.2 h).cons _).trans (.swap _ _ _)
def IT(s:Nat)(xs:List DV):Prop:=∀d,d∈xs→dA d=true∧(cd d).length=s
def Bl(s c:Nat)(xs:List DV):List DV:=xs.flatMap cd++List.replicate ((c-xs.length)*s) .any
theorem y7{s:Nat}:∀{xs:List DV},IT s xs→(xs.flatMap cd).length=xs.length*s
 |[],_=>by simp
 |d::xs,h=>by
  rw[Sd,Rk,y7 fun x hx=>h x (Rr _ hx),(h d Rx).2,Ru,Sr];omega
theorem DY{s c:Nat}{xs:List DV}(h:IT s xs)(hc:xs.length≤c):(Bl s c xs).length=c*s:=by
 unfold Bl;rw[Rk,y7 h,List.length_replicate,←Ta];congr 1;omega
section
variable {P:Program} {w0:W0}
theorem Rel.Nx{g:Gh}{S:St}{w:World}(h:Rel w0 g S w){l s:Nat}{xs:List DV}(hl:lk S.acc l=some (.arr s xs))(hn:xs≠[])(he:IT s xs):
 ∃b c,g.acc l xs.length=some (.slice (some ⟨b,0,none⟩) xs.length c)∧xs.length≤c∧c≤maxLen∧gx S.box b∧Rel w0 g ⟨(b,Bl s c xs)::S.box,del S.acc l⟩ w:=by
 obtain⟨ow,h⟩:=h.open_;have hmem:=bd hl;obtain⟨hs,⟨he0,_⟩|⟨b,c,cs,e,h1,h2,h3,h4,h5,h6,h7,h8,hA,us,h9,h10,h11,h12⟩⟩:=h.acc l _ hmem
 ·exact absurd he0 hn
 have hbn:∀p,p∈S.box→p.1≠b:=by
  rintro⟨b',ds⟩ hp rfl;have:=(h.box _ _ hp).1;rw[h2]at this;cases this
 refine⟨b,c,h1,h7,h8,bN hbn,dc.close (ow:=fun k=>if k=b then some (.b b)else ow k) ⟨h.below,h.aO,?_,?_,h.df,h.fresh,fun l' o' hl'=>h.top l' o' (zR.1 hl').1,?_,?_,?_⟩⟩
 ·simp only[Rz,R0];exact⟨fun hm=>by obtain⟨p,hp,e⟩:=RI.1 hm;exact hbn p hp e,h.nb⟩
 ·exact List.Sublist.nodup ((List.filter_sublist).map _) h.na
 ·intro b' ds hb';rcases Rv.1 hb' with e'|hb'
  ·cases e';refine⟨if_pos rfl,h3,h4,cs,e,h5,?_,hA⟩;have hfl:(fl us).length=xs.length*s:=by rw[dR h10,h9.len]
   have hcs:cs.toList=fl us++cs.toList.drop (xs.length*s):=by
    apply Sh;intro k;rcases Sj k (xs.length*s)with hk|hk
    ·rw[RV (by omega)];obtain⟨v,hv⟩:∃v,(fl us)[k]? =some v:=⟨_,so (by omega)⟩;obtain⟨i,u,j,q1,q2,rfl⟩:=yE h10 hv;rw[hv,Sk];exact h12 i u j v q1 q2
    ·rw[RO (by omega),hfl,Sq];congr 1;omega
   rw[hcs];unfold Bl;refine(jo h9 fun d hd=>(he d hd).1).append ?_;have:(cs.toList.drop (xs.length*s)).length=(c-xs.length)*s:=by rw[RP,RT,h6,Nat.sub_mul]
   rw[←this];exact mn g _
  ·have hne:b'≠b:=hbn _ hb';exact(h.box b' ds hb').step (.refl g) fun ho=>⟨(if_neg hne).trans ho,rfl,fun _ hi=>hi⟩
 ·intro l' o' hl';obtain⟨hm,hne⟩:=zR.1 hl';refine(h.acc l' o' hm).step (.refl g) fun b' ho=>⟨?_,rfl,fun _ hi=>hi⟩
  have:b'≠b:=by
   rintro rfl;rw[h2]at ho;cases ho;exact hne rfl
  rw[if_neg this];exact ho
 ·intro b' k hk;split at hk
  ·rename_i e';subst e';exact lt_of_heap h5
  ·exact h.iJ _ _ hk
theorem zT{g:Gh}{s:Nat}(hs:0<s):∀{ys:List DV} {us:List Value},aa g (ys.flatMap cd) us→(∀u,u∈us→u.oneCell'=true)→IT s ys→
 ∃vs,aa g ys vs∧(∀(i:Nat) (u:Value),vs[i]? =some u→u.cells.size=s)∧(∀(u:Value),u∈vs→∀x,x∈u.cells.toList→x.oneCell'=true)∧fl vs=us
 |[],us,h,_,_=>by
  have:us=[]:=Rs (by have:=h.len;simpa using this.symm);subst this;exact⟨[],aa.nil g,by simp,by simp,rfl⟩
 |d::ys,us,h,h1,he=>by
  obtain⟨hok,hlen⟩:=he d Rx
  have hs1:aa g (cd d) (us.take s):=by
   have:=h.take s
   rwa [Sd,List.take_append_of_le_length (by omega),RN (by omega)]at this
  have hs2:aa g (ys.flatMap cd) (us.drop s):=by
   have:=h.drop s
   rwa [Sd,List.drop_append_of_le_length (by omega),List.drop_eq_nil_of_le (by omega),Sb]at this
  obtain⟨vs,q1,q2,q3,q4⟩:=zT hs hs2 (fun u hu=>h1 u (Sa hu)) fun x hx=>he x (Rr _ hx)
  obtain⟨v,r1,r2⟩:∃v,aA g d v∧v.cells.toList=us.take s:=by
   have hone:∀u,u∈us.take s→u.oneCell'=true:=fun u hu=>h1 u (RY hu);generalize us.take s=ts at*
   cases d with
   |agg ds=>exact⟨.agg ts.toArray,.agg ds ts hs1.len hs1.at_ hone,by simp[Value.cells]⟩
   |any=>cases hok
   |bU ds=>cases hok
   |v u0=>
    obtain⟨u,us',rfl,a1,a2⟩:=hs1.ba;have:us'=[]:=Rs (by have:=a2.len;simpa using this.symm);subst this;exact⟨u,a1,by have:=hone u Rx;cases u <;>simp_all [Value.cells,Value.oneCell']⟩
   |sl a b c=>
    obtain⟨u,us',rfl,a1,a2⟩:=hs1.ba;have:us'=[]:=Rs (by have:=a2.len;simpa using this.symm);subst this;exact⟨u,a1,by have:=hone u Rx;cases u <;>simp_all [Value.cells,Value.oneCell']⟩
   |fN a b=>
    obtain⟨u,us',rfl,a1,a2⟩:=hs1.ba;have:us'=[]:=Rs (by have:=a2.len;simpa using this.symm);subst this;exact⟨u,a1,by have:=hone u Rx;cases u <;>simp_all [Value.cells,Value.oneCell']⟩
   |acc a b=>
    obtain⟨u,us',rfl,a1,a2⟩:=hs1.ba;have:us'=[]:=Rs (by have:=a2.len;simpa using this.symm);subst this;exact⟨u,a1,by have:=hone u Rx;cases u <;>simp_all [Value.cells,Value.oneCell']⟩
   |ip a=>
    obtain⟨u,us',rfl,a1,a2⟩:=hs1.ba;have:us'=[]:=Rs (by have:=a2.len;simpa using this.symm);subst this;exact⟨u,a1,by have:=hone u Rx;cases u <;>simp_all [Value.cells,Value.oneCell']⟩
   |ap a b c d e=>
    obtain⟨u,us',rfl,a1,a2⟩:=hs1.ba;have:us'=[]:=Rs (by have:=a2.len;simpa using this.symm);subst this;exact⟨u,a1,by have:=hone u Rx;cases u <;>simp_all [Value.cells,Value.oneCell']⟩
   |mp a=>
    obtain⟨u,us',rfl,a1,a2⟩:=hs1.ba;have:us'=[]:=Rs (by have:=a2.len;simpa using this.symm);subst this;exact⟨u,a1,by have:=hone u Rx;cases u <;>simp_all [Value.cells,Value.oneCell']⟩
   |it a=>
    obtain⟨u,us',rfl,a1,a2⟩:=hs1.ba;have:us'=[]:=Rs (by have:=a2.len;simpa using this.symm);subst this;exact⟨u,a1,by have:=hone u Rx;cases u <;>simp_all [Value.cells,Value.oneCell']⟩
  have hul:(us.take s).length=s:=by have:=hs1.len;omega
  refine⟨v::vs,q1.cons r1,?_,?_,?_⟩
  ·intro i u hu
   cases i with
   |zero=>simp at hu;subst hu;rw[←RT,r2,hul]
   |succ i=>exact q2 i u (by simpa using hu)
  ·intro u hu x hx;rcases Rv.1 hu with rfl|hu
   ·rw[r2]at hx;exact h1 x (RY hx)
   ·exact q3 u hu x hx
  ·show v.cells.toList++fl vs=us;rw[r2,q4,SC]
theorem Rel.JN{g:Gh}{S:St}{w:World}(h:Rel w0 g S w){b s c:Nat}{ds ys:List DV}(hb:lk S.box b=some ds)(hs:0<s)(he:IT s ys)(hds:ds.take (ys.length*s)=ys.flatMap cd)(hdl:ds.length=c*s)(hc:ys.length≤c)(hcm:c≤maxLen)(L:List (Nat×Ob)):
 ∃m g',g.le g'∧(∀p,p∈S.acc→p.1≠m)∧(∀p,p∈L→p.1≠m)∧Rel w0 g' ⟨S.box.filter (fun p=>p.1 !=b),(m,.arr s ys)::S.acc⟩ w∧aA g' (.acc m ys.length) (.slice (some ⟨b,0,none⟩) ys.length c):=by
 obtain⟨ow,h⟩:=h.open_;have hmem:=bd hb;obtain⟨o1,o2,o3,us,e,hh,hr,hone⟩:=h.box b ds hmem;obtain⟨m0,hm0⟩:=h.fresh
 obtain⟨m,hm1,hm2,hm3⟩:∃m,m0≤m∧(∀p,p∈S.acc→p.1≠m)∧∀p,p∈L→p.1≠m:=by
  have:∀L:List (Nat×Ob),∃k,∀p,p∈L→p.1<k:=by
   intro L
   induction L with
   |nil=>exact⟨0,fun p h=>by cases h⟩
   |cons a l ih=>
    obtain⟨k,hk⟩:=ih;refine⟨a.1+k+1,fun p hp=>?_⟩;rcases Rv.1 hp with rfl|hp
    ·omega
    ·have:=hk p hp;omega
  obtain⟨k1,q1⟩:=this S.acc;obtain⟨k2,q2⟩:=this L;exact⟨m0+k1+k2,by omega,fun p hp e=>by have:=q1 p hp;omega,fun p hp e=>by have:=q2 p hp;omega⟩
 have hle:g.le (g.aB m ys.length (.slice (some ⟨b,0,none⟩) ys.length c)):=Gh.eg (.inl (hm0 _ _ hm1));have hself:(g.aB m ys.length (.slice (some ⟨b,0,none⟩) ys.length c)).acc m ys.length=some (.slice (some ⟨b,0,none⟩) ys.length c):=by simp[Gh.aB]
 have hbf:∀p,p∈S.box.filter (fun p=>p.1 !=b)→p∈S.box∧p.1≠b:=fun p hp=>by simpa using hp
 refine⟨m,_,hle,hm2,hm3,dc.close (ow:=fun k=>if k=b then some (.a m)else ow k) ⟨h.below.le hle,h.aO,?_,?_,?_,?_,?_,?_,?_,?_⟩,.acc _ _ _ _ hself⟩
 ·exact List.Sublist.nodup ((List.filter_sublist).map _) h.nb
 ·simp only[Rz,R0];exact⟨fun hm=>by obtain⟨p,hp,e⟩:=RI.1 hm;exact hm2 p hp e,h.na⟩
 ·intro l' n' u hu;simp only[Gh.aB]at hu;split at hu
  ·rename_i e';obtain⟨rfl,rfl⟩:=e';exact⟨_,_,(RG hu).symm,.inr ⟨b,0,rfl⟩⟩
  ·exact h.df _ _ _ hu
 ·refine⟨m+1,fun l' n' hl'=>?_⟩;simp only[Gh.aB];rw[if_neg (by omega)];exact hm0 _ _ (by omega)
 ·intro l' o' hl' k hk;simp only[Gh.aB];rcases Rv.1 hl' with e'|hl'
  ·cases e';simp only[Ob.len]at hk;rw[if_neg (by omega)];exact hm0 _ _ hm1
  ·rw[if_neg (fun e'=>hm2 _ hl' e'.1)];exact h.top _ _ hl' k hk
 ·intro b' ds' hb';obtain⟨h1,h2⟩:=hbf _ hb';exact(h.box b' ds' h1).step hle fun ho=>⟨(if_neg h2).trans ho,rfl,fun _ hi=>hi⟩
 ·intro l' o' hl';rcases Rv.1 hl' with e'|hl'
  ·cases e';have hR:aa g (ys.flatMap cd) (us.toList.take (ys.length*s)):=by rw[←hds];exact hr.take _
   obtain⟨vs,q1,q2,q3,q4⟩:=zT hs hR (fun u hu=>hone u (RY hu)) he;refine⟨hs,.inr ⟨b,c,us,e,hself,if_pos rfl,o2,o3,hh,?_,hc,hcm,hone,vs,q1.mono hle,q2,q3,fun i u j x a1 a2=>?_⟩⟩
   ·have:=hr.len;rw[hdl,RT]at this;exact this.symm
   ·have hj:j<s:=by rw[←q2 i u a1];exact(Rq.1 a2).1
    have hi:i<ys.length:=by rw[q1.len];exact(Rp.1 a1).1
    have:=yO q2 a1 a2;rw[q4,Sn,if_pos (lt_mul hi hj)]at this;rw[←Sk];exact this
  ·refine(h.acc l' o' hl').step hle fun b' ho=>⟨?_,rfl,fun _ hi=>hi⟩;have:b'≠b:=by rintro rfl;rw[o1]at ho;cases ho
   rw[if_neg this];exact ho
 ·intro b' k hk;split at hk
  ·rename_i e';subst e';exact lt_of_heap hh
  ·exact h.iJ _ _ hk
theorem x9{f:FuncId}{args:List DV}{S:St}{l s:Nat}{xs:List DV}{K:List DV→Prop}(hl:lk S.acc l=some (.arr s xs))(hn:xs≠[])(hs:0<s)(he:IT s xs)
 (h:∀b c,gx S.box b→xs.length≤c→c≤maxLen→ab P w0 f (.v (.slice (some ⟨b,0,none⟩) xs.length c)::args) ⟨(b,Bl s c xs)::S.box,del S.acc l⟩ fun d S'=>∃b' c' ds ys B,K ys∧d= .v (.slice (some ⟨b',0,none⟩) ys.length c')∧lk S'.box b'=some ds∧S'.acc=del S.acc l∧
  S'.box=B∧S.box.Sublist (B.filter fun p=>p.1 !=b')∧IT s ys∧ds.take (ys.length*s)=ys.flatMap cd∧ds.length=c'*s∧ys.length≤c'∧c'≤maxLen):
 ab P w0 f (.acc l xs.length::args) S fun d S'=>∃ys,∃m:FN S.acc,K ys∧d= .acc m.n ys.length∧S'=⟨S.box,tJ S.acc l (m.n,.arr s ys)⟩:=by
 intro g vs w h1 h2;obtain⟨b,c,hv,hc1,hc2,hbn,hR⟩:=h1.Nx hl hn he
 have h2':aa g (.v (.slice (some ⟨b,0,none⟩) xs.length c)::args) vs.toList:=by
  obtain⟨u,us',e,r1,r2⟩:=h2.ba;rw[e];refine aa.cons ?_ r2
  cases r1 with
  |acc _ _ o' c' ha=>
   rw[hv]at ha;cases ha;exact .v _ rfl
 refine(h b c hbn hc1 hc2 g vs w hR h2').mono ?_;intro e w' k;refine k.imp (.refl _) ?_;rintro r g' d S' hle hR' hd ⟨b',c',ds,ys,B,hK,rfl,hb',hacc,rfl,hsub,he',hds,hdl,hc3,hc4⟩;obtain⟨m,g2,hle2,hm1,hm2,hR2,hA⟩:=hR'.JN hb' hs he' hds hdl hc3 hc4 S.acc;have hrv:=an hd;subst hrv;refine⟨g2,_,⟨S.box,tJ S.acc l (m,.arr s ys)⟩,hle.trans hle2,?_,hA,ys,⟨m,bN hm2⟩,hK,rfl,rfl⟩;rw[hacc]at hR2;have hR3:=hR2.forget (S':=⟨S.box,(m,.arr s ys)::del S.acc l⟩) hsub (TN _);exact(⟨.refl _,(uM h1.na hl).symm⟩:Y.rW ⟨S.box,(m,.arr s ys)::del S.acc l⟩ ⟨S.box,tJ S.acc l (m,.arr s ys)⟩).rel hR3
end
end Aml
namespace Aml
open Go Go.RowKit
section
variable {P:Program} {w0:W0}
end
end Aml
namespace Aml
open Go Go.RowKit
section
variable {P:Program} {F:Fence} {n:Nat} {Q:Exit→Act→World→Prop} {a:Act} {w:World} {b:Frame} {k:List Item} {cs:List Frame}
end
section
variable {P:Program} {w0:W0}
end
end Aml
namespace Aml
open Go Go.RowKit
variable {P:Program} {w0:W0}
end Aml
