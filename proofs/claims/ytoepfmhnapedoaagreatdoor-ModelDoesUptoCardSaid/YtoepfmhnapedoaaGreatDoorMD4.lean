/-
  Part 4 of the proof that the last text ends: from 'Reckoning over statements whose order is open' to 'More forms of functions'. By an AI agent.
-/
import Derived.Test.YtoepfmhnapedoaaGreatDoorMD3
set_option linter.unusedVariables false
set_option linter.unusedSimpArgs false
set_option maxRecDepth 100000
set_option maxHeartbeats 16000000
namespace Aml
open Go Go.RowKit
section
variable {P:Program} {w0:W0} {S:St} {K:DV→Prop}
theorem sL{c a b:DV}(h:iT c a b K):∃d,iT c a b (·=d)∧K d:=by
 unfold iT at*;split at h
 ·rename_i t;cases t
  ·exact⟨b,⟨by simp,fun _=>rfl⟩,h.2 rfl⟩
  ·exact⟨a,⟨fun _=>rfl,by simp⟩,h.1 rfl⟩
 ·exact h.elim
theorem Ru{ds:List DV}(h:Sd ds K):∃d,Sd ds (·=d)∧K d:=by
 unfold Sd at*;split at h
 ·exact⟨_,rfl,h⟩
 ·exact h.elim
theorem wQ{k:TK}{ds:List DV}(h:qy k ds K):∃d,qy k ds (·=d)∧K d:=by
 unfold qy at*;split at h
 ·exact⟨_,⟨h.1,rfl⟩,h.2⟩
 ·exact⟨_,⟨h.1,rfl⟩,h.2⟩
 ·exact h.elim
 ·exact Ru h
theorem oT{k:TK}{x:DV}(h:bE k S x K):∃d,bE k S x (·=d)∧K d:=by
 unfold bE at*;split at h
 ·split at h
  ·rename_i hb;(try simp only[hb]);exact wQ h
  ·exact h.elim
 ·exact wQ h
 ·split at h
  ·rename_i hb;obtain⟨h1,h2,d,h3,h4,h5⟩:=h;obtain⟨e,q1,q2⟩:=wQ h5;exact⟨e,by first|exact⟨h1,h2,d,h3,h4,q1⟩|(simp only[hb];exact⟨h1,h2,d,h3,h4,q1⟩),q2⟩
  ·rename_i hb;obtain⟨h1,h2,d,h3,h4,h5⟩:=h;obtain⟨e,q1,q2⟩:=wQ h5;exact⟨e,by first|exact⟨h1,h2,d,h3,h4,q1⟩|(simp only[hb];exact⟨h1,h2,d,h3,h4,q1⟩),q2⟩
  ·exact h.elim
 ·exact h.elim
theorem pQ{k:TK}{f:Nat}{x:DV}(h:gC k f x K):∃d,gC k f x (·=d)∧K d:=by
 unfold gC at*;split at h
 ·split at h
  ·rename_i hf
   try simp only[hf]
   obtain⟨h1,h⟩:=h;split at h
   ·exact⟨_,⟨h1,rfl⟩,h⟩
   ·exact⟨_,⟨h1,h.1,rfl⟩,h.2⟩
   ·exact⟨_,⟨h1,rfl⟩,h⟩
   ·exact h.elim
  ·exact h.elim
 ·exact h.elim
theorem cm{k:TK}{x i:DV}(h:aK k x i K):∃d,aK k x i (·=d)∧K d:=by
 unfold aK at*;split at h
 ·split at h
  ·obtain⟨h1,h2,h3,h4⟩:=h;rename_i z _ _ _ xs;have hlt:z.toNat<xs.length:=by omega
   obtain⟨h5,h6⟩:=h4 _ (aac hlt);exact⟨_,⟨h1,h2,h3,fun d hd=>by rw[aac hlt]at hd;cases hd;exact⟨h5,rfl⟩⟩,h6⟩
  ·exact⟨_,⟨h.1,h.2.1,rfl⟩,h.2.2⟩
  ·exact⟨_,⟨h.1,h.2.1,rfl⟩,h.2.2⟩
  ·exact h.elim
 ·obtain⟨h1,h2,h3,h4⟩:=h;split at h4
  ·exact⟨_,⟨h1,h2,h3,rfl⟩,h4⟩
  ·exact⟨_,⟨h1,h2,h3,h4.1,rfl⟩,h4.2⟩
  ·exact h4.elim
 ·exact h.elim
theorem DQ{w0:W0}{fr:List DV}{x:Operand}{k:TK}{i:DV}(h:F0 w0 fr x fun d=>aK k d i K):∃d,(F0 w0 fr x fun d'=>aK k d' i (·=d))∧K d:=by
 cases x with
 |global b=>
  obtain⟨us,hg,h⟩:=h;obtain⟨d,q1,q2⟩:=cm h;exact⟨d,⟨us,hg,q1⟩,q2⟩
 |tmp n=>exact cm (x:=ev fr (.tmp n)) h
 |const u=>exact cm (x:=ev fr (.const u)) h
 |func f=>exact cm (x:=ev fr (.func f)) h
theorem pN{k:TK}{x i:DV}(h:jd k x i K):∃d,jd k x i (·=d)∧K d:=by
 unfold jd at*;split at h
 ·obtain⟨h1,h2,h3⟩:=h;rename_i s _ z;have hlt:z.toNat<s.data.toList.length:=by simp;have:s.data.size=s.size:=rfl;omega
  exact⟨_,⟨h1,h2,fun d hd=>by rw[aac hlt]at hd;cases hd;rfl⟩,h3 _ (aac hlt)⟩
 ·exact h.elim
theorem oq{k:TK}{f:Nat}{x:DV}(h:iB k f x K):∃d,iB k f x (·=d)∧K d:=by
 unfold iB at*;split at h
 ·split at h
  ·rename_i hf
   try simp only[hf]
   split at h
   ·obtain⟨h1,h⟩:=h;split at h
    ·exact⟨_,⟨h1,rfl⟩,h⟩
    ·split at h
     ·rename_i hd;(try simp only[hd]);exact⟨_,⟨h1,rfl⟩,h⟩
     ·exact h.elim
   ·exact h.elim
  ·exact h.elim
 ·exact h.elim
theorem mD{i:Nat}{x:DV}(h:dc i x K):∃d,dc i x (·=d)∧K d:=by
 unfold dc at*;split at h
 ·split at h
  ·rename_i hd;(try simp only[hd]);exact⟨_,rfl,h⟩
  ·exact h.elim
 ·exact h.elim
theorem HC{op:BinOp}{k:IntKind}{m n:Int}(h:nu op k m n K):∃d,nu op k m n (·=d)∧K d:=by
 cases op <;>simp only[nu]at h ⊢ <;>first|exact⟨_,rfl,h⟩|exact⟨_,⟨h.1,rfl⟩,h.2⟩
theorem LS{op:BinOp}{x y:ByteArray}(h:gO op x y K):∃d,gO op x y (·=d)∧K d:=by
 cases op <;>simp only[gO]at h ⊢ <;>first|exact⟨_,rfl,h⟩|exact⟨_,⟨h.1,rfl⟩,h.2⟩
theorem PD{op:BinOp}{t:TK}{cx cy:Bool}{x y:DV}(h:lN op t cx cy x y K):∃d,lN op t cx cy x y (·=d)∧K d:=by
 unfold lN at*;split at h
 ·obtain⟨d,q1,q2⟩:=HC h.2;exact⟨d,⟨h.1,q1⟩,q2⟩
 ·exact LS h
 ·split at h <;>first|exact⟨_,rfl,h⟩|exact h.elim
 ·split at h <;>first|exact⟨_,⟨h.1,rfl⟩,h.2⟩|exact h.elim
 ·split at h <;>first|exact⟨_,rfl,h⟩|exact h.elim
 ·split at h <;>first|exact⟨_,rfl,h⟩|exact h.elim
 ·split at h <;>first|exact⟨_,⟨h.1,rfl⟩,h.2⟩|exact h.elim
 ·exact h.elim
theorem tu{op:BinOp}{t:TypeId}{cx cy:Bool}{x y:DV}(h:kB P op t cx cy x y K):∃d,kB P op t cx cy x y (·=d)∧K d:=by
 unfold kB at*;split at h
 ·unfold mG at*;split at h
  ·rename_i he;obtain⟨q,q1,q2⟩:=lV h;exact⟨_,iP (fun r e=>by rw[e]) q1,q2⟩
  ·rename_i he;obtain⟨q,q1,q2⟩:=lV h;exact⟨_,iP (fun r e=>by rw[e]) q1,q2⟩
  ·exact h.elim
 ·exact PD h
theorem C2{op:UnOp}{x:DV}(h:Db op x K):∃d,Db op x (·=d)∧K d:=by
 unfold Db at*;split at h <;>first|exact⟨_,rfl,h⟩|exact h.elim
theorem sr{a b:TK}{x:DV}(h:iY a b x K):∃d,iY a b x (·=d)∧K d:=by
 unfold iY at*;split at h <;>first|exact⟨_,rfl,h⟩|exact h.elim
theorem tK{fn:Fn}{a b:List DV}(h:mn fn a b K):∃d,mn fn a b (·=d)∧K d:=by
 unfold mn at*;split at h <;>first|exact⟨_,rfl,h⟩|exact h.elim
theorem fJ{x:Option DV}{z:Int}{F:(DV→Prop)→Int→Prop}(hF:∀n,F K n→∃d,F (·=d) n∧K d)(h:mR x z (F K)):∃d,mR x z (F (·=d))∧K d:=by
 unfold mR at*;split at h <;>first|exact hF _ h|exact h.elim
theorem qf{k:TK}{x:DV}{lo hi mx:Option DV}(h:ib k x lo hi mx K):∃d,ib k x lo hi mx (·=d)∧K d:=by
 unfold ib at*;split at h
 ·obtain⟨h1,h⟩:=h;rename_i e s b s' f xs
  obtain⟨d,q1,q2⟩:=fJ (F:=fun K l=>mR hi xs.length fun h=>mR mx h fun m=>0≤l∧l≤h∧h≤m∧m≤xs.length∧
   K (.sl s (if mx.isSome then decide (m=h)else(f&&(hi.isNone||xs.isEmpty))) ((xs.take h.toNat).drop l.toNat))) (fun l h=>fJ (F:=fun K h=>mR mx h fun m=>0≤l∧l≤h∧h≤m∧m≤xs.length∧
   K (.sl s (if mx.isSome then decide (m=h)else(f&&(hi.isNone||xs.isEmpty))) ((xs.take h.toNat).drop l.toNat))) (fun hh h=>fJ (F:=fun K m=>0≤l∧l≤hh∧hh≤m∧m≤xs.length∧
   K (.sl s (if mx.isSome then decide (m=hh)else(f&&(hi.isNone||xs.isEmpty))) ((xs.take hh.toNat).drop l.toNat))) (fun m h=>⟨_,⟨h.1,h.2.1,h.2.2.1,h.2.2.2.1,rfl⟩,h.2.2.2.2⟩) h) h) h
  exact⟨d,⟨h1,q1⟩,q2⟩
 ·obtain⟨h1,h⟩:=h;rename_i s
  obtain⟨d,q1,q2⟩:=fJ (F:=fun K l=>mR hi s.size fun h=>0≤l∧l≤h∧h≤s.size∧K (.v (.string (s.extract l.toNat h.toNat)))) (fun l h=>fJ (F:=fun K h=>0≤l∧l≤h∧h≤s.size∧K (.v (.string (s.extract l.toNat h.toNat))))
   (fun hh h=>⟨_,⟨h.1,h.2.1,h.2.2.1,rfl⟩,h.2.2.2⟩) h) h
  exact⟨d,⟨h1,q1⟩,q2⟩
 ·rename_i e s by' b o n c
  exact fJ (F:=fun K l=>mR hi n fun h=>mR mx c fun m=>0≤l∧l≤h∧h≤m∧m≤c∧
   K (.v (.slice (some ⟨b,if m.toNat=l.toNat then o else o+l.toNat*s,none⟩) (h.toNat-l.toNat) (m.toNat-l.toNat)))) (fun l h=>fJ (F:=fun K h=>mR mx c fun m=>0≤l∧l≤h∧h≤m∧m≤c∧
   K (.v (.slice (some ⟨b,if m.toNat=l.toNat then o else o+l.toNat*s,none⟩) (h.toNat-l.toNat) (m.toNat-l.toNat)))) (fun hh h=>fJ (F:=fun K m=>0≤l∧l≤hh∧hh≤m∧m≤c∧
   K (.v (.slice (some ⟨b,if m.toNat=l.toNat then o else o+l.toNat*s,none⟩) (hh.toNat-l.toNat) (m.toNat-l.toNat)))) (fun m h=>⟨_,⟨h.1,h.2.1,h.2.2.1,h.2.2.2.1,rfl⟩,h.2.2.2.2⟩) h) h) h
 ·obtain⟨h1,h⟩:=h;rename_i n e s ag nn b o
  obtain⟨d,q1,q2⟩:=fJ (F:=fun K l=>mR hi n fun h=>mR mx n fun m=>0≤l∧l≤h∧h≤m∧m≤n∧
   K (.v (.slice (some ⟨b,if m.toNat=l.toNat then o else o+l.toNat*s,none⟩) (h.toNat-l.toNat) (m.toNat-l.toNat)))) (fun l h=>fJ (F:=fun K h=>mR mx n fun m=>0≤l∧l≤h∧h≤m∧m≤n∧
   K (.v (.slice (some ⟨b,if m.toNat=l.toNat then o else o+l.toNat*s,none⟩) (h.toNat-l.toNat) (m.toNat-l.toNat)))) (fun hh h=>fJ (F:=fun K m=>0≤l∧l≤hh∧hh≤m∧m≤n∧
   K (.v (.slice (some ⟨b,if m.toNat=l.toNat then o else o+l.toNat*s,none⟩) (hh.toNat-l.toNat) (m.toNat-l.toNat)))) (fun m h=>⟨_,⟨h.1,h.2.1,h.2.2.1,h.2.2.2.1,rfl⟩,h.2.2.2.2⟩) h) h) h
  exact⟨d,⟨h1,q1⟩,q2⟩
 ·exact h.elim
theorem wE{k:TK}{x:DV}(h:pA k x K):∃d,pA k x (·=d)∧K d:=by
 unfold pA at*;split at h <;>first|exact⟨_,rfl,h⟩|exact h.elim
theorem xH{k:TK}{x:DV}(h:um k x K):∃d,um k x (·=d)∧K d:=by
 unfold um at*;split at h <;>first|exact⟨_,rfl,h⟩|exact h.elim
theorem xC{x y:DV}(h:uf x y K):∃d,uf x y (·=d)∧K d:=by
 unfold uf at*;split at h <;>first|exact⟨_,rfl,h⟩|exact h.elim
theorem wI{x y:DV}(h:tA x y K):∃d,tA x y (·=d)∧K d:=by
 unfold tA at*;split at h <;>first|exact⟨_,rfl,h⟩|exact h.elim
theorem pS{t:TypeId}{parts:List (Nat×DV)}(h:eS P t parts K):∃d,eS P t parts (·=d)∧K d:=by
 unfold eS at*;split at h
 ·split at h
  ·rename_i hf;(try simp only[hf]);exact⟨_,rfl,h⟩
  ·exact h.elim
 ·exact h.elim
theorem iW{k:TK}{z:DV}{len:Nat}{parts:List (Nat×DV)}(h:aW k z len parts K):∃d,aW k z len parts (·=d)∧K d:=by
 unfold aW at*;split at h
 ·obtain⟨h1,h2,h3,h⟩:=h;split at h
  ·rename_i hf;(try simp only[hf]);exact⟨_,⟨h1,h2,h3,rfl⟩,h⟩
  ·exact h.elim
 ·exact h.elim
def uY:DV→Bool
 | .acc _ _=>false
 |_=>true
def fk:DV→Bool
 | .agg ds=>ds.all uY
 |d=>uY d
theorem De{K:DV→St→Prop}{d:DV}(hd:uY d=true)(h:K d S):lZ S d K:=by
 cases d <;>first|(cases hd;done)|exact h
theorem Gm{K:DV→St→Prop}{k:TK}{x:DV}{lo hi mx:Option DV}(hx:uY x=true)(h:jq k S x lo hi mx K):iG k S x lo hi mx K:=by
 cases x <;>first|(cases hx;done)|exact h
theorem yk:∀{ds:List DV} {K:List DV→St→Prop},ds.all uY=true→K ds S→me S ds K
 |[],K,_,h=>h
 |d::ds,K,hd,h=>by
  simp only[ado,aak]at hd;exact De hd.1 (yk hd.2 h)
theorem Jl{K:DV→St→Prop}{d:DV}(hd:fk d=true)(h:K d S):shr S d K:=by
 cases d with
 |agg ds=>exact yk hd h
 |acc l n=>cases hd
 |_=>exact h
theorem rZ:∀{ds:List DV} {K:List DV→St→Prop},ds.all fk=true→K ds S→gk S ds K
 |[],K,_,h=>h
 |d::ds,K,hd,h=>by
  simp only[ado,aak]at hd;exact Jl hd.1 (rZ hd.2 h)
theorem lT{ds:List DV}{F:List DV→St→Prop}(hd:ds.all fk=true)(h:F ds S):iz S ds F:=by
 unfold iz;split
 ·exact .inl h
 ·exact rZ hd h
def nV(P:Program)(w0:W0)(cal:DV)(ds:List DV)(S:St)(K:DV→Prop):Prop:=match cal with
 | .v (.func (.func f) a cap)=>a.size=0∧okF P f=true∧cap.toList.all (fun u=>u.oneCell')=true∧ds.all fk=true∧∃d,ab P w0 f (ds++cap.toList.map .v) S (fun d' S'=>d'=d∧S'=S)∧K d
 |_=>False
theorem tj{m:Option (KK×DV)}{S:St}{x y:DV}{ok:Bool}{K:DV→Prop}(h:cc m S x y ok K):∃d,cc m S x y ok (·=d)∧K d:=by
 unfold cc at*
 cases m with
 |none=>exact h.elim
 |some p=>
  simp only[oK]at h ⊢;obtain⟨h0,h⟩:=h
  cases hk:om y with
  |none=>rw[hk]at h;exact h.elim
  |some k=>
   rw[hk]at h;simp only at h ⊢;obtain⟨h1,h⟩:=h;split at h
   ·exact⟨_,⟨h0,h1,rfl⟩,h⟩
   ·split at h
    ·obtain⟨h2,h⟩:=h
     cases hg:aT _ k with
     |none=>rw[hg]at h;exact⟨_,⟨h0,h1,h2,rfl⟩,h⟩
     |some d=>rw[hg]at h;exact⟨_,⟨h0,h1,h2,rfl⟩,h⟩
    ·exact h.elim
   ·exact h.elim
def aS(P:Program)(w0:W0)(op:Op)(fr:List DV)(S:St)(K:DV→Prop):Prop:=match op with
 | .move x=>K (ev fr x)
 | .assign x=>K (ev fr x)
 | .pick c a b=>iT (ev fr c) (ev fr a) (ev fr b) K
 | .load t x=>bE (tk P t) S (ev fr x) K
 | .fieldAddr t x f=>gC (tk P t) f (ev fr x) K
 | .indexAddr t x i=>F0 w0 fr x fun d=>aK (tk P t) d (ev fr i) K
 | .index t x i=>jd (tk P t) (ev fr x) (ev fr i) K
 | .field t x f=>iB (tk P t) f (ev fr x) K
 | .extract x i=>dc i (ev fr x) K
 | .nilCheck x=>notNil (ev fr x)=true∧K (ev fr x)
 | .binOp b t x y _=>gl y=false∧kB P b t (xX x) (xX y) (ev fr x) (ev fr y) K
 | .unOp b _ x=>Db b (ev fr x) K
 | .convert s d x=>iY (tk P s) (tk P d) (ev fr x) K
 | .makeInterface t x=>rf (tk P t)=false∧fk (ev fr x)=true∧K (.jM t (ev fr x))
 | .makeFunc fn a b=>mn fn (a.toList.map (ev fr)) (b.toList.map (ev fr)) K
 | .slice t x lo hi mx=>(mx.isSome=true→hi.isSome=true)∧uY (ev fr x)=true∧ib (tk P t) (ev fr x) (lo.map (ev fr)) (hi.map (ev fr)) (mx.map (ev fr)) K
 | .build t parts=>(parts.toList.map fun p=>ev fr p.2).all fk=true∧eS P t ((parts.toList.map (·.1)).zip (parts.toList.map fun p=>ev fr p.2)) K
 | .buildSlice t len parts=>(parts.toList.map fun p=>ev fr p.2).all fk=true∧aW (tk P t) (zD P (dO P t)) len ((parts.toList.map (·.1)).zip (parts.toList.map fun p=>ev fr p.2)) K
 | .lookup t x y ok=>cc (mZ P t) S (ev fr x) (ev fr y) ok K
 | .call c=>match c.callee with
  | .builtin .len=>(match c.args.toList,c.argTypes.toList with
   |[x],[t]=>pA (tk P t) (ev fr x) K
   |_,_=>False)
  | .builtin .cap=>(match c.args.toList,c.argTypes.toList with
   |[x],[t]=>um (tk P t) (ev fr x) K
   |_,_=>False)
  | .builtin .min=>(match c.args.toList with
   |[x,y]=>uf (ev fr x) (ev fr y) K
   |_=>False)
  | .builtin .max=>(match c.args.toList with
   |[x,y]=>tA (ev fr x) (ev fr y) K
   |_=>False)
  | .value cal=>nV P w0 (ev fr cal) (c.args.toList.map (ev fr)) S K
  | .invoke r name=>Ct P (ev fr r) name fun f d=>nV P w0 (.v (.func (.func f) #[] #[])) (d::c.args.toList.map (ev fr)) S K
  |_=>False
 |_=>False
theorem jA{o:Oper}{fr:List DV}(hs:eo o.op=true)(h:aS P w0 o.op fr S K):∃d,QY P w0 S o fr d∧K d:=by
 have fin:∀{d:DV},aH P w0 o.op fr S (fun d' S'=>d'=d∧S'=S)→K d→∃d,QY P w0 S o fr d∧K d:=fun h1 h2=>⟨_,bH hs h1,h2⟩
 cases hop:o.op with
 |move x=>rw[hop]at h;exact fin (by rw[hop];exact⟨rfl,rfl⟩) h
 |assign x=>rw[hop]at h;exact fin (by rw[hop];exact⟨rfl,rfl⟩) h
 |pick c a b=>rw[hop]at h;obtain⟨d,q1,q2⟩:=sL h;exact fin (by rw[hop];simpa[aH]using q1) q2
 |load t x=>rw[hop]at h;obtain⟨d,q1,q2⟩:=oT h;exact fin (by rw[hop];simpa[aH]using q1) q2
 |fieldAddr t x f=>rw[hop]at h;obtain⟨d,q1,q2⟩:=pQ h;exact fin (by rw[hop];simpa[aH]using q1) q2
 |indexAddr t x i=>
  rw[hop]at h
  cases x with
  |global b=>
   obtain⟨us,hg,h⟩:=(show qP w0 b fun d=>aK (tk P t) d (ev fr i) K from h);obtain⟨d,q1,q2⟩:=cm h;exact fin (by rw[hop];exact⟨us,hg,by simpa using q1⟩) q2
  |tmp n=>obtain⟨d,q1,q2⟩:=cm (show aK (tk P t) (ev fr (.tmp n)) (ev fr i) K from h);exact fin (by rw[hop];simpa[aH,F0]using q1) q2
  |const u=>obtain⟨d,q1,q2⟩:=cm (show aK (tk P t) (ev fr (.const u)) (ev fr i) K from h);exact fin (by rw[hop];simpa[aH,F0]using q1) q2
  |func f=>obtain⟨d,q1,q2⟩:=cm (show aK (tk P t) (ev fr (.func f)) (ev fr i) K from h);exact fin (by rw[hop];simpa[aH,F0]using q1) q2
 |index t x i=>rw[hop]at h;obtain⟨d,q1,q2⟩:=pN h;exact fin (by rw[hop];simpa[aH]using q1) q2
 |field t x f=>rw[hop]at h;obtain⟨d,q1,q2⟩:=oq h;exact fin (by rw[hop];simpa[aH]using q1) q2
 |extract x i=>rw[hop]at h;obtain⟨d,q1,q2⟩:=mD h;exact fin (by rw[hop];simpa[aH]using q1) q2
 |nilCheck x=>rw[hop]at h;exact fin (by rw[hop];exact⟨h.1,rfl,rfl⟩) h.2
 |binOp b t x y t'=>rw[hop]at h;obtain⟨d,q1,q2⟩:=tu h.2;exact fin (by rw[hop];simp only[aH,h.1];simpa using q1) q2
 |unOp b t x=>rw[hop]at h;obtain⟨d,q1,q2⟩:=C2 h;exact fin (by rw[hop];simpa[aH]using q1) q2
 |convert s d x=>rw[hop]at h;obtain⟨d',q1,q2⟩:=sr h;exact fin (by rw[hop];simpa[aH]using GL (ke:=tk P (dO P s)) (kb:=tk P (dO P d)) (S:=S) q1) q2
 |makeInterface t x=>rw[hop]at h;exact fin (by rw[hop];exact⟨h.1,Jl h.2.1 ⟨rfl,rfl⟩⟩) h.2.2
 |makeFunc fn a b=>rw[hop]at h;obtain⟨d,q1,q2⟩:=tK h;exact fin (by rw[hop];simpa[aH]using q1) q2
 |slice t x lo hi mx=>rw[hop]at h;obtain⟨d,q1,q2⟩:=qf h.2.2;exact fin (by rw[hop];exact⟨h.1,Gm h.2.1 (De h.2.1 (by simpa using q1))⟩) q2
 |lookup t x y ok=>rw[hop]at h;obtain⟨d,q1,q2⟩:=tj h;exact fin (by rw[hop];simpa[aH]using q1) q2
 |build t parts=>rw[hop]at h;obtain⟨d,q1,q2⟩:=pS h.2;exact fin (by rw[hop];exact rZ h.1 (by simpa using q1)) q2
 |buildSlice t len parts=>rw[hop]at h;obtain⟨d,q1,q2⟩:=iW h.2;exact fin (by rw[hop];exact rZ h.1 (by simpa using q1)) q2
 |call c=>
  rw[hop]at h;obtain⟨callee,args,ts⟩:=c;simp only[aS]at h;split at h
  ·split at h
   ·rename_i x t e1 e2;obtain⟨d,q1,q2⟩:=wE h;exact fin (by rw[hop];simp only[aH,e1,e2];simpa using q1) q2
   ·exact h.elim
  ·split at h
   ·rename_i x t e1 e2;obtain⟨d,q1,q2⟩:=xH h;exact fin (by rw[hop];simp only[aH,e1,e2];simpa using q1) q2
   ·exact h.elim
  ·split at h
   ·rename_i x y e1;obtain⟨d,q1,q2⟩:=xC h;exact fin (by rw[hop];simp only[aH,e1];simpa using q1) q2
   ·exact h.elim
  ·split at h
   ·rename_i x y e1;obtain⟨d,q1,q2⟩:=wI h;exact fin (by rw[hop];simp only[aH,e1];simpa using q1) q2
   ·exact h.elim
  ·rename_i cal;unfold nV at h;split at h
   ·rename_i f a cap hcal;obtain⟨h1,h2,h3,h4,d,h5,h6⟩:=h;exact fin (by rw[hop];simp only[aH,hcal];exact pg h1 h3 (by rw[h2,Kv];exact lT h4 h5)) h6
   ·exact h.elim
  ·rename_i r name;unfold Ct at h;split at h
   ·rename_i t hx;split at h
    ·rename_i f hi;obtain⟨hf,_,h2,h3,h4,d,h5,h6⟩:=h;have h5':ab P w0 f (.agg []::args.toList.map (ev fr)) S (fun d' S'=>d'=d∧S'=S):=by simpa using h5
     exact fin (by rw[hop];simp only[aH,Ct,hx,hi];exact⟨hf,lT h4 h5'⟩) h6
    ·exact h.elim
   ·exact h.elim
  ·exact h.elim
 |_=>rw[hop]at h;exact h.elim
end
end Aml
namespace Aml
open Go Go.RowKit
def dI(n:Int):DV:= .v (.int .i64 n)
def dU(n:Int):DV:= .v (.int .u64 n)
def dB(b:Bool):DV:= .v (.bool b)
def dS(s:ByteArray):DV:= .v (.string s)
theorem ZS{n:Int}(h0:0≤n)(h1:n≤18446744073709551615):IntKind.u64.wrap n=n:=by
 show n%18446744073709551616=n;omega
section
variable {P:Program} {w0:W0}
end
end Aml
namespace Aml
open Go Go.RowKit
def pO:Op→Bool
 | .store ..| .box ..| .alloc ..| .makeSlice ..| .mapUpdate ..| .insert ..| .makeMap ..=>false
 | .call c=>match c.callee with
  | .builtin .append| .builtin .clear| .builtin .delete| .builtin .copy=>false
  |_=>true
 |_=>true
def tq(md:Region.Mode)(ops:Array Oper):Nat→Nat→Nat→Bool
 |0,_,_=>false
 |n+1,k,i=>match ops[k]? with
  |none=>false
  |some o=>o.after.any fun e=>Region.binds md e&&(e.on==i||tq md ops n e.on i)
def P4(md:Region.Mode)(ops:Array Oper):Bool:=(List.range ops.size).all fun k=>match ops[k]? with
 |none=>true
 |some o=>o.after.all fun e=>!Region.binds md e||decide (e.on<k)
def rh(md:Region.Mode)(ops:Array Oper)(n:Nat):Bool:=P4 md ops&&
 ((List.range ops.size).all fun k=>decide (k<n)||(List.range k).all fun i=>tq md ops ops.size k i)&&
 (ops.toList.take n).all fun o=>match o.guard with|none=>true|some (j,_)=>decide (j<n)
section
variable {P:Program} {w0:W0} {ops:Array Oper} {md:Region.Mode}
theorem kg(h:P4 md ops=true){k:Nat}{o:Oper}(hk:ops[k]? =some o):∀e∈o.after,Region.binds md e=true→e.on<k:=by
 intro e he hb;have hlt:k<ops.size:=(aaq.1 hk).1;have:=aa8.1 h k (ace.2 hlt);simp only[hk]at this;have:=Array.all_eq_true'.1 this e he;simpa[hb]using this
def Mo(md:Region.Mode)(ops:Array Oper)(L:Array Bool):Prop:=∀(j:Nat) (o:Oper),ops[j]? =some o→L[j]? =some true→∀e∈o.after,Region.binds md e=true→L[e.on]? =some true
theorem lB{L:Array Bool}(hc:Mo md ops L):∀(n k i:Nat) (o:Oper),ops[k]? =some o→(∀e∈o.after,Region.binds md e=true→L[e.on]? =some true)→tq md ops n k i=true→L[i]? =some true
 |0,_,_,_,_,_,h=>by cases h
 |n+1,k,i,o,hk,ha,h=>by
  simp only[tq,hk]at h;obtain⟨e,he,h⟩:=adR.1 h;simp only[aak,acx,beq_iff_eq]at h;rcases h.2 with h'|h'
  ·rw[←h'];exact ha e he h.1
  ·have hl:=ha e he h.1
   cases ho:ops[e.on]? with
   |none=>cases n <;>simp[tq,ho]at h'
   |some o'=>exact lB hc n e.on i o' ho (hc e.on o' ho hl) h'
theorem cT{L:Array Bool}{i:Nat}:L.getD i false=true↔L[i]? =some true:=by
 rw[aaI];cases L[i]? <;>simp
theorem dh{L:Array Bool}{i:Nat}:L.getD i true=false↔L[i]? =some false:=by
 rw[aaI];cases L[i]? <;>simp
theorem Nf{ro:Option Nat}{g0 g:Gh}{Q:Exit→List DV→St→Prop}{o:Oper}{fr:List DV}{S:St}{a:Act}{w:World}{K:List DV→St→Prop}{K':Act→World→Prop}(k:g0.le g)(h1:Rel w0 g S w)(h2:af g fr a.tmps.toList)(h3:Dk w0 g a w)
 (hK:∀fr S g a w,g0.le g→Rel w0 g S w→af g fr a.tmps.toList→Dk w0 g a w→K fr S→K' a w)
 (h:bP ops fr o.guard (fun fr=>ak P w0 o (ev fr) S fun d S'=>K (pt fr o.dst d) S') (fun fr=>K (pt fr o.dst ud) S)) {i:Nat} (hi:ops[i]? =some o):
 wpOpIn (fz ro) 0 P ops (Good w0 g0 Q) i K' a w:=by
 unfold wpOpIn;simp only[hi];rcases ju h2 h with⟨hw,fr',h2',hA⟩|⟨hw,fr',h2',hB⟩
 ·rw[if_pos hw];refine de hA h1 (fun x _=>eA h2' x) h3 k h2' fun g' d u S' w' k1 k2 k3 k4 k5=>?_;exact hK _ _ g' _ _ (k.trans k1) k2 (bu (h2'.mono k1) _ k3) (k1.dk k5) k4
 ·rw[if_neg (by simp[hw])];exact⟨fun _ _=>trivial,hK _ _ g _ _ k h1 (bu h2' _ (gu g)) (h3.cC (put_defers _ _ _) fun _ _ h _=>h) hB⟩
theorem xB{S:St}{K K':List DV→Prop}(hk:∀fr,K fr→K' fr):∀{l:List Oper} {fr:List DV},LQ P w0 S ops K l fr→LQ P w0 S ops K' l fr
 |[],fr,h=>hk _ h
 |o::rest,fr,h=>jo (fun fr ⟨d,q1,q2⟩=>⟨d,q1,xB hk q2⟩) (fun fr h=>xB hk h) h
theorem BF{ro:Option Nat}{g0:Gh}{Q:Exit→List DV→St→Prop}{n:Nat}(hB:rh md ops n=true):∀(l:List Oper) (k fuel:Nat) (L:Array Bool) (fr:List DV) (S:St) (g:Gh) (a:Act) (w:World),
 (∀j,l[j]? =ops[k+j]?)→n≤k→k≤ops.size→l.length≤fuel→L.size=ops.size→(∀i,i<k→L[i]? =some true)→(∀i,k≤i→i<ops.size→L[i]? =some false)→g0.le g→Rel w0 g S w→af g fr a.tmps.toList→Dk w0 g a w→
 DM P w0 ops (fun fr S=>Q .normal fr S) l fr S→wpAnyIn (fz ro) 0 P md ops (Good w0 g0 Q) fuel L a w:=by
 simp only[rh,aak]at hB;obtain⟨⟨hb,ha⟩, -⟩:=hB
 have none_ready:∀(k:Nat) (L:Array Bool),ops.size≤k→L.size=ops.size→(∀i,i<k→L[i]? =some true∨ops.size≤i)→∀i,i∉Region.ready md ops L:=by
  intro k L hk hs hl i hi;obtain⟨h1,o,ho,_⟩:=mem_ready.1 hi;rw[dh]at h1;have hlt:i<ops.size:=(aaq.1 ho).1;rcases hl i (by omega)with h|h
  ·rw[h]at h1;cases h1
  ·omega
 intro l
 induction l with
 |nil=>
  intro k fuel L fr S g a w hl hn hk hf hs ht hu k1 h1 h2 h3 h
  have hk':ops.size≤k:=by
   have:=hl 0;simp only[List.getElem?_nil,adj]at this;exact Array.getElem?_eq_none_iff.1 this.symm
  have hno:=none_ready k L hk' hs (fun i hi=> .inl (ht i hi));have hemp:Region.ready md ops L=[]:=List.eq_nil_iff_forall_not_mem.2 hno
  cases fuel with
  |zero=>exact⟨hemp,k1.kd h3,g,fr,S,k1,h1,h2,h⟩
  |succ fuel=>exact⟨fun _=>⟨k1.kd h3,g,fr,S,k1,h1,h2,h⟩,fun i hi=>absurd hi (hno i)⟩
 |cons o rest ih=>
  intro k fuel L fr S g a w hl hn hk hf hs ht hu k1 h1 h2 h3 h;have h0:ops[k]? =some o:=by simpa using(hl 0).symm
  have hklt:k<ops.size:=(aaq.1 h0).1;have hready:k∈Region.ready md ops L:=mem_ready.2 ⟨dh.2 (hu k (aar _) hklt),o,h0,fun e he hbe=>cT.2 (ht _ (kg hb h0 e he hbe))⟩
  cases fuel with
  |zero=>simp at hf
  |succ fuel=>
   refine⟨fun h=>(by rw[h]at hready;cases hready),fun i hi=>?_⟩;obtain⟨hi1,oi,hoi,hia⟩:=mem_ready.1 hi;rw[dh]at hi1;have hilt:i<ops.size:=(aaq.1 hoi).1
   have hclo:Mo md ops L:=fun j oj hj hlj e he hbe=>by
    have hjk:j<k:=by
     rcases abz j k with h|h
     ·exact h
     ·rw[hu j h (aaq.1 hj).1]at hlj;cases hlj
    exact ht _ (Nat.lt_trans (kg hb hj e he hbe) hjk)
   have hik:i=k:=by
    rcases acU i k with h|h|h
    ·rw[ht i h]at hi1;cases hi1
    ·exact h
    ·have hr:=aa8.1 ha i (ace.2 hilt);rw[acx]at hr;rcases hr with hr|hr
     ·have:=of_decide_eq_true hr;omega
     ·have hr:=aa8.1 hr k (ace.2 h);have:=lB hclo _ i k oi hoi (fun e he hbe=>cT.1 (hia e he hbe)) hr;rw[hu k (aar _) hklt]at this;cases this
   subst hik;refine Nf (o:=o) k1 h1 h2 h3 (K:=DM P w0 ops (fun fr S=>Q .normal fr S) rest) ?_ h h0;intro fr' S' g' a' w' q1 q2 q3 q4 q5;refine ih (i+1) fuel (L.setIfInBounds i true) fr' S' g' a' w' (fun j=>by have:=hl (j+1);simpa[acw,ac2 1 j]using this) (by omega) (by omega) (by simpa using hf) (by simpa using hs) ?_ ?_ q1 q2 q3 q4 q5
   ·intro j hj;rw[aa9];split
    ·rename_i e;rw[if_pos (by omega)]
    ·exact ht j (by omega)
   ·intro j hj hj';rw[aa9,if_neg (by omega)];exact hu j (by omega) hj'
theorem EZ{ro:Option Nat}{g0:Gh}{Q:Exit→List DV→St→Prop}{S:St}{n:Nat}(hB:rh md ops n=true)(hn:n≤ops.size):∀(fuel F:Nat) (L M:Array Bool) (fr:List DV) (g:Gh) (a:Act) (w:World),
 L.size=n→M.size=ops.size→(∀i,i<n→M[i]? =L[i]?)→(∀i,n≤i→i<ops.size→M[i]? =some false)→Mo md ops M→fuel+(ops.size-n)≤F→g0.le g→Rel w0 g S w→af g fr a.tmps.toList→Dk w0 g a w→
 pJ P w0 S md (ops.toList.take n).toArray (fun fr=>DM P w0 ops (fun fr S=>Q .normal fr S) (ops.toList.drop n) fr S) fuel L fr→wpAnyIn (fz ro) 0 P md ops (Good w0 g0 Q) F M a w:=by
 have hB':=hB;simp only[rh,aak]at hB';obtain⟨⟨hb,ha⟩,hg⟩:=hB';have hpre:∀i,i<n→(ops.toList.take n).toArray[i]? =ops[i]? :=fun i hi=>by simp[acr,hi]
 have full:∀(L M:Array Bool),L.size=n→M.size=ops.size→(∀i,i<n→M[i]? =L[i]?)→Region.ready md (ops.toList.take n).toArray L=[]→∀i,i<n→M[i]? =some true:=by
  intro L M hs hM hLM hr i
  induction i using Nat.strongRecOn with
  |_ i ih=>
   intro hi;have hlt:i<M.size:=by omega
   have hsome:∃o,ops[i]? =some o:=⟨_,acM (by omega)⟩;obtain⟨o,ho⟩:=hsome
   cases hx:M[i]? with
   |none=>rw[acM hlt]at hx;cases hx
   |some x=>
    cases x with
    |true=>rfl
    |false=>
     have:i∈Region.ready md (ops.toList.take n).toArray L:=mem_ready.2 ⟨dh.2 (by rw[←hLM i hi];exact hx),o,by rw[hpre i hi];exact ho,fun e he hbe=>by
      have hlt':=kg hb ho e he hbe;rw[cT,←hLM _ (by omega)];exact ih _ hlt' (by omega)⟩
     rw[hr]at this;cases this
 have tail:∀(F:Nat) (L M:Array Bool) (fr:List DV) (g:Gh) (a:Act) (w:World),L.size=n→M.size=ops.size→(∀i,i<n→M[i]? =L[i]?)→(∀i,n≤i→i<ops.size→M[i]? =some false)→ops.size-n≤F→g0.le g→Rel w0 g S w→af g fr a.tmps.toList→Dk w0 g a w→
  Region.ready md (ops.toList.take n).toArray L=[]→DM P w0 ops (fun fr S=>Q .normal fr S) (ops.toList.drop n) fr S→wpAnyIn (fz ro) 0 P md ops (Good w0 g0 Q) F M a w:=by
  intro F L M fr g a w hs hM hLM hM0 hF q1 q2 q3 q4 hr h;exact BF hB (ops.toList.drop n) n F M fr S g a w (fun j=>by simp[acm]) (aar _) hn (by simp;omega) hM (full L M hs hM hLM hr) hM0 q1 q2 q3 q4 h
 intro fuel
 induction fuel with
 |zero=>
  intro F L M fr g a w hs hM hLM hM0 hc hF q1 q2 q3 q4 h;exact tail F L M fr g a w hs hM hLM hM0 (by omega) q1 q2 q3 q4 h.1 h.2
 |succ fuel ih=>
  intro F L M fr g a w hs hM hLM hM0 hc hF q1 q2 q3 q4 h;by_cases hr:Region.ready md (ops.toList.take n).toArray L=[]
  ·exact tail F L M fr g a w hs hM hLM hM0 (by omega) q1 q2 q3 q4 hr (h.1 hr)
  ·obtain⟨F,rfl⟩:∃F',F=F'+1:=⟨F-1,by omega⟩
   have up:∀i,i∈Region.ready md (ops.toList.take n).toArray L→i∈Region.ready md ops M:=by
    intro i hi;obtain⟨h1,o,ho,h2⟩:=mem_ready.1 hi;have hi':i<n:=by have:=(aaq.1 ho).1;simp at this;omega
    rw[hpre i hi']at ho;refine mem_ready.2 ⟨dh.2 (by rw[hLM i hi'];exact dh.1 h1),o,ho,fun e he hbe=>?_⟩;have hlt:=kg hb ho e he hbe;rw[cT,hLM _ (by omega)];exact cT.1 (h2 e he hbe)
   refine⟨fun h0=>?_,fun i hi=>?_⟩
   ·exfalso
    obtain⟨x,xs,hx⟩:∃x xs,Region.ready md (ops.toList.take n).toArray L=x::xs:=by
     cases he:Region.ready md (ops.toList.take n).toArray L with
     |nil=>exact absurd he hr
     |cons x xs=>exact⟨x,xs,rfl⟩
    have:=up x (by rw[hx];exact aaQ);rw[h0]at this;cases this
   ·obtain⟨hi1,oi,hoi,hia⟩:=mem_ready.1 hi;rw[dh]at hi1;have hilt:i<ops.size:=(aaq.1 hoi).1;by_cases hin:i<n
    ·have hiL:i∈Region.ready md (ops.toList.take n).toArray L:=mem_ready.2 ⟨dh.2 (by rw[←hLM i hin];exact hi1),oi,by rw[hpre i hin];exact hoi,fun e he hbe=>by
      have hlt:=kg hb hoi e he hbe;rw[cT,←hLM _ (by omega)];exact cT.1 (hia e he hbe)⟩
     have hq:=h.2 i hiL
     have hgi:∀j want,oi.guard=some (j,want)→j<n:=by
      intro j want hgj
      have hmem:oi∈ops.toList.take n:=by
       have:(ops.toList.take n)[i]? =some oi:=by rw[acr,if_pos hin];simpa using hoi
       exact aaf this
      have:=aa8.1 hg oi hmem;simpa[hgj]using this
     have hwant:∀fr,cQ (ops.toList.take n).toArray fr oi.guard=cQ ops fr oi.guard:=by
      intro fr
      cases hgo:oi.guard with
      |none=>rfl
      |some p=>
       obtain⟨j,want⟩:=p;simp only[cQ,hpre j (hgi j want hgo)]
     have hLs:(L.setIfInBounds i true).size=n:=by simpa using hs
     have hMs:(M.setIfInBounds i true).size=ops.size:=by simpa using hM
     have hLM':∀j,j<n→(M.setIfInBounds i true)[j]? =(L.setIfInBounds i true)[j]? :=by
      intro j hj;rw[aa9,aa9,hLM j hj];split
      ·rw[if_pos (by omega),if_pos (by omega)]
      ·rfl
     have hM0':∀j,n≤j→j<ops.size→(M.setIfInBounds i true)[j]? =some false:=by
      intro j hj hj';rw[aa9,if_neg (by omega)];exact hM0 j hj hj'
     have hc':Mo md ops (M.setIfInBounds i true):=by
      intro j oj hj hlj e he hbe;rw[aa9];split
      ·rw[if_pos (by omega)]
      ·rw[aa9]at hlj;split at hlj
       ·rename_i hij;subst hij;rw[hoi]at hj;cases hj;exact cT.1 (hia e he hbe)
       ·exact hc j oj hj hlj e he hbe
     have cont:∀fr' g' a' w',g0.le g'→Rel w0 g' S w'→af g' fr' a'.tmps.toList→Dk w0 g' a' w'→pJ P w0 S md (ops.toList.take n).toArray (fun fr=>DM P w0 ops (fun fr S=>Q .normal fr S) (ops.toList.drop n) fr S) fuel (L.setIfInBounds i true) fr'→
      wpAnyIn (fz ro) 0 P md ops (Good w0 g0 Q) F (M.setIfInBounds i true) a' w':=fun fr' g' a' w' p1 p2 p3 p4 p5=>
      ih F _ _ fr' g' a' w' hLs hMs hLM' hM0' hc' (by omega) p1 p2 p3 p4 p5
     unfold qOp at hq;rw[hpre i hin]at hq;unfold wpOpIn;simp only[hoi]at hq ⊢;rcases hq with⟨hw,d,hy,hk⟩|⟨hw,hk⟩
     ·rw[hwant]at hw;have hw':=cq (o:=oi) q3 hw;rw[if_pos hw'];refine de hy q2 (fun x _=>eA q3 x) q4 q1 q3 fun g' d' u S' w' k1 k2 k3 k4 k5=>?_;obtain⟨hd,hS⟩:=k4;rw[hS]at k2;rw[hd]at k3;exact cont _ g' _ _ (q1.trans k1) k2 (bu (q3.mono k1) _ k3) (k1.dk k5) hk
     ·rw[hwant]at hw;have hw':=cq (o:=oi) q3 hw;rw[if_neg (by simp[hw'])];exact⟨fun _ _=>trivial,cont _ g _ _ q1 q2 (bu q3 _ (gu g)) (q4.cC (put_defers _ _ _) fun _ _ h _=>h) hk⟩
    ·exfalso
     have hall:∀j,j<n→M[j]? =some true:=by
      intro j hj;have hr':=aa8.1 ha i (ace.2 hilt);rw[acx]at hr';rcases hr' with hr'|hr'
      ·exact absurd (of_decide_eq_true hr') hin
      ·have hr':=aa8.1 hr' j (ace.2 (by omega));exact lB hc _ i j oi hoi (fun e he hbe=>cT.1 (hia e he hbe)) hr'
     refine hr (List.eq_nil_iff_forall_not_mem.2 fun j hj=>?_);obtain⟨h1,o,ho,_⟩:=mem_ready.1 hj;have hj':j<n:=by have:=(aaq.1 ho).1;simp at this;omega
     rw[dh,←hLM j hj',hall j hj']at h1;cases h1
def mY(l:List Oper):Nat:=(l.takeWhile fun o=>pO o.op).length
theorem D4{id:Nat}{l:List Oper}{fr:List DV}{S:St}{Q:Exit→List DV→St→Prop}(n:Nat)(hn:n≤l.length)(hm:P.follows .mixedOrders=true)(hB:Region.lexB .any (l.take n).toArray=true)(hT:rh .any l.toArray n=true)(hs:l.all (fun o=>eo o.op)=true)
 (h:LQ P w0 S (l.take n).toArray (fun fr=>rV P w0 l.toArray (fun fr S=>Q .normal fr S) (l.drop n) fr S) (l.take n) fr):fV P w0 (.region id l.toArray true) fr S Q:=by
 intro g a w h1 h2 h3;simp only[Region.lexB,aak]at hB;refine cD hm fun ro=>?_;have hR:Rel w0 g S {w with drawn:=w.drawn+1}:=h1.grow (eK w);have hs1:(l.take n).all (fun o=>eo o.op)=true:=aa8.2 fun o ho=>aa8.1 hs o (acC ho);have hs2:(l.drop n).all (fun o=>eo o.op)=true:=aa8.2 fun o ho=>aa8.1 hs o (acb ho)
 have hLQ:LQ P w0 S (l.take n).toArray (fun fr=>DM P w0 l.toArray (fun fr S=>Q .normal fr S) (l.drop n) fr S) (l.take n) fr:=by
  exact xB (fun fr h=>iQ _ hs2 h) h
 have:=uv (P:=P) (w0:=w0) (S:=S) (md:= .any) (ops:=(l.take n).toArray) (l.take n) 0 (Array.replicate (l.take n).toArray.size false) fr (by simp) (by simpa using hB.2) hLQ;refine EZ (n:=n) (S:=S) hT (by simpa using hn) (l.take n).length _ (Array.replicate (l.take n).toArray.size false) _ fr g a _ (by simp;omega) (by simp) ?_ ?_ ?_ (by simp;omega) (.refl g) hR h2 (h3.cC rfl fun _ _ h _=>h) (by simpa using this)
 ·intro i hi;simp only[adJ,adW,ab2];rw[if_pos (by omega),if_pos (by omega)]
 ·intro i hi hi';simp only[adJ];rw[if_pos hi']
 ·intro j o hj hl;simp[adJ]at hl
end
end Aml
namespace Aml
open Go Go.RowKit
@[congr] theorem Ya {d:DV} {d':DV} {A:Prop} {B:Prop} (hd:d=d'):dq d A B=dq d' A B:=by cases hd;rfl
@[congr] theorem aap {ds:List DV} {ds':List DV} {K:DV→Prop} (hds:ds=ds'):Sd ds K=Sd ds' K:=by cases hds;rfl
@[congr] theorem aaF {k:TK} {k':TK} {ds:List DV} {ds':List DV} {K:DV→Prop} (hk:k=k') (hds:ds=ds'):qy k ds K=qy k' ds' K:=by cases hk;cases hds;rfl
@[congr] theorem XE {c:DV} {c':DV} {a:DV} {a':DV} {b:DV} {b':DV} {K:DV→Prop} (hc:c=c') (ha:a=a') (hb:b=b'):iT c a b K=iT c' a' b' K:=by cases hc;cases ha;cases hb;rfl
@[congr] theorem XX {k:TK} {k':TK} {S:St} {S':St} {x:DV} {x':DV} {K:DV→Prop} (hk:k=k') (hS:S=S') (hx:x=x'):bE k S x K=bE k' S' x' K:=by cases hk;cases hS;cases hx;rfl
@[congr] theorem Wb {k:TK} {k':TK} {f:Nat} {f':Nat} {x:DV} {x':DV} {K:DV→Prop} (hk:k=k') (hf:f=f') (hx:x=x'):gC k f x K=gC k' f' x' K:=by cases hk;cases hf;cases hx;rfl
@[congr] theorem N1 {k:TK} {k':TK} {x:DV} {x':DV} {i:DV} {i':DV} {K:DV→Prop} (hk:k=k') (hx:x=x') (hi:i=i'):aK k x i K=aK k' x' i' K:=by cases hk;cases hx;cases hi;rfl
@[congr] theorem QI {i:Nat} {i':Nat} {x:DV} {x':DV} {K:DV→Prop} (hi:i=i') (hx:x=x'):dc i x K=dc i' x' K:=by cases hi;cases hx;rfl
@[congr] theorem Ux {k:TK} {k':TK} {f:Nat} {f':Nat} {x:DV} {x':DV} {K:DV→Prop} (hk:k=k') (hf:f=f') (hx:x=x'):iB k f x K=iB k' f' x' K:=by cases hk;cases hf;cases hx;rfl
@[congr] theorem XZ {op:BinOp} {k:IntKind} {m:Int} {m':Int} {n:Int} {n':Int} {K:DV→Prop} (hm:m=m') (hn:n=n'):nu op k m n K=nu op k m' n' K:=by cases hm;cases hn;rfl
@[congr] theorem XN {op:BinOp} {x:ByteArray} {x':ByteArray} {y:ByteArray} {y':ByteArray} {K:DV→Prop} (hx:x=x') (hy:y=y'):gO op x y K=gO op x' y' K:=by cases hx;cases hy;rfl
@[congr] theorem ZO {op:BinOp} {t:TK} {t':TK} {cx:Bool} {cx':Bool} {cy:Bool} {cy':Bool} {x:DV} {x':DV} {y:DV} {y':DV} {K:DV→Prop} (ht:t=t') (hcx:cx=cx') (hcy:cy=cy') (hx:x=x') (hy:y=y'):lN op t cx cy x y K=lN op t' cx' cy' x' y' K:=by cases ht;cases hcx;cases hcy;cases hx;cases hy;rfl
@[congr] theorem Va {o:Option (List FK)} {o':Option (List FK)} {op:BinOp} {al:List DV} {al':List DV} {y:DV} {y':DV} {K:DV→Prop} (ho:o=o') (hal:al=al') (hy:y=y'):mG o op al y K=mG o' op al' y' K:=by cases ho;cases hal;cases hy;rfl
@[congr] theorem Yk {ks:List FK} {al:List DV} {al':List DV} {bs:List DV} {bs':List DV} {r:Bool} {r':Bool} {F:Bool→Prop} (hal:al=al') (hbs:bs=bs') (hr:r=r'):fW ks al bs r F=fW ks al' bs' r' F:=by cases hal;cases hbs;cases hr;rfl
@[congr] theorem aaz {op:UnOp} {x:DV} {x':DV} {K:DV→Prop} (hx:x=x'):Db op x K=Db op x' K:=by cases hx;rfl
@[congr] theorem XS {a:TK} {a':TK} {b:TK} {b':TK} {x:DV} {x':DV} {K:DV→Prop} (ha:a=a') (hb:b=b') (hx:x=x'):iY a b x K=iY a' b' x' K:=by cases ha;cases hb;cases hx;rfl
@[congr] theorem Wn {a:TK} {a':TK} {b:TK} {b':TK} {ke:TK} {ke':TK} {kb:TK} {kb':TK} {S:St} {S':St} {x:DV} {x':DV} {K:DV→Prop} (ha:a=a') (hb:b=b') (hke:ke=ke') (hkb:kb=kb') (hS:S=S') (hx:x=x'):jS a b ke kb S x K=jS a' b' ke' kb' S' x' K:=by cases ha;cases hb;cases hke;cases hkb;cases hS;cases hx;rfl
@[congr] theorem Xg {k:TK} {k':TK} {x:DV} {x':DV} {i:DV} {i':DV} {K:DV→Prop} (hk:k=k') (hx:x=x') (hi:i=i'):jd k x i K=jd k' x' i' K:=by cases hk;cases hx;cases hi;rfl
@[congr] theorem aao {d:Option DV} {d':Option DV} {z:Int} {z':Int} {K:Int→Prop} (hd:d=d') (hz:z=z'):mR d z K=mR d' z' K:=by cases hd;cases hz;rfl
@[congr] theorem Wq {k:TK} {k':TK} {x:DV} {x':DV} {lo:Option DV} {lo':Option DV} {hi:Option DV} {hi':Option DV} {mx:Option DV} {mx':Option DV} {K:DV→Prop} (hk:k=k') (hx:x=x') (hlo:lo=lo') (hhi:hi=hi') (hmx:mx=mx'):ib k x lo hi mx K=ib k' x' lo' hi' mx' K:=by cases hk;cases hx;cases hlo;cases hhi;cases hmx;rfl
@[congr] theorem ZG {k:TK} {k':TK} {x:DV} {x':DV} {K:DV→Prop} (hk:k=k') (hx:x=x'):pA k x K=pA k' x' K:=by cases hk;cases hx;rfl
@[congr] theorem Ym {k:TK} {k':TK} {x:DV} {x':DV} {K:DV→Prop} (hk:k=k') (hx:x=x'):um k x K=um k' x' K:=by cases hk;cases hx;rfl
@[congr] theorem ZP {x:DV} {x':DV} {y:DV} {y':DV} {K:DV→Prop} (hx:x=x') (hy:y=y'):uf x y K=uf x' y' K:=by cases hx;cases hy;rfl
@[congr] theorem Ys {x:DV} {x':DV} {y:DV} {y':DV} {K:DV→Prop} (hx:x=x') (hy:y=y'):tA x y K=tA x' y' K:=by cases hx;cases hy;rfl
@[congr] theorem WE {n:Nat} {n':Nat} {S:St} {S':St} {x:DV} {x':DV} {y:DV} {y':DV} {K:St→Prop} (hn:n=n') (hS:S=S') (hx:x=x') (hy:y=y'):ox n S x y K=ox n' S' x' y' K:=by cases hn;cases hS;cases hx;cases hy;rfl
@[congr] theorem UD {n:Nat} {n':Nat} {S:St} {S':St} {x:DV} {x':DV} {y:DV} {y':DV} {K:St→Prop} (hn:n=n') (hS:S=S') (hx:x=x') (hy:y=y'):eu n S x y K=eu n' S' x' y' K:=by cases hn;cases hS;cases hx;cases hy;rfl
@[congr] theorem Mi {k:TK} {k':TK} {z:DV} {z':DV} {len:Nat} {len':Nat} {parts:List (Nat×DV)} {parts':List (Nat×DV)} {K:DV→Prop} (hk:k=k') (hz:z=z') (hlen:len=len') (hparts:parts=parts'):aW k z len parts K=aW k' z' len' parts' K:=by cases hk;cases hz;cases hlen;cases hparts;rfl
@[congr] theorem XD {S:St} {S':St} {d:DV} {d':DV} {K:Nat→List DV→Prop} (hS:S=S') (hd:d=d'):iw S d K=iw S' d' K:=by cases hS;cases hd;rfl
@[congr] theorem YP {s:Nat} {s':Nat} {b:Nat} {b':Nat} {S:St} {S':St} {x:DV} {x':DV} {ys:List DV} {ys':List DV} {K:DV→St→Prop} (hs:s=s') (hb:b=b') (hS:S=S') (hx:x=x') (hys:ys=ys'):wm s b S x ys K=wm s' b' S' x' ys' K:=by cases hs;cases hb;cases hS;cases hx;cases hys;rfl
@[congr] theorem UN {k:TK} {k':TK} {k2:TK} {k2':TK} {S:St} {S':St} {x:DV} {x':DV} {y:DV} {y':DV} {K:DV→St→Prop} (hk:k=k') (hk2:k2=k2') (hS:S=S') (hx:x=x') (hy:y=y'):kL k k2 S x y K=kL k' k2' S' x' y' K:=by cases hk;cases hk2;cases hS;cases hx;cases hy;rfl
@[congr] theorem UP {k:TK} {k':TK} {z:DV} {z':DV} {S:St} {S':St} {x:DV} {x':DV} {y:DV} {y':DV} {K:DV→St→Prop} (hk:k=k') (hz:z=z') (hS:S=S') (hx:x=x') (hy:y=y'):lp k z S x y K=lp k' z' S' x' y' K:=by cases hk;cases hz;cases hS;cases hx;cases hy;rfl
@[congr] theorem XW {k:TK} {k':TK} {k2:TK} {k2':TK} {S:St} {S':St} {x:DV} {x':DV} {y:DV} {y':DV} {K:DV→St→Prop} (hk:k=k') (hk2:k2=k2') (hS:S=S') (hx:x=x') (hy:y=y'):ve k k2 S x y K=ve k' k2' S' x' y' K:=by cases hk;cases hk2;cases hS;cases hx;cases hy;rfl
@[congr] theorem Yd {k:TK} {k':TK} {z:DV} {z':DV} {S:St} {S':St} {x:DV} {x':DV} {y:DV} {y':DV} {K:DV→St→Prop} (hk:k=k') (hz:z=z') (hS:S=S') (hx:x=x') (hy:y=y'):vT k z S x y K=vT k' z' S' x' y' K:=by cases hk;cases hz;cases hS;cases hx;cases hy;rfl
@[congr] theorem XM {k:TK} {k':TK} {S:St} {S':St} {x:DV} {x':DV} {y:DV} {y':DV} {K:DV→St→Prop} (hk:k=k') (hS:S=S') (hx:x=x') (hy:y=y'):zo k S x y K=zo k' S' x' y' K:=by cases hk;cases hS;cases hx;cases hy;rfl
@[congr] theorem Xb {k:TK} {k':TK} {z:DV} {z':DV} {S:St} {S':St} {x:DV} {x':DV} {K:DV→St→Prop} (hk:k=k') (hz:z=z') (hS:S=S') (hx:x=x'):mA k z S x K=mA k' z' S' x' K:=by cases hk;cases hz;cases hS;cases hx;rfl
@[congr] theorem XA {S:St} {S':St} {s:Nat} {s':Nat} {ds:List DV} {ds':List DV} {o:Nat} {o':Nat} {b:Nat} {n:Nat} {n':Nat} {y:DV} {y':DV} {K:DV→St→Prop} (hS:S=S') (hs:s=s') (hds:ds=ds') (ho:o=o') (hn:n=n') (hy:y=y'):Qm S s ds o b n y K=Qm S' s' ds' o' b n' y' K:=by cases hS;cases hs;cases hds;cases ho;cases hn;cases hy;rfl
@[congr] theorem Xt {S:St} {S':St} {s:Nat} {s':Nat} {y:DV} {y':DV} {F:Nat→List DV→Prop} (hS:S=S') (hs:s=s') (hy:y=y'):zj S s y F=zj S' s' y' F:=by cases hS;cases hs;cases hy;rfl
@[congr] theorem Wu {op:BinOp} {k:TK} {k':TK} {x:DV} {x':DV} {K:DV→Prop} (hk:k=k') (hx:x=x'):nM op k x K=nM op k' x' K:=by cases hk;cases hx;rfl
@[congr] theorem XQ {S:St} {S':St} {x:DV} {x':DV} {z:Nat} {z':Nat} {K:DV→St→Prop} (hS:S=S') (hx:x=x') (hz:z=z'):u9 S x z K=u9 S' x' z' K:=by cases hS;cases hx;cases hz;rfl
@[congr] theorem UC {k:TK} {k':TK} {S:St} {S':St} {x:DV} {x':DV} {lo:Option DV} {lo':Option DV} {hi:Option DV} {hi':Option DV} {mx:Option DV} {mx':Option DV} {K:DV→St→Prop} (hk:k=k') (hS:S=S') (hx:x=x') (hlo:lo=lo') (hhi:hi=hi') (hmx:mx=mx'):iG k S x lo hi mx K=iG k' S' x' lo' hi' mx' K:=by cases hk;cases hS;cases hx;cases hlo;cases hhi;cases hmx;rfl
@[congr] theorem UJ {k:TK} {k':TK} {S:St} {S':St} {x:DV} {x':DV} {lo:Option DV} {lo':Option DV} {hi:Option DV} {hi':Option DV} {mx:Option DV} {mx':Option DV} {K:DV→St→Prop} (hk:k=k') (hS:S=S') (hx:x=x') (hlo:lo=lo') (hhi:hi=hi') (hmx:mx=mx'):jq k S x lo hi mx K=jq k' S' x' lo' hi' mx' K:=by cases hk;cases hS;cases hx;cases hlo;cases hhi;cases hmx;rfl
@[congr] theorem Ms {k:TK} {k':TK} {z:DV} {z':DV} {x:DV} {x':DV} {y:DV} {y':DV} {S:St} {S':St} {K:DV→St→Prop} (hk:k=k') (hz:z=z') (hx:x=x') (hy:y=y') (hS:S=S'):dX k z x y S K=dX k' z' x' y' S' K:=by cases hk;cases hz;cases hx;cases hy;cases hS;rfl
@[congr] theorem ZT {S:St} {S':St} {d:DV} {d':DV} {K:DV→St→Prop} (hS:S=S') (hd:d=d'):lZ S d K=lZ S' d' K:=by cases hS;cases hd;rfl
@[congr] theorem Yf {S:St} {S':St} {d:List DV} {d':List DV} {K:List DV→St→Prop} (hS:S=S') (hd:d=d'):me S d K=me S' d' K:=by cases hS;cases hd;rfl
@[congr] theorem Z6 {S:St} {S':St} {d:DV} {d':DV} {K:DV→St→Prop} (hS:S=S') (hd:d=d'):shr S d K=shr S' d' K:=by cases hS;cases hd;rfl
@[congr] theorem ZL {S:St} {S':St} {d:List DV} {d':List DV} {K:List DV→St→Prop} (hS:S=S') (hd:d=d'):gk S d K=gk S' d' K:=by cases hS;cases hd;rfl
@[congr] theorem Zt {S:St} {S':St} {d:DV} {d':DV} {K:DV→St→Prop} (hS:S=S') (hd:d=d'):pM S d K=pM S' d' K:=by cases hS;cases hd;rfl
@[congr] theorem Xx {S:St} {S':St} {d:List DV} {d':List DV} {F:List DV→St→Prop} (hS:S=S') (hd:d=d'):iz S d F=iz S' d' F:=by cases hS;cases hd;rfl
@[congr] theorem Z7 {p:Option (Nat×Nat×Bool)} {p':Option (Nat×Nat×Bool)} {x:DV} {x':DV} {K:DV→Prop} (hp:p=p') (hx:x=x'):Tf p x K=Tf p' x' K:=by cases hp;cases hx;rfl
@[congr] theorem aax {p:Option (Nat×Nat×Bool)} {p':Option (Nat×Nat×Bool)} {ds:List DV} {ds':List DV} {K:DV→Prop} (hp:p=p') (hds:ds=ds'):fvK p ds K=fvK p' ds' K:=by cases hp;cases hds;rfl
@[congr] theorem aaY {t:Nat} {t':Nat} {d:DV} {d':DV} {fr:List DV} {fr':List DV} {want:Bool} {want':Bool} {A:List DV→Prop} {B:List DV→Prop} (ht:t=t') (hd:d=d') (hfr:fr=fr') (hwant:want=want'):gD t d fr want A B=gD t' d' fr' want' A B:=by cases ht;cases hd;cases hfr;cases hwant;rfl
@[congr] theorem abJ {t:Option Tmp} {t':Option Tmp} {fr:List DV} {fr':List DV} {want:Bool} {want':Bool} {A:List DV→Prop} {B:List DV→Prop} (ht:t=t') (hfr:fr=fr') (hwant:want=want'):gK t fr want A B=gK t' fr' want' A B:=by cases ht;cases hfr;cases hwant;rfl
@[congr] theorem U6 {ops:Array Oper} {fr:List DV} {fr':List DV} {gd:Option (Nat×Bool)} {gd':Option (Nat×Bool)} {A:List DV→Prop} {B:List DV→Prop} (hfr:fr=fr') (hgd:gd=gd'):bP ops fr gd A B=bP ops fr' gd' A B:=by cases hfr;cases hgd;rfl
@[congr] theorem aal {k:TK} {k':TK} {z:DV} {z':DV} {parts:List (Nat×DV)} {parts':List (Nat×DV)} {K:DV→Prop} (hk:k=k') (hz:z=z') (hparts:parts=parts'):VQ k z parts K=VQ k' z' parts' K:=by cases hk;cases hz;cases hparts;rfl
@[congr] theorem Z4 {xs:List DV} {xs':List DV} {i:Nat} {i':Nat} {F:DV→Prop} (hxs:xs=xs') (hi:i=i'):GX xs i F=GX xs' i' F:=by cases hxs;cases hi;rfl
@[congr] theorem aaL {xs:List DV} {xs':List DV} {i:Nat} {i':Nat} {F:DV→Prop} (hxs:xs=xs') (hi:i=i'):Ov xs i F=Ov xs' i' F:=by cases hxs;cases hi;rfl
@[congr] theorem aby {o:Option Ob} {o':Option Ob} {F:Nat→List DV→Prop} {G:Nat→List DV→Prop} (ho:o=o'):bK o F G=bK o' F G:=by cases ho;rfl
@[congr] theorem aaX {o:Option Ob} {o':Option Ob} {F:KK→List (Value×DV×Nat)→Nat→Prop} (ho:o=o'):xK o F=xK o' F:=by cases ho;rfl
@[congr] theorem ab3 {o:Option Ob} {o':Option Ob} {F:Nat→Nat→List Nat→Nat→Prop} (ho:o=o'):iK o F=iK o' F:=by cases ho;rfl
@[congr] theorem aam {o:Option Ob} {o':Option Ob} {G:Prop} {F:Nat→Nat→List Nat→Nat→Prop} (ho:o=o'):UZ o G F=UZ o' G F:=by cases ho;rfl
@[congr] theorem aaG {o:Option DV} {o':Option DV} {F:DV→Prop} {G:Prop} (ho:o=o'):SQ o F G=SQ o' F G:=by cases ho;rfl
@[congr] theorem Uz {m:Option (KK×DV)} {m':Option (KK×DV)} {S:St} {S':St} {x:DV} {x':DV} {y:DV} {y':DV} {ok:Bool} {ok':Bool} {K:DV→Prop} (hm:m=m') (hS:S=S') (hx:x=x') (hy:y=y') (hok:ok=ok'):cc m S x y ok K=cc m' S' x' y' ok' K:=by cases hm;cases hS;cases hx;cases hy;cases hok;rfl
@[congr] theorem UM {m:Option (KK×DV)} {m':Option (KK×DV)} {S:St} {S':St} {x:DV} {x':DV} {y:DV} {y':DV} {d:DV} {d':DV} {K:St→Prop} (hm:m=m') (hS:S=S') (hx:x=x') (hy:y=y') (hd:d=d'):fN m S x y d K=fN m' S' x' y' d' K:=by cases hm;cases hS;cases hx;cases hy;cases hd;rfl
@[congr] theorem UX {m:Option (KK×DV)} {m':Option (KK×DV)} {S:St} {S':St} {x:DV} {x':DV} {y:DV} {y':DV} {K:St→Prop} (hm:m=m') (hS:S=S') (hx:x=x') (hy:y=y'):jH m S x y K=jH m' S' x' y' K:=by cases hm;cases hS;cases hx;cases hy;rfl
@[congr] theorem aan {k:TK} {k':TK} {m:Option (KK×DV)} {m':Option (KK×DV)} {S:St} {S':St} {x:DV} {x':DV} {K:DV→St→Prop} (hk:k=k') (hm:m=m') (hS:S=S') (hx:x=x'):P7 k m S x K=P7 k' m' S' x' K:=by cases hk;cases hm;cases hS;cases hx;rfl
@[congr] theorem UR {S:St} {S':St} {x:DV} {x':DV} {K:DV→St→Prop} (hS:S=S') (hx:x=x'):kW S x K=kW S' x' K:=by cases hS;cases hx;rfl
@[congr] theorem aab {b:Bool} {b':Bool} {S:St} {S':St} {x:DV} {x':DV} {K:DV→St→Prop} (hb:b=b') (hS:S=S') (hx:x=x'):RK b S x K=RK b' S' x' K:=by cases hb;cases hS;cases hx;rfl
@[congr] theorem Xc {S:St} {S':St} {x:DV} {x':DV} {K:DV→St→Prop} (hS:S=S') (hx:x=x'):l7 S x K=l7 S' x' K:=by cases hS;cases hx;rfl
@[congr] theorem aag {o:Option Ob} {o':Option Ob} {F:ByteArray→Nat→Prop} (ho:o=o'):V5 o F=V5 o' F:=by cases ho;rfl
@[congr] theorem Vb {m:Option (KK×DV)} {m':Option (KK×DV)} {S:St} {S':St} {x:DV} {x':DV} {K:DV→St→Prop} (hm:m=m') (hS:S=S') (hx:x=x'):lA m S x K=lA m' S' x' K:=by cases hm;cases hS;cases hx;rfl
@[congr] theorem Tw {m:Option (KK×DV)} {m':Option (KK×DV)} {r:Option Operand} {S:St} {S':St} {K:DV→St→Prop} (hm:m=m') (hS:S=S'):iS m r S K=iS m' r S' K:=by cases hm;cases hS;rfl
@[congr] theorem XI {S:St} {S':St} {x:DV} {x':DV} {s:Bool} {s':Bool} {K:DV→St→Prop} (hS:S=S') (hx:x=x') (hs:s=s'):sY S x s K=sY S' x' s' K:=by cases hS;cases hx;cases hs;rfl
@[congr] theorem Vx {S:St} {S':St} {x:DV} {x':DV} {K:DV→Prop} (hS:S=S') (hx:x=x'):mB S x K=mB S' x' K:=by cases hS;cases hx;rfl
@[congr] theorem aaR {α:Type} {o o':Option α} {F:α→Prop} (h:o=o'):oK o F=oK o' F:=by cases h;rfl
@[congr] theorem Y6 {P:Program} {w0:W0} {op:Op} {fr:List DV} {fr':List DV} {S:St} {S':St} {K:DV→St→Prop} (hfr:fr=fr') (hS:S=S'):aH P w0 op fr S K=aH P w0 op fr' S' K:=by cases hfr;cases hS;rfl
@[congr] theorem XJ {P:Program} {w0:W0} {op:Op} {fr:List DV} {fr':List DV} {S:St} {S':St} {K:DV→Prop} (hfr:fr=fr') (hS:S=S'):aS P w0 op fr S K=aS P w0 op fr' S' K:=by cases hfr;cases hS;rfl
@[congr] theorem Xz {P:Program} {w0:W0} {cal:DV} {cal':DV} {ds:List DV} {ds':List DV} {S:St} {S':St} {K:DV→St→Prop} (hcal:cal=cal') (hds:ds=ds') (hS:S=S'):oE P w0 cal ds S K=oE P w0 cal' ds' S' K:=by cases hcal;cases hds;cases hS;rfl
@[congr] theorem Vt {P:Program} {w0:W0} {cal:DV} {cal':DV} {ds:List DV} {ds':List DV} {S:St} {S':St} {K:DV→Prop} (hcal:cal=cal') (hds:ds=ds') (hS:S=S'):nV P w0 cal ds S K=nV P w0 cal' ds' S' K:=by cases hcal;cases hds;cases hS;rfl
@[congr] theorem Z3 {P:Program} {w0:W0} {ops:Array Oper} {K:List DV→St→Prop} {l:List Oper} {fr:List DV} {fr':List DV} {S:St} {S':St} (hfr:fr=fr') (hS:S=S'):rV P w0 ops K l fr S=rV P w0 ops K l fr' S':=by cases hfr;cases hS;rfl
@[congr] theorem Xv {P:Program} {op:BinOp} {t:TypeId} {cx:Bool} {cx':Bool} {cy:Bool} {cy':Bool} {x:DV} {x':DV} {y:DV} {y':DV} {K:DV→Prop} (hcx:cx=cx') (hcy:cy=cy') (hx:x=x') (hy:y=y'):kB P op t cx cy x y K=kB P op t cx' cy' x' y' K:=by cases hcx;cases hcy;cases hx;cases hy;rfl
@[congr] theorem VE {P:Program} {t:TypeId} {parts:List (Nat×DV)} {parts':List (Nat×DV)} {K:DV→Prop} (hparts:parts=parts'):eS P t parts K=eS P t parts' K:=by cases hparts;rfl
@[congr] theorem UA {P:Program} {t:TypeId} {ok:Bool} {ok':Bool} {x:DV} {x':DV} {K:DV→Prop} (hok:ok=ok') (hx:x=x'):rJ P t ok x K=rJ P t ok' x' K:=by cases hok;cases hx;rfl
@[congr] theorem Xr {P:Program} {fr:List DV} {fr':List DV} {S:St} {S':St} {K:DV→Prop} {r:ResultVar} (hfr:fr=fr') (hS:S=S'):rk P fr S K r=rk P fr' S' K r:=by cases hfr;cases hS;rfl
@[congr] theorem Xu {P:Program} {fr:List DV} {fr':List DV} {S:St} {S':St} {r:List ResultVar} {K:List DV→Prop} (hfr:fr=fr') (hS:S=S'):sW P fr S r K=sW P fr' S' r K:=by cases hfr;cases hS;rfl
@[congr] theorem Zk {P:Program} {fr:List DV} {fr':List DV} {S:St} {S':St} {r:List ResultVar} {K:DV→Prop} (hfr:fr=fr') (hS:S=S'):mV P fr S r K=mV P fr' S' r K:=by cases hfr;cases hS;rfl
def cF(b:Bool)(A B:Prop):Prop:=match b with
 |true=>A
 |false=>B
theorem NL(A B:Prop):cF true A B=A:=rfl
theorem On(A B:Prop):cF false A B=B:=rfl
@[congr] theorem Y4 {b b':Bool} {A B:Prop} (h:b=b'):cF b A B=cF b' A B:=by cases h;rfl
theorem Nv(S:St)(ds:List DV)(F:List DV→St→Prop):iz S ds F=cF (fH ds) (F ds S∨gk S ds F) (gk S ds F):=by
 unfold iz cF;cases fH ds <;>rfl
attribute [go_sem ↓] NL On Nv
def GZ(S:St)(d:DV)(K:DV→St→Prop):Prop:=∀b,jT S.box b→K (.v (.pointer (some ⟨b,0,none⟩))) ⟨(b,cd d)::S.box,S.acc⟩
@[congr] theorem Z0 {S S':St} {d d':DV} {K:DV→St→Prop} (h1:S=S') (h2:d=d'):GZ S d K=GZ S' d' K:=by cases h1;cases h2;rfl
theorem Cw(x:Operand):pO (.move x)=true:=rfl
theorem wc(x:Operand):pO (.assign x)=true:=rfl
theorem Bl(c a b:Operand):pO (.pick c a b)=true:=rfl
theorem A5(t:TypeId)(x:Operand):pO (.load t x)=true:=rfl
theorem rp(t:TypeId)(x:Operand)(f:Nat):pO (.fieldAddr t x f)=true:=rfl
theorem rv(t:TypeId)(x i:Operand):pO (.indexAddr t x i)=true:=rfl
theorem uR(x:Operand)(i:Nat):pO (.extract x i)=true:=rfl
theorem tw(x:Operand):pO (.nilCheck x)=true:=rfl
theorem Ah(b:BinOp)(t:TypeId)(x y:Operand)(t':TypeId):pO (.binOp b t x y t')=true:=rfl
theorem BX(b:UnOp)(t:TypeId)(x:Operand):pO (.unOp b t x)=true:=rfl
theorem zI(t:TypeId)(parts:Array (Nat×Operand)):pO (.build t parts)=true:=rfl
theorem pG(t:TypeId)(len:Nat)(parts:Array (Nat×Operand)):pO (.buildSlice t len parts)=true:=rfl
theorem tQ(fn:Fn)(a b:Array Operand):pO (.makeFunc fn a b)=true:=rfl
theorem yX(t:TypeId)(x:Operand)(lo hi mx:Option Operand):pO (.slice t x lo hi mx)=true:=rfl
theorem yB(t:TypeId)(x y:Operand):pO (.store t x y)=false:=rfl
theorem wW(t:TypeId)(x i:Operand)(ok:Bool):pO (.lookup t x i ok)=true:=rfl
theorem ry(t:TypeId)(m k v:Operand):pO (.mapUpdate t m k v)=false:=rfl
theorem Fi(x:Operand)(a:Array Operand)(ts:Array TypeId):pO (.call ⟨.value x,a,ts⟩)=true:=rfl
theorem zT(a:Array Operand)(ts:Array TypeId):pO (.call ⟨.builtin .len,a,ts⟩)=true:=rfl
theorem uo(a:Array Operand)(ts:Array TypeId):pO (.call ⟨.builtin .append,a,ts⟩)=false:=rfl
theorem ua(a:Array Operand)(ts:Array TypeId):pO (.call ⟨.builtin .delete,a,ts⟩)=false:=rfl
theorem Lf(fr:List DV)(t:Nat):ev fr (.tmp t)=fr.getD t ud:=rfl
theorem BP(fr:List DV)(u:Value):ev fr (.const u)=cv u:=rfl
theorem Fl(fr:List DV)(f:FuncId):ev fr (.func f)= .v (.func (.func f) #[] #[]):=rfl
theorem Fq(fr:List DV)(t:Nat)(d:DV):pt fr (some t) d=fr.set t d:=rfl
theorem Gl(fr:List DV)(d:DV):pt fr none d=fr:=rfl
theorem Io(k:IntKind)(n:Int):cv (.int k n)= .v (.int k n):=rfl
theorem EV(b:Bool):cv (.bool b)= .v (.bool b):=rfl
theorem Lq(s:ByteArray):cv (.string s)= .v (.string s):=rfl
theorem Kx:cv (.slice none 0 0)= .sl 0 true []:=rfl
theorem G4(a:Option Addr):cv (.pointer a)= .v (.pointer a):=rfl
theorem Ll(a:Option Nat):cv (.map a)= .v (.map a):=rfl
theorem Ij:cv (.nilFunc)= .v .nilFunc:=rfl
theorem zZ:rf (.str)=false:=rfl
theorem yH(k:IntKind):rf (.int k)=false:=rfl
theorem Cp(k:IntKind):uN (.int k)=true:=rfl
theorem Fc(e s b:Nat)(i:Bool):uN (.sl e s b i)=false:=rfl
theorem zO(e s b:Nat)(i:Bool):uh (.sl e s b i)=true:=rfl
theorem K9(u:Value):uY (.v u)=true:=rfl
theorem FH(s:Nat)(f:Bool)(xs:List DV):uY (.sl s f xs)=true:=rfl
theorem FE(u:Value):fk (.v u)=true:=rfl
theorem CF(s:Nat)(f:Bool)(xs:List DV):fk (.sl s f xs)=true:=rfl
theorem yu(ds:List DV):fk (.agg ds)=ds.all uY:=rfl
theorem F4(t:Nat):xX (.tmp t)=false:=rfl
theorem yq(u:Value):xX (.const u)=true:=rfl
theorem BH:cU []=some []:=rfl
theorem IZ(u:Value)(ds:List DV):cU (.v u::ds)=(cU ds).map (u::·):=rfl
theorem yC(fs:List (Nat×Nat×Bool))(ds:List DV):kj fs ds []=some ds:=rfl
def YJ(p:Option (Nat×Nat×Bool))(fs:List (Nat×Nat×Bool))(d:DV)(ds:List DV)(rest:List (Nat×DV)):Option (List DV):=match p with
 |none=>none
 |some (off,sz,_)=>if eW d&&(cd d).length==sz&&decide (off+sz≤ds.length)then kj fs (gn ds off (cd d)) rest else none
theorem xL(fs:List (Nat×Nat×Bool))(ds:List DV)(i:Nat)(d:DV)(rest:List (Nat×DV)):kj fs ds ((i,d)::rest)=YJ (fs[i]?) fs d ds rest:=by rw[kj];unfold YJ;cases fs[i]? <;>rfl
theorem Vn(off sz:Nat)(ag:Bool)(fs:List (Nat×Nat×Bool))(d:DV)(ds:List DV)(rest:List (Nat×DV)):YJ (some (off,sz,ag)) fs d ds rest=if eW d&&(cd d).length==sz&&decide (off+sz≤ds.length)then kj fs (gn ds off (cd d)) rest else none:=rfl
theorem yF(s:Nat)(ds:List DV):nk s ds []=some ds:=rfl
theorem w7(s:Nat)(ds:List DV)(i:Nat)(d:DV)(rest:List (Nat×DV)):nk s ds ((i,d)::rest)=if eW d&&(cd d).length==s&&decide (i<ds.length)then nk s (ds.set i d) rest else none:=rfl
theorem xJ(ds:List DV)(o:Nat):gn ds o []=ds:=rfl
theorem uP(ds:List DV)(o:Nat)(c:DV)(cs:List DV):gn ds o (c::cs)=gn (ds.set o c) (o+1) cs:=rfl
theorem zK(d:DV)(n:Nat)(y:DV):uc d 0 n n y=some y:=by simp[uc]
theorem Cu(k:Nat)(x:Ob)(t:List (Nat×Ob))(p:Nat×Ob):Mt ((k,x)::t) k p=p::t:=by simp[Mt]
theorem AI(k:IntKind):sameKind .add k k=true:=by simp[sameKind]
theorem Co(k:IntKind):sameKind .sub k k=true:=by simp[sameKind]
theorem AR(k:IntKind):sameKind .mul k k=true:=by simp[sameKind]
theorem BV(k:IntKind):sameKind .quo k k=true:=by simp[sameKind]
theorem CM(k:IntKind):sameKind .rem k k=true:=by simp[sameKind]
theorem AS(k:IntKind):sameKind .and k k=true:=by simp[sameKind]
theorem D9(k:IntKind):sameKind .or k k=true:=by simp[sameKind]
theorem C0(k:IntKind):sameKind .xor k k=true:=by simp[sameKind]
theorem Bh(k:IntKind):sameKind .eql k k=true:=by simp[sameKind]
theorem CY(k:IntKind):sameKind .neq k k=true:=by simp[sameKind]
theorem Ba(k:IntKind):sameKind .lss k k=true:=by simp[sameKind]
theorem AJ(k:IntKind):sameKind .leq k k=true:=by simp[sameKind]
theorem CP(k:IntKind):sameKind .gtr k k=true:=by simp[sameKind]
theorem CV(k:IntKind):sameKind .geq k k=true:=by simp[sameKind]
theorem CQ(k k':IntKind):sameKind .shl k k'=true:=rfl
theorem B0(k k':IntKind):sameKind .shr k k'=true:=rfl
theorem uJ{α:Type}(a:α):List.replicate 0 a=[]:=rfl
theorem uO{α:Type}(n:Nat)(a:α):List.replicate (n+1) a=a::List.replicate n a:=rfl
theorem N3{α:Type}(a b:α)(l:List α):(a::l).set 0 b=b::l:=rfl
theorem NY{α:Type}(a b:α)(l:List α)(n:Nat):(a::l).set (n+1) b=a::l.set n b:=rfl
theorem Zb(live:List Nat)(fr:List DV):wk live fr=dE (va fr 0 live):=rfl
theorem E3(i:Nat)(js:List Nat):va [] i js=[]:=rfl
theorem M7(d:DV)(ds:List DV)(i:Nat):va (d::ds) i []= .any::va ds (i+1) []:=rfl
theorem OD(d:DV)(ds:List DV)(i j:Nat)(js:List Nat):va (d::ds) i (j::js)=if i=j then d::va ds (i+1) js else .any::va ds (i+1) (j::js):=rfl
theorem BL(fr:List DV):kC fr []=fr:=rfl
theorem yj(fr:List DV)(i:Nat)(d:DV)(us:List (Nat×DV)):kC fr ((i,d)::us)=kC (fr.set i d) us:=rfl
theorem FM(w0:W0)(fr:List DV)(n:Nat)(F:DV→Prop):F0 w0 fr (.tmp n) F=F (ev fr (.tmp n)):=rfl
theorem B7(w0:W0)(fr:List DV)(b:Nat)(F:DV→Prop):F0 w0 fr (.global b) F=qP w0 b F:=rfl
theorem RJ{P:Program}{w0:W0}{fr:List DV}{S:St}{K:DV→St→Prop}(x:Operand):aH P w0 (.move x) fr S K=(K (ev fr x) S):=rfl
theorem LG{P:Program}{w0:W0}{fr:List DV}{S:St}{K:DV→St→Prop}(x:Operand):aH P w0 (.assign x) fr S K=(K (ev fr x) S):=rfl
theorem Tg{P:Program}{w0:W0}{fr:List DV}{S:St}{K:DV→St→Prop}(c a b:Operand):aH P w0 (.pick c a b) fr S K=(iT (ev fr c) (ev fr a) (ev fr b) (K · S)):=rfl
theorem QG{P:Program}{w0:W0}{fr:List DV}{S:St}{K:DV→St→Prop}(t:TypeId)(x:Operand):aH P w0 (.load t x) fr S K=(bE (tk P t) S (ev fr x) (K · S)):=rfl
theorem yr{P:Program}{w0:W0}{fr:List DV}{S:St}{K:DV→St→Prop}(t:TypeId)(x:Operand)(f:Nat):aH P w0 (.fieldAddr t x f) fr S K=(gC (tk P t) f (ev fr x) (K · S)):=rfl
theorem zy{P:Program}{w0:W0}{fr:List DV}{S:St}{K:DV→St→Prop}(t:TypeId)(x i:Operand):aH P w0 (.indexAddr t x i) fr S K=(F0 w0 fr x fun d=>aK (tk P t) d (ev fr i) (K · S)):=rfl
theorem Og{P:Program}{w0:W0}{fr:List DV}{S:St}{K:DV→St→Prop}(t:TypeId)(x i:Operand):aH P w0 (.index t x i) fr S K=(jd (tk P t) (ev fr x) (ev fr i) (K · S)):=rfl
theorem Gi{P:Program}{w0:W0}{fr:List DV}{S:St}{K:DV→St→Prop}(x:Operand)(i:Nat):aH P w0 (.extract x i) fr S K=(dc i (ev fr x) (K · S)):=rfl
theorem AN{P:Program}{w0:W0}{fr:List DV}{S:St}{K:DV→St→Prop}(x:Operand):aH P w0 (.nilCheck x) fr S K=(notNil (ev fr x)=true∧K (ev fr x) S):=rfl
theorem Nu{P:Program}{w0:W0}{fr:List DV}{S:St}{K:DV→St→Prop}(b:BinOp)(t:TypeId)(x y:Operand)(t':TypeId):aH P w0 (.binOp b t x y t') fr S K=(cF (gl y) (nM b (tk P t) (ev fr x) (K · S)) (kB P b t (xX x) (xX y) (ev fr x) (ev fr y) (K · S))):=by simp only[aH];unfold cF;cases gl y <;>rfl
theorem Q1{P:Program}{w0:W0}{fr:List DV}{S:St}{K:DV→St→Prop}(b:UnOp)(t:TypeId)(x:Operand):aH P w0 (.unOp b t x) fr S K=(Db b (ev fr x) (K · S)):=rfl
theorem GQ{P:Program}{w0:W0}{fr:List DV}{S:St}{K:DV→St→Prop}(s d:TypeId)(x:Operand):aH P w0 (.convert s d x) fr S K=(jS (tk P s) (tk P d) (tk P (dO P s)) (tk P (dO P d)) S (ev fr x) (K · S)):=rfl
theorem Mw{P:Program}{w0:W0}{fr:List DV}{S:St}{K:DV→St→Prop}(t:TypeId)(x:Operand):aH P w0 (.makeInterface t x) fr S K=(rf (tk P t)=false∧shr S (ev fr x) fun d S=>K (.jM t d) S):=rfl
theorem O2{P:Program}{w0:W0}{fr:List DV}{S:St}{K:DV→St→Prop}(t:TypeId)(parts:List (Nat×Operand)):aH P w0 (.build t parts.toArray) fr S K=(gk S (parts.map fun p=>ev fr p.2) fun ds S=>eS P t ((parts.map (·.1)).zip ds) (K · S)):=rfl
theorem xq{P:Program}{w0:W0}{fr:List DV}{S:St}{K:DV→St→Prop}(t:TypeId)(len:Nat)(parts:List (Nat×Operand)):aH P w0 (.buildSlice t len parts.toArray) fr S K=(gk S (parts.map fun p=>ev fr p.2) fun ds S=>aW (tk P t) (zD P (dO P t)) len ((parts.map (·.1)).zip ds) (K · S)):=rfl
theorem AT{P:Program}{w0:W0}{fr:List DV}{S:St}{K:DV→St→Prop}(fn:Fn)(a b:List Operand):aH P w0 (.makeFunc fn a.toArray b.toArray) fr S K=(mn fn (a.map (ev fr)) (b.map (ev fr)) (K · S)):=rfl
theorem NU{P:Program}{w0:W0}{fr:List DV}{S:St}{K:DV→St→Prop}(t:TypeId)(x:Operand)(lo hi mx:Option Operand):aH P w0 (.slice t x lo hi mx) fr S K=((mx.isSome=true→hi.isSome=true)∧iG (tk P t) S (ev fr x) (lo.map (ev fr)) (hi.map (ev fr)) (mx.map (ev fr)) K):=rfl
theorem VA{P:Program}{w0:W0}{fr:List DV}{S:St}{K:DV→St→Prop}(t:TypeId)(x:Operand):aH P w0 (.box t x) fr S K=(eW (ev fr x)=true∧GZ S (ev fr x) K):=rfl
theorem Pq{P:Program}{w0:W0}{fr:List DV}{S:St}{K:DV→St→Prop}(t:TypeId):aH P w0 (.alloc t) fr S K=(eW (zD P t)=true∧GZ S (zD P t) K):=rfl
theorem O8{P:Program}{w0:W0}{fr:List DV}{S:St}{K:DV→St→Prop}(t:TypeId)(x y:Operand):aH P w0 (.store t x y) fr S K=((P.info? t).isSome=true∧eu (P.cellsOf t) S (ev fr x) (ev fr y) (K ud)):=rfl
theorem yK{P:Program}{w0:W0}{fr:List DV}{S:St}{K:DV→St→Prop}(t:TypeId)(x y:Operand):aH P w0 (.makeSlice t x y) fr S K=(dX (tk P t) (zD P (dO P t)) (ev fr x) (ev fr y) S K):=rfl
theorem VL{P:Program}{w0:W0}{fr:List DV}{S:St}{K:DV→St→Prop}(x:Operand)(t:TypeId):aH P w0 (.call ⟨.builtin .len, #[x], #[t]⟩) fr S K=(pA (tk P t) (ev fr x) (K · S)):=rfl
theorem V8{P:Program}{w0:W0}{fr:List DV}{S:St}{K:DV→St→Prop}(x:Operand)(t:TypeId):aH P w0 (.call ⟨.builtin .cap, #[x], #[t]⟩) fr S K=(um (tk P t) (ev fr x) (K · S)):=rfl
theorem JF{P:Program}{w0:W0}{fr:List DV}{S:St}{K:DV→St→Prop}(x y:Operand)(t t':TypeId):aH P w0 (.call ⟨.builtin .append, #[x,y], #[t,t']⟩) fr S K=(cF (vE (ev fr x)) (cF (uN (tk P t')) (vT (tk P t) (zD P (dO P t)) S (ev fr x) (ev fr y) K) (ve (tk P t) (tk P t') S (ev fr x) (ev fr y) K)) (cF (uN (tk P t')) (lp (tk P t) (zD P (dO P t)) S (ev fr x) (ev fr y) K) (kL (tk P t) (tk P t') S (ev fr x) (ev fr y) K))):=by simp only[aH];unfold cF;cases vE (ev fr x) <;>cases uN (tk P t') <;>rfl
theorem M0{P:Program}{w0:W0}{fr:List DV}{S:St}{K:DV→St→Prop}(x:Operand)(t:TypeId):aH P w0 (.call ⟨.builtin .clear, #[x], #[t]⟩) fr S K=(mA (tk P t) (zD P (dO P t)) S (ev fr x) K):=rfl
theorem Vl{P:Program}{w0:W0}{fr:List DV}{S:St}{K:DV→St→Prop}(x y:Operand)(ts:Array TypeId):aH P w0 (.call ⟨.builtin .min, #[x,y],ts⟩) fr S K=(uf (ev fr x) (ev fr y) (K · S)):=rfl
theorem WH{P:Program}{w0:W0}{fr:List DV}{S:St}{K:DV→St→Prop}(x y:Operand)(ts:Array TypeId):aH P w0 (.call ⟨.builtin .max, #[x,y],ts⟩) fr S K=(tA (ev fr x) (ev fr y) (K · S)):=rfl
theorem Ur{P:Program}{w0:W0}{fr:List DV}{S:St}{K:DV→St→Prop}(cal:Operand)(a:List Operand)(ts:Array TypeId):aH P w0 (.call ⟨.value cal,a.toArray,ts⟩) fr S K=(oE P w0 (ev fr cal) (a.map (ev fr)) S K):=rfl
theorem JR{P:Program}{w0:W0}{fr:List DV}{S:St}{K:DV→St→Prop}(t:TypeId)(x y:Operand)(ok:Bool):aH P w0 (.lookup t x y ok) fr S K=(cc (mZ P t) S (ev fr x) (ev fr y) ok (K · S)):=rfl
theorem KI{P:Program}{w0:W0}{fr:List DV}{S:St}{K:DV→St→Prop}(t:TypeId)(x y z:Operand):aH P w0 (.insert t x y z) fr S K=(fN (mZ P t) S (ev fr x) (ev fr y) (ev fr z) (K ud)):=rfl
theorem yf{P:Program}{w0:W0}{fr:List DV}{S:St}{K:DV→St→Prop}(t:TypeId)(x y z:Operand):aH P w0 (.mapUpdate t x y z) fr S K=(fN (mZ P t) S (ev fr x) (ev fr y) (ev fr z) (K ud)):=rfl
theorem Fe{P:Program}{w0:W0}{fr:List DV}{S:St}{K:DV→St→Prop}(t:TypeId)(r:Option Operand):aH P w0 (.makeMap t r) fr S K=(iS (mZ P t) r S K):=rfl
theorem Nb{P:Program}{w0:W0}{fr:List DV}{S:St}{K:DV→St→Prop}(t:TypeId)(x:Operand):aH P w0 (.range t x) fr S K=(P7 (tk P t) (mZ P t) S (ev fr x) K):=rfl
theorem SV{P:Program}{w0:W0}{fr:List DV}{S:St}{K:DV→St→Prop}(x:Operand)(s:Bool):aH P w0 (.next x s) fr S K=(RK s S (ev fr x) K):=rfl
theorem OY{P:Program}{w0:W0}{fr:List DV}{S:St}{K:DV→St→Prop}(x:Operand):aH P w0 (.entry x) fr S K=(mB S (ev fr x) (K · S)):=rfl
theorem IW{P:Program}{w0:W0}{fr:List DV}{S:St}{K:DV→St→Prop}(x y:Operand)(t t':TypeId):aH P w0 (.call ⟨.builtin .delete, #[x,y], #[t,t']⟩) fr S K=(jH (mZ P t) S (ev fr x) (ev fr y) (K ud)):=rfl
theorem QT{P:Program}{w0:W0}{fr:List DV}{S:St}{K:DV→Prop}(x:Operand):aS P w0 (.move x) fr S K=(K (ev fr x)):=rfl
theorem H4{P:Program}{w0:W0}{fr:List DV}{S:St}{K:DV→Prop}(x:Operand):aS P w0 (.assign x) fr S K=(K (ev fr x)):=rfl
theorem Te{P:Program}{w0:W0}{fr:List DV}{S:St}{K:DV→Prop}(c a b:Operand):aS P w0 (.pick c a b) fr S K=(iT (ev fr c) (ev fr a) (ev fr b) K):=rfl
theorem RN{P:Program}{w0:W0}{fr:List DV}{S:St}{K:DV→Prop}(t:TypeId)(x:Operand):aS P w0 (.load t x) fr S K=(bE (tk P t) S (ev fr x) K):=rfl
theorem yQ{P:Program}{w0:W0}{fr:List DV}{S:St}{K:DV→Prop}(t:TypeId)(x:Operand)(f:Nat):aS P w0 (.fieldAddr t x f) fr S K=(gC (tk P t) f (ev fr x) K):=rfl
theorem yU{P:Program}{w0:W0}{fr:List DV}{S:St}{K:DV→Prop}(t:TypeId)(x i:Operand):aS P w0 (.indexAddr t x i) fr S K=(F0 w0 fr x fun d=>aK (tk P t) d (ev fr i) K):=rfl
theorem F9{P:Program}{w0:W0}{fr:List DV}{S:St}{K:DV→Prop}(x:Operand)(i:Nat):aS P w0 (.extract x i) fr S K=(dc i (ev fr x) K):=rfl
theorem AH{P:Program}{w0:W0}{fr:List DV}{S:St}{K:DV→Prop}(x:Operand):aS P w0 (.nilCheck x) fr S K=(notNil (ev fr x)=true∧K (ev fr x)):=rfl
theorem Oz{P:Program}{w0:W0}{fr:List DV}{S:St}{K:DV→Prop}(b:BinOp)(t:TypeId)(x y:Operand)(t':TypeId):aS P w0 (.binOp b t x y t') fr S K=(gl y=false∧kB P b t (xX x) (xX y) (ev fr x) (ev fr y) K):=rfl
theorem Ul{P:Program}{w0:W0}{fr:List DV}{S:St}{K:DV→Prop}(b:UnOp)(t:TypeId)(x:Operand):aS P w0 (.unOp b t x) fr S K=(Db b (ev fr x) K):=rfl
theorem CU{P:Program}{w0:W0}{fr:List DV}{S:St}{K:DV→Prop}(fn:Fn)(a b:List Operand):aS P w0 (.makeFunc fn a.toArray b.toArray) fr S K=(mn fn (a.map (ev fr)) (b.map (ev fr)) K):=rfl
theorem Ol{P:Program}{w0:W0}{fr:List DV}{S:St}{K:DV→Prop}(t:TypeId)(x:Operand)(lo hi mx:Option Operand):aS P w0 (.slice t x lo hi mx) fr S K=((mx.isSome=true→hi.isSome=true)∧uY (ev fr x)=true∧ib (tk P t) (ev fr x) (lo.map (ev fr)) (hi.map (ev fr)) (mx.map (ev fr)) K):=rfl
theorem Iu{P:Program}{w0:W0}{fr:List DV}{S:St}{K:DV→Prop}(t:TypeId)(x y:Operand)(ok:Bool):aS P w0 (.lookup t x y ok) fr S K=(cc (mZ P t) S (ev fr x) (ev fr y) ok K):=rfl
theorem MX{P:Program}{w0:W0}{fr:List DV}{S:St}{K:DV→Prop}(t:TypeId)(parts:List (Nat×Operand)):aS P w0 (.build t parts.toArray) fr S K=((parts.map fun p=>ev fr p.2).all fk=true∧eS P t ((parts.map (·.1)).zip (parts.map fun p=>ev fr p.2)) K):=rfl
theorem xa{P:Program}{w0:W0}{fr:List DV}{S:St}{K:DV→Prop}(t:TypeId)(len:Nat)(parts:List (Nat×Operand)):aS P w0 (.buildSlice t len parts.toArray) fr S K=((parts.map fun p=>ev fr p.2).all fk=true∧aW (tk P t) (zD P (dO P t)) len ((parts.map (·.1)).zip (parts.map fun p=>ev fr p.2)) K):=rfl
theorem WY{P:Program}{w0:W0}{fr:List DV}{S:St}{K:DV→Prop}(x:Operand)(t:TypeId):aS P w0 (.call ⟨.builtin .len, #[x], #[t]⟩) fr S K=(pA (tk P t) (ev fr x) K):=rfl
theorem QH{P:Program}{w0:W0}{fr:List DV}{S:St}{K:DV→Prop}(cal:Operand)(a:List Operand)(ts:Array TypeId):aS P w0 (.call ⟨.value cal,a.toArray,ts⟩) fr S K=(nV P w0 (ev fr cal) (a.map (ev fr)) S K):=rfl
attribute [go_sem ↓] RJ LG Tg QG yr zy Og Gi AN Nu Q1 GQ Mw O2 xq AT NU VA Pq O8 yK VL V8 JF M0 Vl WH Ur JR KI yf Fe Nb SV OY IW
attribute [go_sem ↓] QT H4 Te RN yQ yU F9 AH Oz Ul CU Ol Iu MX xa WY QH
attribute [go_sem] Cw wc Bl A5 rp rv uR tw Ah BX zI pG tQ yX yB wW ry Fi zT uo ua
attribute [go_sem] Lf BP Fl Fq Gl Io EV Lq Kx G4 Ll Ij zZ yH Cp Fc
attribute [go_sem] zO K9 FH FE CF yu F4 yq BH IZ yC xL Vn
attribute [go_sem] yF w7 xJ uP zK Cu AI Co AR BV CM AS D9 C0 Bh CY Ba AJ CP CV CQ B0 uJ uO N3 NY Zb E3 M7 OD BL yj FM
attribute [go_sem] B7
section
variable {P:Program} {w0:W0} {K:DV→Prop} {A B:Prop} {F G:List DV→Prop}
/- Tests:what is known is gone by;what can't be known parts the XT. -/
theorem Iq:dq (.v (.bool true)) A B=A:=by simp[dq]
theorem Lw:dq (.v (.bool false)) A B=B:=by simp[dq]
theorem L3(p:Prop)[Decidable p]:dq (.v (.bool (decide p))) A B=((p→A)∧(¬p→B)):=by simp[dq]
theorem JA(b:Bool):dq (.v (.bool (!b))) A B=dq (.v (.bool b)) B A:=by
 simp only[dq,Bool.not_eq_eq_eq_not,Bool.not_true,Bool.not_false];exact propext ⟨fun h=>⟨h.2,h.1⟩,fun h=>⟨h.2,h.1⟩⟩
theorem Hz(b:Bool):dq (.v (.bool b)) A B=((b=true→A)∧(b=false→B)):=rfl
theorem Jh(a b:DV):iT (.v (.bool true)) a b K=K a:=by simp[iT]
theorem Hl(a b:DV):iT (.v (.bool false)) a b K=K b:=by simp[iT]
/- A choice between what is known is the test itself. -/
theorem MM(t:Nat)(fr:List DV):gD t (.v (.bool true)) fr true F G=F (fr.set t (.v (.bool true))):=by simp[gD]
theorem Od(t:Nat)(fr:List DV):gD t (.v (.bool true)) fr false F G=G (fr.set t (.v (.bool true))):=by simp[gD]
theorem Pn(t:Nat)(fr:List DV):gD t (.v (.bool false)) fr true F G=G (fr.set t (.v (.bool false))):=by simp[gD]
theorem MT(t:Nat)(fr:List DV):gD t (.v (.bool false)) fr false F G=F (fr.set t (.v (.bool false))):=by simp[gD]
theorem N6(p:Prop)[Decidable p](t:Nat)(fr:List DV):gD t (.v (.bool (decide p))) fr true F G=((p→F (fr.set t (.v (.bool true))))∧(¬p→G (fr.set t (.v (.bool false))))):=by simp[gD]
theorem Oi(p:Prop)[Decidable p](t:Nat)(fr:List DV):gD t (.v (.bool (decide p))) fr false F G=((p→G (fr.set t (.v (.bool true))))∧(¬p→F (fr.set t (.v (.bool false))))):=by
 simp only[gD,decide_eq_false_iff_not,Bool.not_false,decide_eq_true_eq];exact propext ⟨fun h=>⟨h.2,h.1⟩,fun h=>⟨h.2,h.1⟩⟩
theorem Dd(b:Bool)(t:Nat)(fr:List DV):gD t (.v (.bool b)) fr true F G=((b=true→F (fr.set t (.v (.bool true))))∧(b=false→G (fr.set t (.v (.bool false))))):=by simp[gD]
theorem Dg(b:Bool)(t:Nat)(fr:List DV):gD t (.v (.bool b)) fr false F G=((b=true→G (fr.set t (.v (.bool true))))∧(b=false→F (fr.set t (.v (.bool false))))):=by
 simp only[gD,Bool.not_false];exact propext ⟨fun h=>⟨h.2,h.1⟩,fun h=>⟨h.2,h.1⟩⟩
end
attribute [go_sem ↓] Iq Lw L3 JA Jh Hl MM Od Pn MT N6 Oi
attribute [go_sem ↓ low] Hz Dd Dg
attribute [go_sem] List.length_cons List.length_nil List.length_map List.cons_append List.nil_append List.map_cons List.map_nil List.zip_cons_cons List.zip_nil_right
section
variable {P:Program} {w0:W0} {ops:Array Oper} {K:List DV→St→Prop} {fr:List DV} {S:St} {rest:List Oper} {dst:Option Tmp} {op:Op} {ty:TypeId} {pos:String} {aft:Array Edge}
theorem Eh:rV P w0 ops K [] fr S=K fr S:=rfl
theorem Bk:rV P w0 ops K (⟨dst,op,ty,pos,aft,none⟩::rest) fr S=aH P w0 op fr S fun d S'=>rV P w0 ops K rest (pt fr dst d) S':=rfl
theorem Bv(j:Nat)(want:Bool):rV P w0 ops K (⟨dst,op,ty,pos,aft,some (j,want)⟩::rest) fr S=gK ((ops[j]?).bind (·.dst)) fr want (fun fr=>aH P w0 op fr S fun d S'=>rV P w0 ops K rest (pt fr dst d) S') (fun fr=>rV P w0 ops K rest (pt fr dst ud) S):=rU _ _ _ _ _ _
end
def QC(P:Program)(w0:W0)(f:FuncId)(ds:List DV)(S:St)[K:Cn (DV→Prop)]:Prop:=∃d,ab P w0 f ds S (fun d' S'=>d'=d∧S'=S)∧K.k d
theorem M3{P:Program}{w0:W0}(f:FuncId)(a cap:Array Value)(ds:List DV)(S:St)(K:DV→Prop):nV P w0 (.v (.func (.func f) a cap)) ds S K=(a.size=0∧okF P f=true∧cap.toList.all (fun u=>u.oneCell')=true∧ds.all fk=true∧@QC P w0 f (ds++cap.toList.map .v) S ⟨K⟩):=rfl
attribute [go_sem ↓] Eh Bk Bv M3 iv gH nu jq sW u9
attribute [go_sem] List.getD_cons_succ List.getD_cons_zero List.getElem?_cons_succ List.getElem?_cons_zero List.getElem?_toArray Option.bind_some List.all_cons List.all_nil Bool.and_self Bool.and_true
attribute [go_sem] Nat.zero_add true_and and_true List.drop_zero List.drop_succ_cons List.take_succ_cons List.take_zero Option.map_some Option.map_none Option.isSome_some Option.isSome_none Option.isNone_none Option.isNone_some
attribute [go_sem] Bool.false_eq_true if_true if_false or_true true_or false_or or_false forall_const false_implies imp_self Bool.not_true Bool.not_false beq_self_eq_true decide_eq_true_eq decide_eq_false_iff_not decide_true decide_false
attribute [go_sem] Int.toNat_natCast Int.natCast_nonneg Int.ofNat_lt Int.ofNat_le Int.natCast_inj List.getElem?_map Option.map_eq_some_iff forall_exists_index and_imp forall_apply_eq_imp_iff₂ forall_eq_apply_imp_iff ne_eq not_false_eq_true not_true_eq_false
attribute [go_sem] List.size_toArray List.append_nil Int.le_refl Nat.le_refl List.drop_nil List.take_nil Int.toNat_zero Int.natCast_zero Int.natCast_one Int.cast_ofNat_Int Bool.or_true Bool.or_false Bool.true_or Bool.false_or Bool.false_and Bool.and_false Bool.true_and List.isEmpty_nil List.isEmpty_cons
attribute [go_sem] dI dU dB dS Nat.lt_add_one forall_eq forall_eq' true_implies implies_true Option.some.injEq
structure FN{α:Type}(l:List (Nat×α)) where
 m:Nat
 h:jT l m
def FN.n{α:Type}{l:List (Nat×α)}(b:FN l):Nat:=b.m
theorem rW{α:Type}(l:List (Nat×α))(F:Nat→Prop):(∀b,jT l b→F b)=∀b:FN l,F b.n:=propext ⟨fun h b=>h b.n b.h,fun h b hb=>h ⟨b,hb⟩⟩
theorem og{α:Type}:∀{l:List (Nat×α)} {b:Nat},jT l b→lk l b=none
 |[],_,_=>rfl
 |(k,x)::t,b,h=>by
  simp only[jT]at h;unfold lk;rw[if_neg (by first|exact fun e=>h.1 e|exact fun e=>h.1 e.symm)];exact og (by first|exact h.2|exact h.2.2)
theorem ao{α:Type}{l:List (Nat×α)}(b:FN l):lk l b.n=none:=og b.h
theorem an{α:Type}{l:List (Nat×α)}(b:FN l)(c:Nat)(h:(lk l c).isSome=true):(b.n=c)=False:=by
 refine eq_false fun e=>?_;subst e;rw[show lk l b.n=none from og b.h]at h;cases h
theorem Jm{α:Type}{l:List (Nat×α)}(b:FN l)(c:Nat)(h:(lk l c).isSome=true):(c=b.n)=False:=by
 refine eq_false fun e=>?_;subst e;rw[show lk l b.n=none from og b.h]at h;cases h
section
variable {S:St} {K:DV→St→Prop}
theorem OG(d:DV):GZ S d K=∀b:FN S.box,K (.v (.pointer (some ⟨b.n,0,none⟩))) ⟨(b.n,cd d)::S.box,S.acc⟩:=rW S.box fun b=>K (.v (.pointer (some ⟨b,0,none⟩))) ⟨(b,cd d)::S.box,S.acc⟩
theorem HS(ds:List DV):GZ S (.agg ds) K=∀b:FN S.box,K (.v (.pointer (some ⟨b.n,0,none⟩))) ⟨(b.n,ds)::S.box,S.acc⟩:=OG _
theorem SZ(u:Value):GZ S (.v u) K=∀b:FN S.box,K (.v (.pointer (some ⟨b.n,0,none⟩))) ⟨(b.n,[.v u])::S.box,S.acc⟩:=OG _
theorem Pb(s:Nat)(f:Bool)(xs:List DV):GZ S (.sl s f xs) K=∀b:FN S.box,K (.v (.pointer (some ⟨b.n,0,none⟩))) ⟨(b.n,[.sl s f xs])::S.box,S.acc⟩:=OG _
end
theorem EK(kk:KK)(z:DV)(S:St)(K:DV→St→Prop):iS (some (kk,z)) none S K=∀l:FN S.acc,K (.mp l.n) ⟨S.box,(l.n,.xo (.mp kk [] 0))::S.acc⟩:=by
 unfold iS;simp only[oK,true_and];exact rW S.acc fun l=>K (.mp l) ⟨S.box,(l,.xo (.mp kk [] 0))::S.acc⟩
def Uy(S:St)(f:XO)(K:DV→St→Prop):Prop:=∀l,jT S.acc l→K (.it l) ⟨S.box,(l,.xo f)::S.acc⟩
theorem Xi(S:St)(f:XO)(K:DV→St→Prop):Uy S f K=∀l:FN S.acc,K (.it l.n) ⟨S.box,(l.n,.xo f)::S.acc⟩:=rW S.acc fun l=>K (.it l) ⟨S.box,(l,.xo f)::S.acc⟩
theorem MN(p:KK×DV)(S:St)(l:Nat)(K:DV→St→Prop):lA (some p) S (.mp l) K=xK (lk S.acc l) fun kk es clk=>Uy S (.it l clk [] clk) K:=by
 unfold lA Uy;simp only[xK,adQ,true_and]
theorem KO(p:KK×DV)(S:St)(K:DV→St→Prop):lA (some p) S (.v (.map none)) K=Uy S .ni K:=by
 unfold lA Uy;simp only[adQ,true_and]
theorem Ks(s:ByteArray)(S:St)(K:DV→St→Prop):kW S (.v (.string s)) K=Uy S (.si s 0) K:=rfl
theorem JT(m:Option (KK×DV))(S:St)(x:DV)(K:DV→St→Prop):P7 .str m S x K=kW S x K:=rfl
theorem IB(k e:TypeId)(m:Option (KK×DV))(S:St)(x:DV)(K:DV→St→Prop):P7 (.map k e) m S x K=lA m S x K:=rfl
theorem TH(S:St)(x:DV)(K:DV→St→Prop):RK true S x K=l7 S x K:=rfl
theorem QJ(S:St)(x:DV)(K:DV→St→Prop):RK false S x K=sY S x false K:=rfl
attribute [go_sem ↓] EK Xi MN KO Ks JT IB TH QJ Vv Oa
attribute [go_sem ↓] rW HS SZ Pb
attribute [go_sem] an Jm Option.isSome_some
noncomputable def pB(P:Prop):Bool:=@decide P (Classical.propDecidable P)
theorem fK{P:Prop}(h:P):pB P=true:=@decide_eq_true _ (Classical.propDecidable _) h
theorem kG{P:Prop}(h:¬P):pB P=false:=@decide_eq_false _ (Classical.propDecidable _) h
theorem qM(P:Prop):(pB P=true)=P:=propext ⟨fun h=>@of_decide_eq_true _ (Classical.propDecidable _) h,fK⟩
theorem zH(P:Prop):(pB P=false)=¬P:=propext ⟨fun h=>@of_decide_eq_false _ (Classical.propDecidable _) h,kG⟩
theorem Wv(P:Prop):(true=pB P)=P:=(propext eq_comm).trans (qM P)
theorem Vh(P:Prop):(false=pB P)=¬P:=(propext eq_comm).trans (zH P)
theorem ZC(P:Prop)[Decidable P]:(true=decide P)=P:=(propext eq_comm).trans decide_eq_true_eq
theorem YQ(P:Prop)[Decidable P]:(false=decide P)=¬P:=(propext eq_comm).trans (propext decide_eq_false_iff_not)
theorem Js(P A B:Prop):dq (.v (.bool (pB P))) A B=((P→A)∧(¬P→B)):=by
 show((pB P=true→A)∧(pB P=false→B))=_;rw[qM,zH]
theorem M8(P:Prop)(t:Nat)(fr:List DV)(F G:List DV→Prop):gD t (.v (.bool (pB P))) fr true F G=((P→F (fr.set t (.v (.bool true))))∧(¬P→G (fr.set t (.v (.bool false))))):=by
 rw[Dd,qM,zH]
theorem NP(P:Prop)(t:Nat)(fr:List DV)(F G:List DV→Prop):gD t (.v (.bool (pB P))) fr false F G=((P→G (fr.set t (.v (.bool true))))∧(¬P→F (fr.set t (.v (.bool false))))):=by
 rw[Dg,qM,zH]
theorem KY(P:Prop):(!pB P)=pB (¬P):=by
 by_cases h:P
 ·rw[fK h,kG (fun k=>k h)];rfl
 ·rw[kG h,fK h];rfl
theorem NS{P Q:Prop}(h:P↔Q):pB P=pB Q:=by rw[propext h]
attribute [go_sem ↓] Js M8 NP
attribute [go_sem] qM zH Wv Vh ZC YQ KY
theorem AY{α β:Type}(f:α→β)(n:Nat)(l:List α):List.take n (List.map f l)=List.map f (List.take n l):=List.map_take.symm
theorem CX{α β:Type}(f:α→β)(n:Nat)(l:List α):List.drop n (List.map f l)=List.map f (List.drop n l):=List.map_drop.symm
theorem FI{α β:Type}(f:α→β)(a b:List α):List.map f a++List.map f b=List.map f (a++b):=aaZ.symm
attribute [go_sem] AY CX FI List.length_append List.length_take List.length_drop List.take_length List.drop_length Nat.min_self
theorem ZD(P Q:Prop)[Decidable P]:(decide P=pB Q)=(P↔Q):=propext ⟨fun h=>⟨fun p=>(qM Q).mp (h▸decide_eq_true p),fun q=>of_decide_eq_true (h.trans (fK q))⟩,fun h=>by
 by_cases p:P
 ·rw[fK (h.1 p),decide_eq_true p]
 ·rw[kG (fun q=>p (h.2 q)),decide_eq_false p]⟩
theorem Zd(P Q:Prop):(pB P=pB Q)=(P↔Q):=propext ⟨fun h=>⟨fun p=>(qM Q).mp (h▸fK p),fun q=>(qM P).mp (h.trans (fK q))⟩,NS⟩
theorem ZA(P Q:Prop)[Decidable P][Decidable Q]:(decide P=decide Q)=(P↔Q):=propext decide_eq_decide
attribute [go_sem] ZD Zd ZA
theorem ON(P:Prop)[Decidable P]:(!decide P)=decide (¬P):=(decide_not).symm
attribute [go_sem] ON Bool.not_eq_true' Bool.not_eq_false'
attribute [go_sem] Value.oneCell' false_and and_false and_self List.length_set
attribute [go_sem] Kv
attribute [go_sem ↓] JI BC SN Sv Cz LB Hj
attribute [go_sem] G6 U5 Tv EA Ce Uu QN Bp wy uF zS TR
attribute [go_sem ↓] Vd Ve Gx Eg Lu Oj Ng ZB YI WV S6 AP CH Kj Ii LL Q7 OB
attribute [go_sem] yz zw IF HY
attribute [go_sem ↓] L1 KM Ei ES KL LV K0 OO JL Ox KP HQ NR EF O5 Fv ID Na KZ Km LJ Em FT Lv Ha KH Jc LW JE Hp Gy As xy OJ Kw GD Fg Bb yp KA Fh BE Bo BD CW Cr By Lz D8 Ep WK Xf yg xG W6 Bm LN AU Aj Vq ET KS Ev TL D6 EC EL B3 BG Bg A9 vB Ig NG Cc FQ JZ OV IY Mv O0 Ga Bc Mp Ar A0 Ed rU GV Pa SH NZ Zf Vy
attribute [go_sem] Mn Kh Gp EP Q5 N2 KB Kl Ko GN oS EB OI IV Wc Pd Cx AE AG CB Cd xv wZ Bf ze xf Bx zh
theorem IP(r:XF)(l:List DV)(n:Nat)(d:DV):(rc r l).getD (n+16) d=l.getD n d:=rfl
theorem K1(r:XF)(l:List DV)(n:Nat)(d:DV):(rc r l).set (n+16) d=rc r (l.set n d):=rfl
theorem G7(a0 a1 a2 a3 a4 a5 a6 a7 a8 a9 bL bQ a12 bW bZ cg:DV)(l:List DV)(d:DV):(rc ⟨a0,a1,a2,a3,a4,a5,a6,a7,a8,a9,bL,bQ,a12,bW,bZ,cg⟩ l).getD 0 d=a0:=rfl
theorem Jp(a0 a1 a2 a3 a4 a5 a6 a7 a8 a9 bL bQ a12 bW bZ cg:DV)(l:List DV)(d:DV):(rc ⟨a0,a1,a2,a3,a4,a5,a6,a7,a8,a9,bL,bQ,a12,bW,bZ,cg⟩ l).set 0 d=rc ⟨d,a1,a2,a3,a4,a5,a6,a7,a8,a9,bL,bQ,a12,bW,bZ,cg⟩ l:=rfl
theorem LD(a0 a1 a2 a3 a4 a5 a6 a7 a8 a9 bL bQ a12 bW bZ cg:DV)(l:List DV)(d:DV):(rc ⟨a0,a1,a2,a3,a4,a5,a6,a7,a8,a9,bL,bQ,a12,bW,bZ,cg⟩ l).getD 1 d=a1:=rfl
theorem He(a0 a1 a2 a3 a4 a5 a6 a7 a8 a9 bL bQ a12 bW bZ cg:DV)(l:List DV)(d:DV):(rc ⟨a0,a1,a2,a3,a4,a5,a6,a7,a8,a9,bL,bQ,a12,bW,bZ,cg⟩ l).set 1 d=rc ⟨a0,d,a2,a3,a4,a5,a6,a7,a8,a9,bL,bQ,a12,bW,bZ,cg⟩ l:=rfl
theorem IJ(a0 a1 a2 a3 a4 a5 a6 a7 a8 a9 bL bQ a12 bW bZ cg:DV)(l:List DV)(d:DV):(rc ⟨a0,a1,a2,a3,a4,a5,a6,a7,a8,a9,bL,bQ,a12,bW,bZ,cg⟩ l).getD 2 d=a2:=rfl
theorem H6(a0 a1 a2 a3 a4 a5 a6 a7 a8 a9 bL bQ a12 bW bZ cg:DV)(l:List DV)(d:DV):(rc ⟨a0,a1,a2,a3,a4,a5,a6,a7,a8,a9,bL,bQ,a12,bW,bZ,cg⟩ l).set 2 d=rc ⟨a0,a1,d,a3,a4,a5,a6,a7,a8,a9,bL,bQ,a12,bW,bZ,cg⟩ l:=rfl
theorem HO(a0 a1 a2 a3 a4 a5 a6 a7 a8 a9 bL bQ a12 bW bZ cg:DV)(l:List DV)(d:DV):(rc ⟨a0,a1,a2,a3,a4,a5,a6,a7,a8,a9,bL,bQ,a12,bW,bZ,cg⟩ l).getD 3 d=a3:=rfl
theorem II(a0 a1 a2 a3 a4 a5 a6 a7 a8 a9 bL bQ a12 bW bZ cg:DV)(l:List DV)(d:DV):(rc ⟨a0,a1,a2,a3,a4,a5,a6,a7,a8,a9,bL,bQ,a12,bW,bZ,cg⟩ l).set 3 d=rc ⟨a0,a1,a2,d,a4,a5,a6,a7,a8,a9,bL,bQ,a12,bW,bZ,cg⟩ l:=rfl
theorem Ly(a0 a1 a2 a3 a4 a5 a6 a7 a8 a9 bL bQ a12 bW bZ cg:DV)(l:List DV)(d:DV):(rc ⟨a0,a1,a2,a3,a4,a5,a6,a7,a8,a9,bL,bQ,a12,bW,bZ,cg⟩ l).getD 4 d=a4:=rfl
theorem JG(a0 a1 a2 a3 a4 a5 a6 a7 a8 a9 bL bQ a12 bW bZ cg:DV)(l:List DV)(d:DV):(rc ⟨a0,a1,a2,a3,a4,a5,a6,a7,a8,a9,bL,bQ,a12,bW,bZ,cg⟩ l).set 4 d=rc ⟨a0,a1,a2,a3,d,a5,a6,a7,a8,a9,bL,bQ,a12,bW,bZ,cg⟩ l:=rfl
theorem H8(a0 a1 a2 a3 a4 a5 a6 a7 a8 a9 bL bQ a12 bW bZ cg:DV)(l:List DV)(d:DV):(rc ⟨a0,a1,a2,a3,a4,a5,a6,a7,a8,a9,bL,bQ,a12,bW,bZ,cg⟩ l).getD 5 d=a5:=rfl
theorem KQ(a0 a1 a2 a3 a4 a5 a6 a7 a8 a9 bL bQ a12 bW bZ cg:DV)(l:List DV)(d:DV):(rc ⟨a0,a1,a2,a3,a4,a5,a6,a7,a8,a9,bL,bQ,a12,bW,bZ,cg⟩ l).set 5 d=rc ⟨a0,a1,a2,a3,a4,d,a6,a7,a8,a9,bL,bQ,a12,bW,bZ,cg⟩ l:=rfl
theorem Mx(a0 a1 a2 a3 a4 a5 a6 a7 a8 a9 bL bQ a12 bW bZ cg:DV)(l:List DV):(rc ⟨a0,a1,a2,a3,a4,a5,a6,a7,a8,a9,bL,bQ,a12,bW,bZ,cg⟩ l)[5]? =some a5:=rfl
theorem Ie(a0 a1 a2 a3 a4 a5 a6 a7 a8 a9 bL bQ a12 bW bZ cg:DV)(l:List DV)(d:DV):(rc ⟨a0,a1,a2,a3,a4,a5,a6,a7,a8,a9,bL,bQ,a12,bW,bZ,cg⟩ l).getD 6 d=a6:=rfl
theorem Kb(a0 a1 a2 a3 a4 a5 a6 a7 a8 a9 bL bQ a12 bW bZ cg:DV)(l:List DV)(d:DV):(rc ⟨a0,a1,a2,a3,a4,a5,a6,a7,a8,a9,bL,bQ,a12,bW,bZ,cg⟩ l).set 6 d=rc ⟨a0,a1,a2,a3,a4,a5,d,a7,a8,a9,bL,bQ,a12,bW,bZ,cg⟩ l:=rfl
theorem Ip(a0 a1 a2 a3 a4 a5 a6 a7 a8 a9 bL bQ a12 bW bZ cg:DV)(l:List DV)(d:DV):(rc ⟨a0,a1,a2,a3,a4,a5,a6,a7,a8,a9,bL,bQ,a12,bW,bZ,cg⟩ l).getD 7 d=a7:=rfl
theorem Ky(a0 a1 a2 a3 a4 a5 a6 a7 a8 a9 bL bQ a12 bW bZ cg:DV)(l:List DV)(d:DV):(rc ⟨a0,a1,a2,a3,a4,a5,a6,a7,a8,a9,bL,bQ,a12,bW,bZ,cg⟩ l).set 7 d=rc ⟨a0,a1,a2,a3,a4,a5,a6,d,a8,a9,bL,bQ,a12,bW,bZ,cg⟩ l:=rfl
theorem Hb(a0 a1 a2 a3 a4 a5 a6 a7 a8 a9 bL bQ a12 bW bZ cg:DV)(l:List DV)(d:DV):(rc ⟨a0,a1,a2,a3,a4,a5,a6,a7,a8,a9,bL,bQ,a12,bW,bZ,cg⟩ l).getD 8 d=a8:=rfl
theorem Hv(a0 a1 a2 a3 a4 a5 a6 a7 a8 a9 bL bQ a12 bW bZ cg:DV)(l:List DV)(d:DV):(rc ⟨a0,a1,a2,a3,a4,a5,a6,a7,a8,a9,bL,bQ,a12,bW,bZ,cg⟩ l).set 8 d=rc ⟨a0,a1,a2,a3,a4,a5,a6,a7,d,a9,bL,bQ,a12,bW,bZ,cg⟩ l:=rfl
theorem H5(a0 a1 a2 a3 a4 a5 a6 a7 a8 a9 bL bQ a12 bW bZ cg:DV)(l:List DV)(d:DV):(rc ⟨a0,a1,a2,a3,a4,a5,a6,a7,a8,a9,bL,bQ,a12,bW,bZ,cg⟩ l).getD 9 d=a9:=rfl
theorem I6(a0 a1 a2 a3 a4 a5 a6 a7 a8 a9 bL bQ a12 bW bZ cg:DV)(l:List DV)(d:DV):(rc ⟨a0,a1,a2,a3,a4,a5,a6,a7,a8,a9,bL,bQ,a12,bW,bZ,cg⟩ l).set 9 d=rc ⟨a0,a1,a2,a3,a4,a5,a6,a7,a8,d,bL,bQ,a12,bW,bZ,cg⟩ l:=rfl
theorem MQ(a0 a1 a2 a3 a4 a5 a6 a7 a8 a9 bL bQ a12 bW bZ cg:DV)(l:List DV):(rc ⟨a0,a1,a2,a3,a4,a5,a6,a7,a8,a9,bL,bQ,a12,bW,bZ,cg⟩ l)[9]? =some a9:=rfl
theorem EW(a0 a1 a2 a3 a4 a5 a6 a7 a8 a9 bL bQ a12 bW bZ cg:DV)(l:List DV)(d:DV):(rc ⟨a0,a1,a2,a3,a4,a5,a6,a7,a8,a9,bL,bQ,a12,bW,bZ,cg⟩ l).getD 10 d=bL:=rfl
theorem Fp(a0 a1 a2 a3 a4 a5 a6 a7 a8 a9 bL bQ a12 bW bZ cg:DV)(l:List DV)(d:DV):(rc ⟨a0,a1,a2,a3,a4,a5,a6,a7,a8,a9,bL,bQ,a12,bW,bZ,cg⟩ l).set 10 d=rc ⟨a0,a1,a2,a3,a4,a5,a6,a7,a8,a9,d,bQ,a12,bW,bZ,cg⟩ l:=rfl
theorem L6(a0 a1 a2 a3 a4 a5 a6 a7 a8 a9 bL bQ a12 bW bZ cg:DV)(l:List DV):(rc ⟨a0,a1,a2,a3,a4,a5,a6,a7,a8,a9,bL,bQ,a12,bW,bZ,cg⟩ l)[10]? =some bL:=rfl
theorem E8(a0 a1 a2 a3 a4 a5 a6 a7 a8 a9 bL bQ a12 bW bZ cg:DV)(l:List DV)(d:DV):(rc ⟨a0,a1,a2,a3,a4,a5,a6,a7,a8,a9,bL,bQ,a12,bW,bZ,cg⟩ l).getD 11 d=bQ:=rfl
theorem F6(a0 a1 a2 a3 a4 a5 a6 a7 a8 a9 bL bQ a12 bW bZ cg:DV)(l:List DV)(d:DV):(rc ⟨a0,a1,a2,a3,a4,a5,a6,a7,a8,a9,bL,bQ,a12,bW,bZ,cg⟩ l).set 11 d=rc ⟨a0,a1,a2,a3,a4,a5,a6,a7,a8,a9,bL,d,a12,bW,bZ,cg⟩ l:=rfl
theorem LM(a0 a1 a2 a3 a4 a5 a6 a7 a8 a9 bL bQ a12 bW bZ cg:DV)(l:List DV):(rc ⟨a0,a1,a2,a3,a4,a5,a6,a7,a8,a9,bL,bQ,a12,bW,bZ,cg⟩ l)[11]? =some bQ:=rfl
theorem Ea(a0 a1 a2 a3 a4 a5 a6 a7 a8 a9 bL bQ a12 bW bZ cg:DV)(l:List DV)(d:DV):(rc ⟨a0,a1,a2,a3,a4,a5,a6,a7,a8,a9,bL,bQ,a12,bW,bZ,cg⟩ l).getD 12 d=a12:=rfl
theorem F3(a0 a1 a2 a3 a4 a5 a6 a7 a8 a9 bL bQ a12 bW bZ cg:DV)(l:List DV)(d:DV):(rc ⟨a0,a1,a2,a3,a4,a5,a6,a7,a8,a9,bL,bQ,a12,bW,bZ,cg⟩ l).set 12 d=rc ⟨a0,a1,a2,a3,a4,a5,a6,a7,a8,a9,bL,bQ,d,bW,bZ,cg⟩ l:=rfl
theorem GR(a0 a1 a2 a3 a4 a5 a6 a7 a8 a9 bL bQ a12 bW bZ cg:DV)(l:List DV)(d:DV):(rc ⟨a0,a1,a2,a3,a4,a5,a6,a7,a8,a9,bL,bQ,a12,bW,bZ,cg⟩ l).getD 13 d=bW:=rfl
theorem Ex(a0 a1 a2 a3 a4 a5 a6 a7 a8 a9 bL bQ a12 bW bZ cg:DV)(l:List DV)(d:DV):(rc ⟨a0,a1,a2,a3,a4,a5,a6,a7,a8,a9,bL,bQ,a12,bW,bZ,cg⟩ l).set 13 d=rc ⟨a0,a1,a2,a3,a4,a5,a6,a7,a8,a9,bL,bQ,a12,d,bZ,cg⟩ l:=rfl
theorem Gk(a0 a1 a2 a3 a4 a5 a6 a7 a8 a9 bL bQ a12 bW bZ cg:DV)(l:List DV)(d:DV):(rc ⟨a0,a1,a2,a3,a4,a5,a6,a7,a8,a9,bL,bQ,a12,bW,bZ,cg⟩ l).getD 14 d=bZ:=rfl
theorem EO(a0 a1 a2 a3 a4 a5 a6 a7 a8 a9 bL bQ a12 bW bZ cg:DV)(l:List DV)(d:DV):(rc ⟨a0,a1,a2,a3,a4,a5,a6,a7,a8,a9,bL,bQ,a12,bW,bZ,cg⟩ l).set 14 d=rc ⟨a0,a1,a2,a3,a4,a5,a6,a7,a8,a9,bL,bQ,a12,bW,d,cg⟩ l:=rfl
theorem E9(a0 a1 a2 a3 a4 a5 a6 a7 a8 a9 bL bQ a12 bW bZ cg:DV)(l:List DV)(d:DV):(rc ⟨a0,a1,a2,a3,a4,a5,a6,a7,a8,a9,bL,bQ,a12,bW,bZ,cg⟩ l).getD 15 d=cg:=rfl
theorem FV(a0 a1 a2 a3 a4 a5 a6 a7 a8 a9 bL bQ a12 bW bZ cg:DV)(l:List DV)(d:DV):(rc ⟨a0,a1,a2,a3,a4,a5,a6,a7,a8,a9,bL,bQ,a12,bW,bZ,cg⟩ l).set 15 d=rc ⟨a0,a1,a2,a3,a4,a5,a6,a7,a8,a9,bL,bQ,a12,bW,bZ,d⟩ l:=rfl
theorem QU(a0 a1 a2 a3 a4 a5 a6 a7 a8 a9 bL bQ a12 bW bZ cg:DV)(l:List DV)(i:Nat)(js:List Nat):va (rc ⟨a0,a1,a2,a3,a4,a5,a6,a7,a8,a9,bL,bQ,a12,bW,bZ,cg⟩ l) i js=va (a0::a1::a2::a3::a4::a5::a6::a7::a8::a9::bL::bQ::a12::bW::bZ::cg::l) i js:=rfl
theorem SO(a0 a1 a2 a3 a4 a5 a6 a7 a8 a9 bL bQ a12 bW bZ cg:DV)(l:List DV):dE (a0::a1::a2::a3::a4::a5::a6::a7::a8::a9::bL::bQ::a12::bW::bZ::cg::l)=rc ⟨a0,a1,a2,a3,a4,a5,a6,a7,a8,a9,bL,bQ,a12,bW,bZ,cg⟩ (dE l):=rfl
theorem Sf:dE []=[]:=rfl
theorem R6(a0:DV):dE [a0]=[a0]:=rfl
theorem SB(a0 a1:DV):dE [a0,a1]=[a0,a1]:=rfl
theorem Sw(a0 a1 a2:DV):dE [a0,a1,a2]=[a0,a1,a2]:=rfl
theorem Uh(a0 a1 a2 a3:DV):dE [a0,a1,a2,a3]=[a0,a1,a2,a3]:=rfl
theorem Sk(a0 a1 a2 a3 a4:DV):dE [a0,a1,a2,a3,a4]=[a0,a1,a2,a3,a4]:=rfl
theorem RX(a0 a1 a2 a3 a4 a5:DV):dE [a0,a1,a2,a3,a4,a5]=[a0,a1,a2,a3,a4,a5]:=rfl
theorem TO(a0 a1 a2 a3 a4 a5 a6:DV):dE [a0,a1,a2,a3,a4,a5,a6]=[a0,a1,a2,a3,a4,a5,a6]:=rfl
theorem RU(a0 a1 a2 a3 a4 a5 a6 a7:DV):dE [a0,a1,a2,a3,a4,a5,a6,a7]=[a0,a1,a2,a3,a4,a5,a6,a7]:=rfl
theorem SP(a0 a1 a2 a3 a4 a5 a6 a7 a8:DV):dE [a0,a1,a2,a3,a4,a5,a6,a7,a8]=[a0,a1,a2,a3,a4,a5,a6,a7,a8]:=rfl
theorem OK(a0 a1 a2 a3 a4 a5 a6 a7 a8 a9:DV):dE [a0,a1,a2,a3,a4,a5,a6,a7,a8,a9]=[a0,a1,a2,a3,a4,a5,a6,a7,a8,a9]:=rfl
theorem MW(a0 a1 a2 a3 a4 a5 a6 a7 a8 a9 bL:DV):dE [a0,a1,a2,a3,a4,a5,a6,a7,a8,a9,bL]=[a0,a1,a2,a3,a4,a5,a6,a7,a8,a9,bL]:=rfl
theorem Oh(a0 a1 a2 a3 a4 a5 a6 a7 a8 a9 bL bQ:DV):dE [a0,a1,a2,a3,a4,a5,a6,a7,a8,a9,bL,bQ]=[a0,a1,a2,a3,a4,a5,a6,a7,a8,a9,bL,bQ]:=rfl
theorem OM(a0 a1 a2 a3 a4 a5 a6 a7 a8 a9 bL bQ a12:DV):dE [a0,a1,a2,a3,a4,a5,a6,a7,a8,a9,bL,bQ,a12]=[a0,a1,a2,a3,a4,a5,a6,a7,a8,a9,bL,bQ,a12]:=rfl
theorem Nc(a0 a1 a2 a3 a4 a5 a6 a7 a8 a9 bL bQ a12 bW:DV):dE [a0,a1,a2,a3,a4,a5,a6,a7,a8,a9,bL,bQ,a12,bW]=[a0,a1,a2,a3,a4,a5,a6,a7,a8,a9,bL,bQ,a12,bW]:=rfl
theorem O4(a0 a1 a2 a3 a4 a5 a6 a7 a8 a9 bL bQ a12 bW bZ:DV):dE [a0,a1,a2,a3,a4,a5,a6,a7,a8,a9,bL,bQ,a12,bW,bZ]=[a0,a1,a2,a3,a4,a5,a6,a7,a8,a9,bL,bQ,a12,bW,bZ]:=rfl
attribute [go_sem] IP K1 G7 Jp LD He IJ H6 HO II Ly JG H8 KQ Mx Ie Kb Ip Ky Hb Hv H5 I6 MQ EW Fp L6 E8 F6 LM Ea F3 GR Ex Gk EO E9 FV QU SO Sf R6 SB Sw Uh Sk RX TO RU SP OK MW Oh OM Nc O4
end Aml
namespace Aml
open Go Go.RowKit
def nY(P:Program)(w0:W0)(S:St)(ops:Array Oper)(K:List DV→St→Prop):List Oper→List DV→Prop
 |[],fr=>K fr S
 |o::rest,fr=>cF (pO o.op)
  (bP ops fr o.guard (fun fr=>aS P w0 o.op fr S fun d=>nY P w0 S ops K rest (pt fr o.dst d)) (fun fr=>nY P w0 S ops K rest (pt fr o.dst ud)))
  (rV P w0 ops K (o::rest) fr S)
section
variable {P:Program} {w0:W0}
theorem nR{S:St}{ops:Array Oper}{K:List DV→St→Prop}:∀{l:List Oper} {fr:List DV},l.all (fun o=>eo o.op)=true→nY P w0 S ops K l fr→LQ P w0 S ops (fun fr=>rV P w0 ops K (l.drop (mY l)) fr S) (l.take (mY l)) fr
 |[],fr,_,h=>h
 |o::rest,fr,hs,h=>by
  simp only[ado,aak]at hs;unfold nY cF at h
  cases hq:pO o.op with
  |true=>
   rw[hq]at h;simp only at h;have e:mY (o::rest)=mY rest+1:=by simp[mY,List.takeWhile_cons,hq]
   rw[e,List.take_succ_cons,List.drop_succ_cons];refine jo (fun fr h=>?_) (fun fr h=>nR hs.2 h) h;obtain⟨d,q1,q2⟩:=jA hs.1 h;exact⟨d,q1,nR hs.2 q2⟩
  |false=>
   rw[hq]at h;have e:mY (o::rest)=0:=by simp[mY,List.takeWhile_cons,hq]
   rw[e];exact h
theorem A2{S:St}{a b:Array Oper}{K:List DV→Prop}:∀{l:List Oper} {fr:List DV},(∀o,o∈l→∀j want,o.guard=some (j,want)→a[j]? =b[j]?)→LQ P w0 S a K l fr→LQ P w0 S b K l fr
 |[],fr,_,h=>h
 |o::rest,fr,hg,h=>by
  have h':bP a fr o.guard (fun fr=>∃d,QY P w0 S o fr d∧LQ P w0 S b K rest (pt fr o.dst d)) (fun fr=>LQ P w0 S b K rest (pt fr o.dst ud)):=
   jo (fun fr ⟨d,q1,q2⟩=>⟨d,q1,A2 (fun o ho=>hg o (aat _ ho)) q2⟩) (fun fr h=>A2 (fun o ho=>hg o (aat _ ho)) h) h
  unfold bP at h';show bP b fr o.guard _ _;unfold bP
  cases hgo:o.guard with
  |none=>rw[hgo]at h';exact h'
  |some p=>
   obtain⟨j,want⟩:=p;rw[hgo]at h';simp only at h' ⊢;rw[←hg o aaQ j want hgo];exact h'
theorem Es{id:Nat}{l:List Oper}{fr:List DV}{S:St}{Q:Exit→List DV→St→Prop}(hm:P.follows .mixedOrders=true)(hB:Region.lexB .any (l.take (mY l)).toArray=true)(hT:rh .any l.toArray (mY l)=true)(hs:l.all (fun o=>eo o.op)=true)
 (h:nY P w0 S l.toArray (fun fr S=>Q .normal fr S) l fr):fV P w0 (.region id l.toArray true) fr S Q:=by
 have hn:mY l≤l.length:=by
  unfold mY;exact List.Sublist.length_le (List.takeWhile_sublist _)
 refine D4 (mY l) hn hm hB hT hs (A2 ?_ (nR hs h));intro o ho j want hg;simp only[rh,aak]at hT;have:=aa8.1 hT.2 o (by simpa using ho);simp only[hg,decide_eq_true_eq]at this;simp[acr,this]
def AL(P:Program)(w0:W0)(fr:List DV)(S:St)[c:Cn (Code×(Exit→List DV→St→Prop))]:Prop:=fV P w0 c.k.1 fr S c.k.2
def vw(P:Program)(w0:W0)(ss:List Nat):Code→List DV→St→(Exit→List DV→St→Prop)→Prop
 | .skip,fr,S,Q=>Q .normal fr S
 | .seq x y,fr,S,Q=>vw P w0 ss x fr S (iv (fun fr S=>vw P w0 ss y fr S Q) Q)
 | .cond c x y,fr,S,Q=>dq (ev fr c) (vw P w0 ss x fr S Q) (vw P w0 ss y fr S Q)
 | .block n c,fr,S,Q=>cF (ss.contains (n+1000)) (@AL P w0 fr S ⟨((.block n c),Q)⟩) (vw P w0 ss c fr S (gH n Q))
 | .exit n,fr,S,Q=>Q (.exit n) fr S
 | .ret,fr,S,Q=>Q .ret fr S
 | .region n ops dr,fr,S,Q=>cF (ss.contains n) (@AL P w0 fr S ⟨((.region n ops dr),Q)⟩)
  (cF dr (nY P w0 S ops (fun fr S=>Q .normal fr S) ops.toList fr) (rV P w0 ops (fun fr S=>Q .normal fr S) ops.toList fr S))
 |c,fr,S,Q=>@AL P w0 fr S ⟨(c,Q)⟩
/- How it goes. -/
section
variable {P:Program} {w0:W0} {ss:List Nat} {fr:List DV} {S:St} {Q:Exit→List DV→St→Prop}
theorem GI:vw P w0 ss .skip fr S Q=Q .normal fr S:=rfl
theorem Hw(x y:Code):vw P w0 ss (.seq x y) fr S Q=vw P w0 ss x fr S (iv (fun fr S=>vw P w0 ss y fr S Q) Q):=rfl
theorem Gd(c:Operand)(x y:Code):vw P w0 ss (.cond c x y) fr S Q=dq (ev fr c) (vw P w0 ss x fr S Q) (vw P w0 ss y fr S Q):=rfl
theorem Ck(n:Nat)(c:Code):vw P w0 ss (.block n c) fr S Q=cF (ss.contains (n+1000)) (@AL P w0 fr S ⟨((.block n c),Q)⟩) (vw P w0 ss c fr S (gH n Q)):=rfl
theorem E4(n:Nat):vw P w0 ss (.exit n) fr S Q=Q (.exit n) fr S:=rfl
theorem G9:vw P w0 ss .ret fr S Q=Q .ret fr S:=rfl
def iu(fr:List DV)(F:List DV→Prop):Prop:=F fr
@[congr] theorem Yg {fr fr':List DV} {F:List DV→Prop} (h:fr=fr'):iu fr F=iu fr' F:=by cases h;rfl
theorem NM(d:DV)(fr:List DV)(F:List DV→Prop):iu (d::fr) F=F (d::fr):=rfl
theorem C3(r:XF)(fr:List DV)(F:List DV→Prop):iu (rc r fr) F=F (rc r fr):=rfl
attribute [go_sem ↓] NM C3
theorem D1(n:Nat)(l:List Oper):vw P w0 ss (.region n l.toArray false) fr S Q=cF (ss.contains n) (@AL P w0 fr S ⟨((.region n l.toArray false),Q)⟩) (rV P w0 l.toArray (fun fr S=>iu fr fun fr=>Q .normal fr S) l fr S):=by simp[vw,cF,iu]
theorem Et(n:Nat)(l:List Oper):vw P w0 ss (.region n l.toArray true) fr S Q=cF (ss.contains n) (@AL P w0 fr S ⟨((.region n l.toArray true),Q)⟩) (nY P w0 S l.toArray (fun fr S=>iu fr fun fr=>Q .normal fr S) l fr):=by simp[vw,cF,iu]
section
variable {ops:Array Oper} {K:List DV→St→Prop} {rest:List Oper} {dst:Option Tmp} {op:Op} {ty:TypeId} {pos:String} {aft:Array Edge}
theorem Lj:nY P w0 S ops K [] fr=K fr S:=rfl
theorem Gz:nY P w0 S ops K (⟨dst,op,ty,pos,aft,none⟩::rest) fr=cF (pO op) (aS P w0 op fr S fun d=>nY P w0 S ops K rest (pt fr dst d)) (rV P w0 ops K (⟨dst,op,ty,pos,aft,none⟩::rest) fr S):=rfl
theorem Ey(j:Nat)(want:Bool):nY P w0 S ops K (⟨dst,op,ty,pos,aft,some (j,want)⟩::rest) fr=cF (pO op) (gK ((ops[j]?).bind (·.dst)) fr want (fun fr=>aS P w0 op fr S fun d=>nY P w0 S ops K rest (pt fr dst d)) (fun fr=>nY P w0 S ops K rest (pt fr dst ud))) (rV P w0 ops K (⟨dst,op,ty,pos,aft,some (j,want)⟩::rest) fr S):=by
 rw[←rU];rfl
end
def PO(l:List Oper)(F:List Oper→Prop):Prop:=F l
@[congr] theorem XK {l l':List Oper} {F:List Oper→Prop} (h:l=l'):PO l F=PO l' F:=by cases h;rfl
theorem FD(c:Code):vw P w0 ss (.loop c) fr S Q= @AL P w0 fr S ⟨((.loop c),Q)⟩:=rfl
@[congr] theorem abX {c:Code} {fr':List DV} {S':St} (h1:fr=fr') (h2:S=S'):vw P w0 ss c fr S Q=vw P w0 ss c fr' S' Q:=by cases h1;cases h2;rfl
@[congr] theorem ZN {ops:Array Oper} {K:List DV→St→Prop} {l:List Oper} {fr':List DV} {S':St} (h1:fr=fr') (h2:S=S'):nY P w0 S ops K l fr=nY P w0 S' ops K l fr':=by cases h1;cases h2;rfl
@[congr] theorem Z1 {c:Code} {fr':List DV} {S':St} (h1:fr=fr') (h2:S=S'):fV P w0 c fr S Q=fV P w0 c fr' S' Q:=by cases h1;cases h2;rfl
end
attribute [go_sem] List.contains_nil List.contains_cons
attribute [go_sem ↓] Lj Gz Ey GI Hw Gd Ck E4 G9 D1 Et FD
section
variable {md:Region.Mode} {ops:Array Oper}
def Jb(md:Region.Mode)(ops:Array Oper):Nat→List Oper→Bool
 |_,[]=>true
 |k,o::l=>o.after.toList.all (fun e=>!Region.binds md e||decide (e.on<k))&&l.all (fun oj=>oj.after.toList.any (fun e=>Region.binds md e&&e.on==k)||o.apart ops oj)&&Jb md ops (k+1) l
theorem te:∀(l:List Oper) (k:Nat) (listed:Array Bool),(∀j,l[j]? =ops[k+j]?)→listed.size=ops.size→(∀i,i<k→listed[i]? =some true)→(∀i,k≤i→i<ops.size→listed[i]? =some false)→Jb md ops k l=true→Region.lexFrom md ops l.length k listed=true
 |[],k,listed,hl,hs,h1,h2,_=>by
  simp only[ab8,Region.lexFrom]
  have:Region.ready md ops listed=[]:=List.eq_nil_iff_forall_not_mem.2 fun i hi=>by
   obtain⟨hun,o,ho,_⟩:=mem_ready.1 hi;rw[dh]at hun;rcases abz i k with h|h
   ·rw[h1 i h]at hun;cases hun
   ·have:=hl (i-k);rw[show k+(i-k)=i by omega,ho]at this;simp at this
  rw[this];rfl
 |o::l,k,listed,hl,hs,h1,h2,hG=>by
  have h0:ops[k]? =some o:=by simpa using(hl 0).symm
  have hk:k<ops.size:=(aaq.1 h0).1;simp only[Jb,aak]at hG;obtain⟨⟨ha,hb⟩,hc⟩:=hG;simp only[aaW,Region.lexFrom,aak]
  have hr:k∈Region.ready md ops listed:=mem_ready.2 ⟨dh.2 (h2 k (aar _) hk),o,h0,fun e he hbind=>by
   have:=aa8.1 ha e (Array.mem_toList_iff.2 he);rw[hbind]at this;simp at this;exact cT.2 (h1 _ this)⟩
  refine⟨⟨by simpa using hr,?_⟩,?_⟩
  ·unfold Region.free;rw[h0];simp only[aa8,ace];intro j hj;rcases acU j k with h|h|h
   ·have:listed.getD j true=true:=by rw[aaI,h1 j h];rfl
    simp[this]
   ·simp[h]
   ·have hj2:=hl (j-k);rw[show k+(j-k)=j by omega,show j-k=(j-k-1)+1 by omega,adM]at hj2;rw[←hj2]
    cases hq:l[j-k-1]? with
    |none=>simp
    |some oj=>
     have:=aa8.1 hb oj (aaf hq);simp only[acx]at this ⊢;refine .inr ?_;rcases this with h|h
     ·refine .inl ?_;obtain⟨e,he,h⟩:=List.any_eq_true.1 h;exact adR.2 ⟨e,Array.mem_toList_iff.1 he,h⟩
     ·exact .inr h
  ·refine te l (k+1) _ (fun j=>?_) (by simpa using hs) (fun i hi=>?_) (fun i hi hi2=>?_) hc
   ·have:=hl (j+1);simpa[acw,ac2 1 j]using this
   ·rw[aa9];by_cases h:k=i
    ·subst h;rw[if_pos rfl,if_pos (by omega)]
    ·rw[if_neg h];exact h1 i (by omega)
   ·rw[aa9,if_neg (by omega)];exact h2 i (by omega) hi2
theorem CZ{l:List Oper}(hs:Region.noSelect l.toArray=true)(h:Jb md l.toArray 0 l=true):Region.lexB md l.toArray=true:=by
 unfold Region.lexB;rw[hs,ac5];have:=te (md:=md) (ops:=l.toArray) l 0 (Array.replicate l.toArray.size false) (fun j=>by simp) (by simp) (fun i hi=>absurd hi (by omega)) (fun i _ hi=>by rw[adJ,if_pos hi]) h;simpa using this
end
def rT(ss:List Nat):Code→Bool
 | .seq x y=>rT ss x&&rT ss y
 | .cond _ x y=>rT ss x&&rT ss y
 | .block n c=>ss.contains (n+1000)||rT ss c
 | .region n ops false=>ss.contains n||ops.toList.all (fun o=>eo o.op)
 | .region n ops true=>ss.contains n||(ops.toList.all (fun o=>eo o.op)&&Region.noSelect (ops.toList.take (mY ops.toList)).toArray&&Jb .any (ops.toList.take (mY ops.toList)).toArray 0 (ops.toList.take (mY ops.toList))&&rh .any ops (mY ops.toList))
 |_=>true
theorem bh{ss:List Nat}(hm:P.follows .mixedOrders=true):∀(c:Code) {fr:List DV} {S:St} {Q:Exit→List DV→St→Prop},rT ss c=true→vw P w0 ss c fr S Q→fV P w0 c fr S Q
 | .skip,fr,S,Q,_,h=>HH h
 | .seq x y,fr,S,Q,ho,h=>by
  simp only[rT,aak]at ho;exact PF ((bh hm x ho.1 h).mono fun e fr S hq=>by cases e <;>first|exact bh hm y ho.2 hq|exact hq)
 | .cond c x y,fr,S,Q,ho,h=>by
  simp only[rT,aak]at ho;exact LA (B9 (fun h=>bh hm x ho.1 h) (fun h=>bh hm y ho.2 h) h)
 | .block n c,fr,S,Q,ho,h=>by
  unfold vw cF at h;unfold rT at ho;split at h
  ·exact h
  ·rename_i hn;rw[hn,adn]at ho;exact Ge (bh hm c ho h)
 | .exit n,fr,S,Q,_,h=>HP h
 | .ret,fr,S,Q,_,h=>Po h
 | .region n ops false,fr,S,Q,ho,h=>by
  unfold vw at h;unfold cF at h;unfold rT at ho;split at h
  ·exact h
  rename_i hn;rw[hn,adn]at ho;simp only at h;have:=iQ _ ho h;have:=Bi (id:=n) (l:=ops.toList) this;simpa using this
 | .region n ops true,fr,S,Q,ho,h=>by
  unfold vw at h;unfold cF at h;unfold rT at ho;split at h
  ·exact h
  rename_i hn;rw[hn,adn]at ho;simp only[aak]at ho;simp only at h;have:=Es (id:=n) (l:=ops.toList) (fr:=fr) (S:=S) (Q:=Q) hm (CZ ho.1.1.2 ho.1.2) ho.2 ho.1.1.1 h;simpa using this
 | .loop c,fr,S,Q,_,h=>h
 | .rangeFunc f ps a b,fr,S,Q,_,h=>h
 | .scope c,fr,S,Q,_,h=>h
 | .label l,fr,S,Q,_,h=>h
 | .goto l,fr,S,Q,_,h=>h
 | .refuse w,fr,S,Q,_,h=>h
theorem lO(ss:List Nat){f:FuncId}{fn:Func}{c:Code}{rs:List ResultVar}{args:List DV}{S:St}{K:DV→St→Prop}(hm:P.follows .mixedOrders=true)(hf:P.funcs[f]? =some fn)(hb:fn.body=some c)(hrs:fn.results=rs.toArray)(hc:rT ss c=true)
 (h:vw P w0 ss c (dE (args++List.replicate (fn.ntmps-args.length) ud)) S fun e fr S'=>(e= .normal∨e= .ret)∧mV P fr S' rs fun d=>K d S'):ab P w0 f args S K:=
 td hf hb hrs (bh hm c hc h)
end
end Aml
namespace Aml
open Go Go.RowKit
def Wk(d e:DV):Prop:=∀g u,aG g d u→aG g e u
def ej:List DV→List DV→Prop
 |[],[]=>True
 |d::ds,e::es=>Wk d e∧ej ds es
 |_,_=>False
theorem Wk.refl(d:DV):Wk d d:=fun _ _ h=>h
theorem Wk.trans{a b c:DV}(h:Wk a b)(k:Wk b c):Wk a c:=fun g u r=>k g u (h g u r)
theorem Wk.any(d:DV):Wk d .any:=fun g u _=> .any u
theorem Wk.nil(s s':Nat)(f:Bool):Wk (.sl s true []) (.sl s' f []):=fun g u r=>by
 obtain⟨o,h⟩:=cO r;rw[h];exact .nil _ _ _ _ fun _=>rfl
theorem Wk.VD(s s':Nat)(f:Bool):Wk (.sl s f []) (.sl s' false []):=fun g u r=>by
 rcases im r with⟨_,o',c,hv,hf⟩|⟨b,o',c',us,hv',hl,_⟩
 ·rw[hv];exact .nil _ _ _ _ (by simp)
 ·have:us=[]:=aa0 (by have:=hl.len;simpa using this.symm);rw[hv'];exact .nil _ _ _ _ (by simp)
theorem Wk.full(s:Nat)(f:Bool)(xs:List DV):Wk (.sl s f xs) (.sl s false xs):=fun g u r=>by
 cases r with
 |nil _ _ o c hc=>exact .nil _ _ _ _ (by simp)
 |sl _ _ _ b o c us hl hf hc hm hr hz h1 hi=>exact .sl _ _ _ _ _ _ us hl (by simp) hc hm hr hz h1 hi
theorem ej.refl:∀ds,ej ds ds
 |[]=>trivial
 |d::ds=>⟨.refl d,ej.refl ds⟩
theorem ej.spec:∀{ds es:List DV},ej ds es→∀{g:Gh} {us:List Value},af g ds us→af g es us
 |[],[],_,_,_,r=>r
 |d::ds,e::es,h,g,us,r=>by
  obtain⟨u,us',rfl,r1,r2⟩:=r.dJ;exact af.cons (h.1 _ _ r1) (ej.spec h.2 r2)
theorem ej.length:∀{ds es:List DV},ej ds es→ds.length=es.length
 |[],[],_=>rfl
 |d::ds,e::es,h=>by simp[ej.length h.2]
theorem ej.trans:∀{a b c:List DV},ej a b→ej b c→ej a c
 |[],[],[],_,_=>trivial
 |_::_,_::_,_::_,h,k=>⟨h.1.trans k.1,h.2.trans k.2⟩
theorem Wk.agg{ds es:List DV}(h:ej ds es):Wk (.agg ds) (.agg es):=fun g u r=>by
 cases r with
 |agg _ us hl hr h1=>
  have:=h.spec (g:=g) (us:=us) ⟨hl,hr⟩;exact .agg _ _ this.len this.at_ h1
theorem Wk.cW{ds es:List DV}(h:ej ds es):Wk (.cW ds) (.cW es):=fun g u r=>by
 cases r with
 |cW _ us hl hr=>
  have:=h.spec (g:=g) (us:=us) ⟨hl,hr⟩;exact .cW _ _ this.len this.at_
theorem Wk.jM{t:TypeId}{d e:DV}(h:Wk d e):Wk (.jM t d) (.jM t e):=fun g u r=>by
 cases r with
 |jM _ _ u r=>exact .jM _ _ _ (h _ _ r)
theorem Wk.sl{s:Nat}{f:Bool}{xs ys:List DV}(h:ej xs ys):Wk (.sl s f xs) (.sl s f ys):=fun g u r=>by
 cases r with
 |nil _ _ o c hc=>
  cases ys with
  |nil=>exact .nil _ _ _ _ hc
  |cons y ys=>exact h.elim
 |sl _ _ _ b o c us hl hf hc hm hr hz h1 hi=>
  have:=h.spec (g:=g) (us:=us) ⟨hl,hr⟩;exact .sl _ _ _ _ _ _ us this.len hf hc hm this.at_ hz h1 hi
theorem Uv{ds es:List DV}(h:ej ds es):Wk (.agg ds) (.agg es)=True:=eq_true (Wk.agg h)
theorem ej.map{α:Type}{f g:α→DV}(h:∀a,Wk (f a) (g a)):∀(l:List α),ej (l.map f) (l.map g)
 |[]=>trivial
 |a::l=>⟨h a,ej.map h l⟩
theorem ej.nil:ej [] []:=trivial
theorem ej.cons{d e:DV}{ds es:List DV}(h:Wk d e)(k:ej ds es):ej (d::ds) (e::es):=⟨h,k⟩
theorem Jj(d e:DV)(ds es:List DV):ej (d::ds) (e::es)=(Wk d e∧ej ds es):=rfl
theorem OS:ej [] []=True:=rfl
theorem Tt(a0 a1 a2 a3 a4 a5 a6 a7 a8 a9 bL bQ a12 bW bZ cg:DV)(b0 b1 b2 b3 b4 b5 b6 b7 b8 b9 b10 b11 b12 b13 b14 b15:DV)(l m:List DV):ej (rc ⟨a0,a1,a2,a3,a4,a5,a6,a7,a8,a9,bL,bQ,a12,bW,bZ,cg⟩ l) (rc ⟨b0,b1,b2,b3,b4,b5,b6,b7,b8,b9,b10,b11,b12,b13,b14,b15⟩ m)=(Wk a0 b0∧Wk a1 b1∧Wk a2 b2∧Wk a3 b3∧Wk a4 b4∧Wk a5 b5∧Wk a6 b6∧Wk a7 b7∧Wk a8 b8∧Wk a9 b9∧Wk bL b10∧Wk bQ b11∧Wk a12 b12∧Wk bW b13∧Wk bZ b14∧Wk cg b15∧ej l m):=rfl
theorem Wk.eq{d e:DV}(h:d=e):Wk d e:=h▸ .refl d
theorem MH(d:DV):Wk d d=True:=eq_true (.refl d)
theorem Ui{u u':Value}(h:u.oneCell'=true):Wk (.v u) (.v u')↔u=u':=
 ⟨fun k=>by have:=k ⟨fun _ _=>none,fun _ _=>none,fun _=>none,[]⟩ u (.v u h);cases this;rfl,fun e=>e▸ .refl _⟩
theorem Ud(k:IntKind)(a b:Int):Wk (.v (.int k a)) (.v (.int k b))=(a=b):=propext ((Ui rfl).trans ⟨fun h=>(Value.int.inj h).2,fun h=>by rw[h]⟩)
theorem NI(a b:Bool):Wk (.v (.bool a)) (.v (.bool b))=(a=b):=propext ((Ui rfl).trans ⟨fun h=>Value.bool.inj h,fun h=>by rw[h]⟩)
theorem SR(a b:ByteArray):Wk (.v (.string a)) (.v (.string b))=(a=b):=propext ((Ui rfl).trans ⟨fun h=>Value.string.inj h,fun h=>by rw[h]⟩)
theorem TQ(s s':Nat)(f:Bool):Wk (.sl s true []) (.sl s' f [])=True:=eq_true (.nil s s' f)
section
variable {P:Program} {w0:W0}
theorem iL{f:FuncId}{args args':List DV}{S:St}{K K':DV→St→Prop}(h:ab P w0 f args' S K')(ha:ej args args')(hk:∀d S',K' d S'→∃e,Wk d e∧K e S'):ab P w0 f args S K:=
 fun g vs w h1 h2=>(h g vs w h1 (ha.spec h2)).mono fun e w' k=>k.imp (.refl _) fun r g' d S' q2 q3 q4 q5=>
  let⟨e',k1,k2⟩:=hk _ _ q5
  ⟨g',e',S',q2,q3,k1 _ _ q4,k2⟩
theorem jY{f:FuncId}{args args':List DV}{S:St}{K:DV→St→Prop}{r:DV}(h:ab P w0 f args' S (fun d S'=>d=r∧S'=S))(ha:ej args args')(hk:K r S):ab P w0 f args S K:=
 iL h ha fun d S' ⟨h1,h2⟩=>⟨d,.refl d,by rw[h1,h2];exact hk⟩
theorem aq{f:FuncId}{args args':List DV}{S:St}{K:DV→St→Prop}{r:DV}(h:ab P w0 f args' S (fun d S'=>d=r∧S'=S))(hk:K r S)(ha:ej args args':=by exact ej.refl _):@AC P w0 f args S ⟨K⟩:=jY h ha hk
theorem aw{f:FuncId}{args args':List DV}{S:St}{K K':DV→St→Prop}(h:ab P w0 f args' S K')(hk:∀d S',K' d S'→K d S')(ha:ej args args':=by exact ej.refl _):@AC P w0 f args S ⟨K⟩:=iL h ha fun d S' q=>⟨d,.refl d,hk d S' q⟩
theorem aR{f:FuncId}{args args':List DV}{S:St}{K:DV→Prop}{r:DV}(h:ab P w0 f args' S (fun d S'=>d=r∧S'=S))(hk:K r)(ha:ej args args':=by exact ej.refl _):@QC P w0 f args S ⟨K⟩:=
 ⟨r,jY h ha ⟨rfl,rfl⟩,hk⟩
structure Sub(S S':St):Prop where
 box:S.box.Sublist S'.box
 acc:S.acc.Sublist S'.acc
theorem Sub.refl(S:St):Sub S S:=⟨List.Sublist.refl _,List.Sublist.refl _⟩
theorem Sub.aN{S:St}{B:List (Nat×List DV)}{A:List (Nat×Ob)}{x:Nat×List DV}(h:Sub S ⟨B,A⟩):Sub S ⟨x::B,A⟩:=⟨h.box.cons _,h.acc⟩
theorem Sub.nq{S:St}{B:List (Nat×List DV)}{A:List (Nat×Ob)}{x:Nat×Ob}(h:Sub S ⟨B,A⟩):Sub S ⟨B,x::A⟩:=⟨h.box,h.acc.cons _⟩
theorem Sub.WA{B B':List (Nat×List DV)}{A A':List (Nat×Ob)}{x:Nat×Ob}(h:Sub ⟨B,A⟩ ⟨B',A'⟩):Sub ⟨B,x::A⟩ ⟨B',x::A'⟩:=⟨h.box,h.acc.cons_cons _⟩
theorem IS(S:St):Sub S S=True:=eq_true (.refl S)
theorem Su{B B':List (Nat×List DV)}{A A':List (Nat×Ob)}(x:Nat×Ob)(h:Sub ⟨B,A⟩ ⟨B',A'⟩):Sub ⟨B,x::A⟩ ⟨B',x::A'⟩=True:=eq_true h.WA
theorem Sl(S:St){B:List (Nat×List DV)}{A:List (Nat×Ob)}(x:Nat×List DV)(h:Sub S ⟨B,A⟩):Sub S ⟨x::B,A⟩=True:=eq_true h.aN
theorem Tq(S:St){B:List (Nat×List DV)}{A:List (Nat×Ob)}(x:Nat×Ob)(h:Sub S ⟨B,A⟩):Sub S ⟨B,x::A⟩=True:=eq_true h.nq
def oZ:List Nat→List DV→St→(List DV→St→Prop)→Prop
 |[],fr,S,K=>K fr S
 |i::is,fr,S,K=>oK (fr[i]?) fun d=>shr S d fun d S=>oZ is (fr.set i d) S K
theorem EH(fr:List DV)(S:St)(K:List DV→St→Prop):oZ [] fr S K=K fr S:=rfl
theorem B4(i:Nat)(is:List Nat)(fr:List DV)(S:St)(K:List DV→St→Prop):oZ (i::is) fr S K=oK (fr[i]?) fun d=>shr S d fun d S=>oZ is (fr.set i d) S K:=rfl
theorem oV{K:List DV→St→Prop}:∀(is:List Nat) {fr:List DV} {S:St} {g:Gh} {w:World} {us:List Value},Rel w0 g S w→af g fr us→oZ is fr S K→∃g' fr' S',g.le g'∧Rel w0 g' S' w∧af g' fr' us∧K fr' S'
 |[],fr,S,g,w,us,h1,h2,h=>⟨g,fr,S,.refl g,h1,h2,h⟩
 |i::is,fr,S,g,w,us,h1,h2,h=>by
  unfold oZ at h
  cases hi:fr[i]? with
  |none=>rw[hi]at h;exact h.elim
  |some d=>
   rw[hi,vB]at h;have hlt:i<us.length:=by rw[←h2.len];exact(aad.1 hi).1
   have hr:=h2.at_ i _ _ hi (aac hlt);obtain⟨g1,d',S1,k1,k2,k3,k4⟩:=mF h1 hr h;obtain⟨g2,fr2,S2,q1,q2,q3,q4⟩:=oV is k2 (gF (h2.mono k1) (aac hlt) k3) k4;exact⟨g2,fr2,S2,k1.trans q1,q2,q3,q4⟩
theorem Qr{σ:Type}(live:List Nat)(cU:σ→List (Nat×DV))(st:σ→St)(inv:σ→Prop)(meas:σ→Nat)(s0:σ){c:Code}{fr:List DV}{S:St}{Q:Exit→List DV→St→Prop}
 (h0:inv s0∧ej (wk live fr) (kC (wk live fr) (cU s0))∧Sub (st s0) S)
 (round:∀s,inv s→fV P w0 c (kC (wk live fr) (cU s)) (st s) (iv (fun fr' S'=>∃s',inv s'∧meas s'<meas s∧ej (wk live fr') (kC (wk live fr) (cU s'))∧Sub (st s') S') Q)):
 fV P w0 (.loop c) fr S Q:=by
 intro g a w h1 h2 h3;refine lD (fun m a w=>Dk w0 g a w∧∃g' s,g.le g'∧Rel w0 g' (st s) w∧af g' (kC (wk live fr) (cU s)) a.tmps.toList∧inv s∧meas s=m) (m:=meas s0) ⟨h3,g,s0,.refl g,h1.forget h0.2.2.box h0.2.2.acc,h0.2.1.spec (gN live h2),h0.1,rfl⟩ ?_;rintro m a w ⟨hd,g',s,k1,k2,k3,k4,rfl⟩;refine bg (round s k4 g' a w k2 k3 (k1.dk hd)) ?_;rintro e a' w' ⟨hd',g'',fr'',S'',q1,q2,q3,q4⟩
 cases e with
 |normal=>
  obtain⟨s',hi,hm,hf,hS⟩:=q4;exact⟨meas s',hm,k1.kd hd',g'',s',k1.trans q1,q2.forget hS.box hS.acc,hf.spec (gN live q3),hi,rfl⟩
 |exit n=>exact⟨k1.kd hd',g'',fr'',S'',k1.trans q1,q2,q3,q4⟩
 |goto n=>exact⟨k1.kd hd',g'',fr'',S'',k1.trans q1,q2,q3,q4⟩
 |ret=>exact⟨k1.kd hd',g'',fr'',S'',k1.trans q1,q2,q3,q4⟩
 |panic ch=>exact⟨k1.kd hd',g'',fr'',S'',k1.trans q1,q2,q3,q4⟩
 |outgrown=>exact⟨k1.kd hd',g'',fr'',S'',k1.trans q1,q2,q3,q4⟩
theorem fZ{σ:Type}(ss:List Nat:=[])(live:List Nat)(cU:σ→List (Nat×DV))(st:σ→St)(inv:σ→Prop)(meas:σ→Nat)(s0:σ){c:Code}{fr:List DV}{S:St}{Q:Exit→List DV→St→Prop}(hm:P.follows .mixedOrders=true)(hc:rT ss c=true)
 (h0:inv s0∧ej (wk live fr) (kC (wk live fr) (cU s0))∧Sub (st s0) S)
 (round:∀s,inv s→vw P w0 ss c (kC (wk live fr) (cU s)) (st s) (iv (fun fr' S'=>∃s',inv s'∧meas s'<meas s∧ej (wk live fr') (kC (wk live fr) (cU s'))∧Sub (st s') S') Q)):
 fV P w0 (.loop c) fr S Q:=Qr live cU st inv meas s0 h0 fun s hs=>bh hm c hc (round s hs)
theorem oN{σ:Type}(ss:List Nat:=[])(live:List Nat)(cU:σ→List (Nat×DV))(st:σ→St)(inv:σ→Prop){c:Code}{fr:List DV}{S:St}{Q:Exit→List DV→St→Prop}(hm:P.follows .mixedOrders=true)(hc:rT ss c=true)
 (h1:vw P w0 ss c fr S (iv (fun fr' S'=>∃s,inv s∧ej (wk live fr') (kC (wk live fr) (cU s))∧Sub (st s) S') Q))
 (h2:∀s,inv s→Q .normal (kC (wk live fr) (cU s)) (st s)):fV P w0 c fr S Q:=by
 intro g a w q1 q2 q3;refine bg (bh hm c hc h1 g a w q1 q2 q3) ?_;rintro e a' w' ⟨hd,g',fr',S',k1,k2,k3,k4⟩
 cases e with
 |normal=>
  obtain⟨s,hi,hw,hS⟩:=k4;exact⟨hd,g',_,_,k1,k2.forget hS.box hS.acc,hw.spec (gN live k3),h2 s hi⟩
 |exit n=>exact⟨hd,g',fr',S',k1,k2,k3,k4⟩
 |goto n=>exact⟨hd,g',fr',S',k1,k2,k3,k4⟩
 |ret=>exact⟨hd,g',fr',S',k1,k2,k3,k4⟩
 |panic ch=>exact⟨hd,g',fr',S',k1,k2,k3,k4⟩
 |outgrown=>exact⟨hd,g',fr',S',k1,k2,k3,k4⟩
theorem G0(ss:List Nat:=[]){c:Code}{fr:List DV}{S:St}{Q:Exit→List DV→St→Prop}(hm:P.follows .mixedOrders=true)(hc:rT ss c=true)(h:vw P w0 ss c fr S Q):fV P w0 c fr S Q:=bh hm c hc h
theorem aQ(ss:List Nat:=[])(n:Nat)(live:List Nat)(cU:Nat→List (Nat×DV))(st:Nat→St)(inv:Nat→Prop){c:Code}{fr:List DV}{S:St}{Q:Exit→List DV→St→Prop}(hm:P.follows .mixedOrders=true)(hc:rT ss c=true)
 (h0:inv 0∧ej (wk live fr) (kC (wk live fr) (cU 0))∧Sub (st 0) S)
 (round:∀k,k≤n→inv k→vw P w0 ss c (kC (wk live fr) (cU k)) (st k) (iv (fun fr' S'=>k<n∧inv (k+1)∧ej (wk live fr') (kC (wk live fr) (cU (k+1)))∧Sub (st (k+1)) S') Q)):
 fV P w0 (.loop c) fr S Q:=by
 refine Qr live cU st (fun k=>k≤n∧inv k) (fun k=>n-k) 0 ⟨⟨aa6 _,h0.1⟩,h0.2⟩ ?_;rintro k ⟨h1,h2⟩;refine(bh hm c hc (round k h1 h2)).mono ?_;intro e fr' S' q
 cases e with
 |normal=>
  obtain⟨q1,q2,q3,q4⟩:=q;exact⟨k+1,⟨q1,q2⟩,by omega,q3,q4⟩
 |exit n=>exact q
 |goto n=>exact q
 |ret=>exact q
 |panic ch=>exact q
 |outgrown=>exact q
theorem Kg(ss:List Nat:=[])(fz:List Nat)(n:Nat)(live:List Nat)(cU:Nat→List (Nat×DV))(st:Nat→St)(inv:Nat→Prop){c:Code}{fr:List DV}{S:St}{Q:Exit→List DV→St→Prop}(hm:P.follows .mixedOrders=true)(hc:rT ss c=true)
 (h0:inv 0∧oZ fz (wk live fr) S fun fr' S'=>ej fr' (kC (wk live fr) (cU 0))∧Sub (st 0) S')
 (round:∀k,k≤n→inv k→vw P w0 ss c (kC (wk live fr) (cU k)) (st k) (iv (fun fr' S'=>k<n∧inv (k+1)∧oZ fz (wk live fr') S' fun fr' S'=>ej fr' (kC (wk live fr) (cU (k+1)))∧Sub (st (k+1)) S') Q)):
 fV P w0 (.loop c) fr S Q:=by
 intro g a w h1 h2 h3;obtain⟨g0,f0,S0,r1,r2,r3,r4,r5⟩:=oV fz h1 (gN live h2) h0.2;refine lD (fun m a w=>Dk w0 g a w∧∃g' k,g.le g'∧Rel w0 g' (st k) w∧af g' (kC (wk live fr) (cU k)) a.tmps.toList∧(k≤n∧inv k)∧n-k=m) (m:=n-0) ⟨h3,g0,0,r1,r2.forget r5.box r5.acc,r4.spec r3,⟨aa6 _,h0.1⟩,rfl⟩ ?_;rintro m a w ⟨hd,g',k,k1,k2,k3,k4,rfl⟩;refine bg (bh hm c hc (round k k4.1 k4.2) g' a w k2 k3 (k1.dk hd)) ?_;rintro e a' w' ⟨hd',g'',fr'',S'',q1,q2,q3,q4⟩
 cases e with
 |normal=>
  obtain⟨hlt,hi,hf⟩:=q4;obtain⟨g3,f3,S3,p1,p2,p3,p4,p5⟩:=oV fz q2 (gN live q3) hf;exact⟨n-(k+1),by omega,k1.kd hd',g3,k+1,(k1.trans q1).trans p1,p2.forget p5.box p5.acc,p4.spec p3,⟨hlt,hi⟩,rfl⟩
 |exit n=>exact⟨k1.kd hd',g'',fr'',S'',k1.trans q1,q2,q3,q4⟩
 |goto n=>exact⟨k1.kd hd',g'',fr'',S'',k1.trans q1,q2,q3,q4⟩
 |ret=>exact⟨k1.kd hd',g'',fr'',S'',k1.trans q1,q2,q3,q4⟩
 |panic ch=>exact⟨k1.kd hd',g'',fr'',S'',k1.trans q1,q2,q3,q4⟩
 |outgrown=>exact⟨k1.kd hd',g'',fr'',S'',k1.trans q1,q2,q3,q4⟩
theorem bI(ss:List Nat:=[]){f:FuncId}{fn:Func}{c:Code}{rs:List ResultVar}{args:List DV}{S:St}{r:DV}(hm:P.follows .mixedOrders=true)(hf:P.funcs[f]? =some fn)(hb:fn.body=some c)(hrs:fn.results=rs.toArray)(hc:rT ss c=true)
 (h:vw P w0 ss c (dE (args++List.replicate (fn.ntmps-args.length) ud)) S fun e fr S'=>(e= .normal∨e= .ret)∧mV P fr S' rs fun d=>pM S' d fun d S''=>Wk d r∧Sub S S''):ab P w0 f args S (fun d S'=>d=r∧S'=S):=by
 have h1:ab P w0 f args S (fun d S'=>pM S' d fun d S''=>Wk d r∧Sub S S''):=td hf hb hrs (bh hm c hc h);intro g vs w k1 k2;refine(h1 g vs w k1 k2).mono ?_;intro e w' k;refine k.imp (.refl _) ?_;rintro v g' d S' q2 q3 q4 q5;obtain⟨g2,d',S2,p1,p2,p3,p4,p5⟩:=Dp q3 q4 q5;exact⟨g2,r,S,q2.trans p1,p2.forget p5.box p5.acc,p4 _ _ p3,rfl,rfl⟩
theorem _root_.Aml.Rel.Am{g:Gh}{S:St}{w:World}(h:Rel w0 g S w){b:Nat}{ds ds':List DV}(hl:lk S.box b=some ds)(hw:∀us e,w.heap[b]? =some (.cells us e (0,0))→af g ds us.toList→af g ds' us.toList):Rel w0 g ⟨up S.box b ds',S.acc⟩ w:=by
 refine⟨h.below,h.aY,by rw[mv];exact h.nb,h.na,h.eU,h.fresh,h.top,?_⟩;obtain⟨ow,o1,o2⟩:=h.own;refine⟨ow,fun b' e hm=>?_,o2⟩;rcases fy h.nb hm with he|⟨hm,_⟩
 ·cases he;obtain⟨q1,q2,q3,us,e,q4,q5,q6⟩:=o1 _ _ (bV hl);exact⟨q1,q2,q3,us,e,q4,hw _ _ q4 q5,q6⟩
 ·exact o1 _ _ hm
theorem fh(b j s:Nat)(hs:0<s){c:Code}{fr:List DV}{S:St}{Q:Exit→List DV→St→Prop}{ds:List DV}{s0:Nat}(hb:lk S.box b=some ds)(hi:ds[j]? =some (.sl s0 true []))
 (h:∀l:FN S.acc,fV P w0 c fr ⟨up S.box b (ds.set j (.acc l.n 0)),(l.n,.arr s [])::S.acc⟩ Q):fV P w0 c fr S Q:=by
 intro g a w h1 h2 h3;obtain⟨ow,o1,o2⟩:=h1.own;obtain⟨q1,q2,q3,us,e,q4,q5,q6⟩:=o1 _ _ (bV hb);have hlt:j<us.toList.length:=by rw[←q5.len];exact(aad.1 hi).1
 have hr:=q5.at_ j _ _ hi (aac hlt);have hr':aG g (.sl s true []) us.toList[j]:=by obtain⟨o',ho'⟩:=cO hr;rw[ho'];exact .nil _ _ _ _ fun _=>rfl
 obtain⟨l,g',hle,hne,hR,hA⟩:=h1.pV hs hr' (.arr s []) (.inr ⟨rfl,rfl⟩);have hR':=hR.Am (ds':=ds.set j (.acc l 0)) (b:=b) hb ?_
 ·exact bg (h ⟨l,cG hne⟩ g' a w hR' (h2.mono hle) (hle.dk h3)) fun _ _ _ k=>k.of_le hle
 ·intro us' e' hh hr2;rw[hh]at q4;cases q4;exact gF hr2 (aac hlt) hA
theorem jr(i s:Nat){c:Code}{fr:List DV}{S:St}{Q:Exit→List DV→St→Prop}{s0:Nat}(hi:fr[i]? =some (.sl s0 true []))(hs:0<s)
 (h:∀l:FN S.acc,fV P w0 c (fr.set i (.acc l.n 0)) ⟨S.box,(l.n,.arr s [])::S.acc⟩ Q):fV P w0 c fr S Q:=G5 i s hs hi fun l hl=>h ⟨l,hl⟩
theorem HX(ss:List Nat:=[])(is:List Nat){c:Code}{fr:List DV}{S:St}{Q:Exit→List DV→St→Prop}(hm:P.follows .mixedOrders=true)(hc:rT ss c=true)(h:oZ is fr S fun fr S=>vw P w0 ss c fr S Q):fV P w0 c fr S Q:=by
 intro g a w h1 h2 h3;obtain⟨g',f',S',k1,k2,k3,k4⟩:=oV is h1 h2 h;exact bg (bh hm c hc k4 g' a w k2 k3 (k1.dk h3)) fun _ _ _ k=>k.of_le k1
theorem vd{f:FuncId}{args:List DV}{S:St}{K K':DV→St→Prop}(h:ab P w0 f args S K')(s:Nat)(hs:0<s)
 (hk:∀d S',K' d S'→K d S'∨((∃s0,d= .sl s0 true [])∧∀l,jT S'.acc l→K (.acc l 0) ⟨S'.box,(l,.arr s [])::S'.acc⟩)):ab P w0 f args S K:=by
 intro g vs w h1 h2;refine(h g vs w h1 h2).mono ?_;intro e w' k;refine k.imp (.refl _) ?_;rintro r g' d S' q2 q3 q4 q5;rcases hk d S' q5 with h|⟨⟨s0,rfl⟩,h⟩
 ·exact⟨g',d,S',q2,q3,q4,h⟩
 ·have hr':aG g' (.sl s true []) r:=by obtain⟨o',ho'⟩:=cO q4;rw[ho'];exact .nil _ _ _ _ fun _=>rfl
  obtain⟨l,g2,hle,hne,hR,hA⟩:=q3.pV hs hr' (.arr s []) (.inr ⟨rfl,rfl⟩);exact⟨g2,_,_,q2.trans hle,hR,hA,h l (cG hne)⟩
theorem AX{f:FuncId}{args:List DV}{S:St}{xs:List DV}(s:Nat)(hs:0<s)(h:ab P w0 f args S fun d S'=>(xs=[]∧(∃s0,d= .sl s0 true [])∧S'=S)∨∃l:FN S.acc,d= .acc l.n xs.length∧S'=⟨S.box,(l.n,.arr s xs)::S.acc⟩):
 ab P w0 f args S fun d S'=>∃l:FN S.acc,d= .acc l.n xs.length∧S'=⟨S.box,(l.n,.arr s xs)::S.acc⟩:=by
 refine vd h s hs ?_;rintro d S' (⟨rfl,⟨s0,rfl⟩,rfl⟩|h)
 ·exact .inr ⟨⟨s0,rfl⟩,fun l hl=>⟨⟨l,hl⟩,rfl,rfl⟩⟩
 ·exact .inl h
end
attribute [go_sem high] IS Su
attribute [go_sem low] Uv
attribute [go_sem] Tt Sl Tq Jj OS MH Ud NI SR TQ
attribute [go_sem ↓] EH B4
structure Wr(P:Prop):Prop where
 h:P
theorem aa(P:Prop)(w:Wr P):P:=w.h
theorem av{P Q:Prop}(q:Q)(e:(P↔Q):=by simp(maxDischargeDepth:=12) (maxSteps:=1000000) -implicitDefEqProofs only[go_sem,Nat.reduceAdd,Nat.reduceSub,Nat.reduceMul,Nat.reduceLeDiff,Nat.reduceEqDiff,Nat.reduceGT,Nat.reduceBEq,reduceCtorEq,↓reduceIte,Int.reduceToNat,Int.reduceLE,Int.reduceLT,Int.reduceNe,Int.reduceEq] <;>exact adr):Wr P:=⟨Iff.mpr e q⟩
theorem bY{P:Prop}(e:(P↔True):=by simp(maxDischargeDepth:=12) (maxSteps:=1000000) -implicitDefEqProofs only[go_sem,Nat.reduceAdd,Nat.reduceSub,Nat.reduceMul,Nat.reduceLeDiff,Nat.reduceEqDiff,Nat.reduceGT,Nat.reduceBEq,reduceCtorEq,↓reduceIte,Int.reduceToNat,Int.reduceLE,Int.reduceLT,Int.reduceNe,Int.reduceEq]):Wr P:=⟨of_iff_true e⟩
theorem ah{X1 P Q:Prop}(x1:X1)(q:Q)(e:X1→(P↔Q):=by intro z1;simp(maxDischargeDepth:=12) (maxSteps:=1000000) -implicitDefEqProofs only[go_sem,Nat.reduceAdd,Nat.reduceSub,Nat.reduceMul,Nat.reduceLeDiff,Nat.reduceEqDiff,Nat.reduceGT,Nat.reduceBEq,reduceCtorEq,↓reduceIte,Int.reduceToNat,Int.reduceLE,Int.reduceLT,Int.reduceNe,Int.reduceEq,z1] <;>exact adr):Wr P:=⟨Iff.mpr (e x1) q⟩
theorem ft{X1 P:Prop}(x1:X1)(e:X1→(P↔True):=by intro z1;simp(maxDischargeDepth:=12) (maxSteps:=1000000) -implicitDefEqProofs only[go_sem,Nat.reduceAdd,Nat.reduceSub,Nat.reduceMul,Nat.reduceLeDiff,Nat.reduceEqDiff,Nat.reduceGT,Nat.reduceBEq,reduceCtorEq,↓reduceIte,Int.reduceToNat,Int.reduceLE,Int.reduceLT,Int.reduceNe,Int.reduceEq,z1]):Wr P:=⟨of_iff_true (e x1)⟩
theorem cK{X1 X2 P Q:Prop}(x1:X1)(x2:X2)(q:Q)(e:X1→X2→(P↔Q):=by intro z1 z2;simp(maxDischargeDepth:=12) (maxSteps:=1000000) -implicitDefEqProofs only[go_sem,Nat.reduceAdd,Nat.reduceSub,Nat.reduceMul,Nat.reduceLeDiff,Nat.reduceEqDiff,Nat.reduceGT,Nat.reduceBEq,reduceCtorEq,↓reduceIte,Int.reduceToNat,Int.reduceLE,Int.reduceLT,Int.reduceNe,Int.reduceEq,z1,z2] <;>exact adr):Wr P:=⟨Iff.mpr (e x1 x2) q⟩
theorem di{X1 X2 P:Prop}(x1:X1)(x2:X2)(e:X1→X2→(P↔True):=by intro z1 z2;simp(maxDischargeDepth:=12) (maxSteps:=1000000) -implicitDefEqProofs only[go_sem,Nat.reduceAdd,Nat.reduceSub,Nat.reduceMul,Nat.reduceLeDiff,Nat.reduceEqDiff,Nat.reduceGT,Nat.reduceBEq,reduceCtorEq,↓reduceIte,Int.reduceToNat,Int.reduceLE,Int.reduceLT,Int.reduceNe,Int.reduceEq,z1,z2]):Wr P:=⟨of_iff_true (e x1 x2)⟩
theorem cL{X1 X2 X3 P Q:Prop}(x1:X1)(x2:X2)(x3:X3)(q:Q)(e:X1→X2→X3→(P↔Q):=by intro z1 z2 z3;simp(maxDischargeDepth:=12) (maxSteps:=1000000) -implicitDefEqProofs only[go_sem,Nat.reduceAdd,Nat.reduceSub,Nat.reduceMul,Nat.reduceLeDiff,Nat.reduceEqDiff,Nat.reduceGT,Nat.reduceBEq,reduceCtorEq,↓reduceIte,Int.reduceToNat,Int.reduceLE,Int.reduceLT,Int.reduceNe,Int.reduceEq,z1,z2,z3] <;>exact adr):Wr P:=⟨Iff.mpr (e x1 x2 x3) q⟩
theorem tI{X1 X2 X3 P:Prop}(x1:X1)(x2:X2)(x3:X3)(e:X1→X2→X3→(P↔True):=by intro z1 z2 z3;simp(maxDischargeDepth:=12) (maxSteps:=1000000) -implicitDefEqProofs only[go_sem,Nat.reduceAdd,Nat.reduceSub,Nat.reduceMul,Nat.reduceLeDiff,Nat.reduceEqDiff,Nat.reduceGT,Nat.reduceBEq,reduceCtorEq,↓reduceIte,Int.reduceToNat,Int.reduceLE,Int.reduceLT,Int.reduceNe,Int.reduceEq,z1,z2,z3]):Wr P:=⟨of_iff_true (e x1 x2 x3)⟩
theorem aZ{X1 X2 X3 X4 P Q:Prop}(x1:X1)(x2:X2)(x3:X3)(x4:X4)(q:Q)(e:X1→X2→X3→X4→(P↔Q):=by intro z1 z2 z3 z4;simp(maxDischargeDepth:=12) (maxSteps:=1000000) -implicitDefEqProofs only[go_sem,Nat.reduceAdd,Nat.reduceSub,Nat.reduceMul,Nat.reduceLeDiff,Nat.reduceEqDiff,Nat.reduceGT,Nat.reduceBEq,reduceCtorEq,↓reduceIte,Int.reduceToNat,Int.reduceLE,Int.reduceLT,Int.reduceNe,Int.reduceEq,z1,z2,z3,z4] <;>exact adr):Wr P:=⟨Iff.mpr (e x1 x2 x3 x4) q⟩
theorem EY{X1 X2 X3 X4 P:Prop}(x1:X1)(x2:X2)(x3:X3)(x4:X4)(e:X1→X2→X3→X4→(P↔True):=by intro z1 z2 z3 z4;simp(maxDischargeDepth:=12) (maxSteps:=1000000) -implicitDefEqProofs only[go_sem,Nat.reduceAdd,Nat.reduceSub,Nat.reduceMul,Nat.reduceLeDiff,Nat.reduceEqDiff,Nat.reduceGT,Nat.reduceBEq,reduceCtorEq,↓reduceIte,Int.reduceToNat,Int.reduceLE,Int.reduceLT,Int.reduceNe,Int.reduceEq,z1,z2,z3,z4]):Wr P:=⟨of_iff_true (e x1 x2 x3 x4)⟩
theorem eQ{X1 X2 X3 X4 X5 P Q:Prop}(x1:X1)(x2:X2)(x3:X3)(x4:X4)(x5:X5)(q:Q)(e:X1→X2→X3→X4→X5→(P↔Q):=by intro z1 z2 z3 z4 z5;simp(maxDischargeDepth:=12) (maxSteps:=1000000) -implicitDefEqProofs only[go_sem,Nat.reduceAdd,Nat.reduceSub,Nat.reduceMul,Nat.reduceLeDiff,Nat.reduceEqDiff,Nat.reduceGT,Nat.reduceBEq,reduceCtorEq,↓reduceIte,Int.reduceToNat,Int.reduceLE,Int.reduceLT,Int.reduceNe,Int.reduceEq,z1,z2,z3,z4,z5] <;>exact adr):Wr P:=⟨Iff.mpr (e x1 x2 x3 x4 x5) q⟩
theorem YE{X1 X2 X3 X4 X5 P:Prop}(x1:X1)(x2:X2)(x3:X3)(x4:X4)(x5:X5)(e:X1→X2→X3→X4→X5→(P↔True):=by intro z1 z2 z3 z4 z5;simp(maxDischargeDepth:=12) (maxSteps:=1000000) -implicitDefEqProofs only[go_sem,Nat.reduceAdd,Nat.reduceSub,Nat.reduceMul,Nat.reduceLeDiff,Nat.reduceEqDiff,Nat.reduceGT,Nat.reduceBEq,reduceCtorEq,↓reduceIte,Int.reduceToNat,Int.reduceLE,Int.reduceLT,Int.reduceNe,Int.reduceEq,z1,z2,z3,z4,z5]):Wr P:=⟨of_iff_true (e x1 x2 x3 x4 x5)⟩
theorem jL{X1 X2 X3 X4 X5 X6 P Q:Prop}(x1:X1)(x2:X2)(x3:X3)(x4:X4)(x5:X5)(x6:X6)(q:Q)(e:X1→X2→X3→X4→X5→X6→(P↔Q):=by intro z1 z2 z3 z4 z5 z6;simp(maxDischargeDepth:=12) (maxSteps:=1000000) -implicitDefEqProofs only[go_sem,Nat.reduceAdd,Nat.reduceSub,Nat.reduceMul,Nat.reduceLeDiff,Nat.reduceEqDiff,Nat.reduceGT,Nat.reduceBEq,reduceCtorEq,↓reduceIte,Int.reduceToNat,Int.reduceLE,Int.reduceLT,Int.reduceNe,Int.reduceEq,z1,z2,z3,z4,z5,z6] <;>exact adr):Wr P:=⟨Iff.mpr (e x1 x2 x3 x4 x5 x6) q⟩
theorem kH{X1 X2 X3 X4 X5 X6 X7 P Q:Prop}(x1:X1)(x2:X2)(x3:X3)(x4:X4)(x5:X5)(x6:X6)(x7:X7)(q:Q)(e:X1→X2→X3→X4→X5→X6→X7→(P↔Q):=by intro z1 z2 z3 z4 z5 z6 z7;simp(maxDischargeDepth:=12) (maxSteps:=1000000) -implicitDefEqProofs only[go_sem,Nat.reduceAdd,Nat.reduceSub,Nat.reduceMul,Nat.reduceLeDiff,Nat.reduceEqDiff,Nat.reduceGT,Nat.reduceBEq,reduceCtorEq,↓reduceIte,Int.reduceToNat,Int.reduceLE,Int.reduceLT,Int.reduceNe,Int.reduceEq,z1,z2,z3,z4,z5,z6,z7] <;>exact adr):Wr P:=⟨Iff.mpr (e x1 x2 x3 x4 x5 x6 x7) q⟩
theorem bz{X1 X2 X3 X4 X5 X6 X7 X8 P Q:Prop}(x1:X1)(x2:X2)(x3:X3)(x4:X4)(x5:X5)(x6:X6)(x7:X7)(x8:X8)(q:Q)(e:X1→X2→X3→X4→X5→X6→X7→X8→(P↔Q):=by intro z1 z2 z3 z4 z5 z6 z7 z8;simp(maxDischargeDepth:=12) (maxSteps:=1000000) -implicitDefEqProofs only[go_sem,Nat.reduceAdd,Nat.reduceSub,Nat.reduceMul,Nat.reduceLeDiff,Nat.reduceEqDiff,Nat.reduceGT,Nat.reduceBEq,reduceCtorEq,↓reduceIte,Int.reduceToNat,Int.reduceLE,Int.reduceLT,Int.reduceNe,Int.reduceEq,z1,z2,z3,z4,z5,z6,z7,z8] <;>exact adr):Wr P:=⟨Iff.mpr (e x1 x2 x3 x4 x5 x6 x7 x8) q⟩
end Aml
namespace Aml
open Go Go.RowKit
section
variable {P:Program} {w0:W0}
theorem OU{fr:List DV}{S:St}{K:DV→St→Prop}(x:Operand):aH P w0 (.panic x) fr S K=tZ w0 (ev fr x) S:=rfl
theorem yI(t:TypeId)(d:DV)(S:St):tZ w0 (.jM t d) S=w0.pq (.jM t d) S:=rfl
attribute [go_sem ↓] OU yI
theorem mh(ss:List Nat:=[]){f:FuncId}{fn:Func}{c:Code}{rs:List ResultVar}{args:List DV}{S:St}{K:DV→St→Prop}(hm:P.follows .mixedOrders=true)(hf:P.funcs[f]? =some fn)(hb:fn.body=some c)(hrs:fn.results=rs.toArray)(hc:rT ss c=true)
 (h:vw P w0 ss c (dE (args++List.replicate (fn.ntmps-args.length) ud)) S fun e fr S'=>(e= .normal∨e= .ret)∧mV P fr S' rs fun d=>∃d' S'',Wk d d'∧Sub S'' S'∧K d' S''):ab P w0 f args S K:=by
 have h1:ab P w0 f args S (fun d S'=>∃d' S'',Wk d d'∧Sub S'' S'∧K d' S''):=td hf hb hrs (bh hm c hc h);intro g vs w k1 k2;refine(h1 g vs w k1 k2).mono ?_;intro e w' k;refine k.imp (.refl _) ?_;rintro v g' d S' q2 q3 q4 ⟨d',S'',p1,p2,p3⟩;exact⟨g',d',S'',q2,q3.forget p2.box p2.acc,p1 _ _ q4,p3⟩
theorem J5(b:Nat)(ds':List DV){ds:List DV}{c:Code}{fr:List DV}{S:St}{Q:Exit→List DV→St→Prop}(hb:lk S.box b=some ds)(hw:ej ds ds')(h:fV P w0 c fr ⟨up S.box b ds',S.acc⟩ Q):fV P w0 c fr S Q:=
 fun g a w h1 h2 h3=>h g a w (h1.Am hb fun _ _ _ r=>hw.spec r) h2 h3
end
end Aml
