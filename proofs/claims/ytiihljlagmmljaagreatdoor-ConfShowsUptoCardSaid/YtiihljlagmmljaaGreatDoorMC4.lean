/-
  Part 4 of the proof that the last text ends: from 'Reckoning over statements whose order is open' to 'More forms of functions'. By an AI agent.
-/
import Derived.Test.YtiihljlagmmljaaGreatDoorMC3
set_option linter.unusedVariables false
set_option linter.unusedSimpArgs false
set_option maxRecDepth 100000
set_option maxHeartbeats 16000000
namespace Aml
open Go Go.RowKit
section
variable {P:Program} {w0:W0} {S:St} {K:DV→Prop}
theorem pZ{c a b:DV}(h:fA c a b K):∃d,fA c a b (·=d)∧K d:=by
 unfold fA at*;split at h
 ·rename_i t;cases t
  ·exact⟨b,⟨by simp,fun _=>rfl⟩,h.2 rfl⟩
  ·exact⟨a,⟨fun _=>rfl,by simp⟩,h.1 rfl⟩
 ·exact h.elim
theorem KX{ds:List DV}(h:Ly ds K):∃d,Ly ds (·=d)∧K d:=by
 unfold Ly at*;split at h
 ·exact⟨_,rfl,h⟩
 ·exact h.elim
theorem sJ{k:TK}{ds:List DV}(h:mL k ds K):∃d,mL k ds (·=d)∧K d:=by
 unfold mL at*;split at h
 ·exact⟨_,⟨h.1,rfl⟩,h.2⟩
 ·exact⟨_,⟨h.1,rfl⟩,h.2⟩
 ·exact h.elim
 ·exact KX h
theorem uK{k:TK}{x:DV}(h:bX k S x K):∃d,bX k S x (·=d)∧K d:=by
 unfold bX at*;split at h
 ·split at h
  ·rename_i hb;(try simp only[hb]);exact sJ h
  ·exact h.elim
 ·exact sJ h
 ·split at h
  ·rename_i hb;obtain⟨h1,h2,d,h3,h4,h5⟩:=h;obtain⟨e,q1,q2⟩:=sJ h5;exact⟨e,by first|exact⟨h1,h2,d,h3,h4,q1⟩|(simp only[hb];exact⟨h1,h2,d,h3,h4,q1⟩),q2⟩
  ·rename_i hb;obtain⟨h1,h2,d,h3,h4,h5⟩:=h;obtain⟨e,q1,q2⟩:=sJ h5;exact⟨e,by first|exact⟨h1,h2,d,h3,h4,q1⟩|(simp only[hb];exact⟨h1,h2,d,h3,h4,q1⟩),q2⟩
  ·exact h.elim
 ·exact h.elim
theorem lU{k:TK}{f:Nat}{x:DV}(h:dZ k f x K):∃d,dZ k f x (·=d)∧K d:=by
 unfold dZ at*;split at h
 ·split at h
  ·rename_i hf
   try simp only[hf]
   obtain⟨h1,h⟩:=h;split at h
   ·exact⟨_,⟨h1,rfl⟩,h⟩
   ·exact⟨_,⟨h1,h.1,rfl⟩,h.2⟩
   ·exact⟨_,⟨h1,rfl⟩,h⟩
   ·exact h.elim
  ·exact h.elim
 ·exact h.elim
theorem bH{k:TK}{x i:DV}(h:aD k x i K):∃d,aD k x i (·=d)∧K d:=by
 unfold aD at*;split at h
 ·split at h
  ·obtain⟨h1,h2,h3,h4⟩:=h;rename_i z _ _ _ xs;have hlt:z.toNat<xs.length:=by omega
   obtain⟨h5,h6⟩:=h4 _ (so hlt);exact⟨_,⟨h1,h2,h3,fun d hd=>by rw[so hlt]at hd;cases hd;exact⟨h5,rfl⟩⟩,h6⟩
  ·exact⟨_,⟨h.1,h.2.1,rfl⟩,h.2.2⟩
  ·exact⟨_,⟨h.1,h.2.1,rfl⟩,h.2.2⟩
  ·exact h.elim
 ·obtain⟨h1,h2,h3,h4⟩:=h;split at h4
  ·exact⟨_,⟨h1,h2,h3,rfl⟩,h4⟩
  ·exact⟨_,⟨h1,h2,h3,h4.1,rfl⟩,h4.2⟩
  ·exact h4.elim
 ·exact h.elim
theorem zU{w0:W0}{fr:List DV}{x:Operand}{k:TK}{i:DV}(h:Ay w0 fr x fun d=>aD k d i K):∃d,(Ay w0 fr x fun d'=>aD k d' i (·=d))∧K d:=by
 cases x with
 |global b=>
  obtain⟨us,hg,h⟩:=h;obtain⟨d,q1,q2⟩:=bH h;exact⟨d,⟨us,hg,q1⟩,q2⟩
 |tmp n=>exact bH (x:=ev fr (.tmp n)) h
 |const u=>exact bH (x:=ev fr (.const u)) h
 |func f=>exact bH (x:=ev fr (.func f)) h
theorem mo{k:TK}{x i:DV}(h:fC k x i K):∃d,fC k x i (·=d)∧K d:=by
 unfold fC at*;split at h
 ·obtain⟨h1,h2,h3⟩:=h;rename_i s _ z;have hlt:z.toNat<s.data.toList.length:=by simp;have:s.data.size=s.size:=rfl;omega
  exact⟨_,⟨h1,h2,fun d hd=>by rw[so hlt]at hd;cases hd;rfl⟩,h3 _ (so hlt)⟩
 ·exact h.elim
theorem j7{k:TK}{f:Nat}{x:DV}(h:eT k f x K):∃d,eT k f x (·=d)∧K d:=by
 unfold eT at*;split at h
 ·split at h
  ·rename_i hf
   try simp only[hf]
   split at h
   ·obtain⟨h1,h⟩:=h;split at h
    ·exact⟨_,⟨h1,rfl⟩,h⟩
    ·split at h
     ·rename_i hd;(try simp only[hd]);exact⟨_,⟨h1,rfl⟩,h⟩
     ·exact h.elim
   ·exact h.elim
  ·exact h.elim
 ·exact h.elim
theorem iM{i:Nat}{x:DV}(h:cB i x K):∃d,cB i x (·=d)∧K d:=by
 unfold cB at*;split at h
 ·split at h
  ·rename_i hd;(try simp only[hd]);exact⟨_,rfl,h⟩
  ·exact h.elim
 ·exact h.elim
theorem Dv{op:BinOp}{k:IntKind}{m n:Int}(h:jN op k m n K):∃d,jN op k m n (·=d)∧K d:=by
 cases op <;>simp only[jN]at h ⊢ <;>first|exact⟨_,rfl,h⟩|exact⟨_,⟨h.1,rfl⟩,h.2⟩
theorem EW{op:BinOp}{x y:ByteArray}(h:iy op x y K):∃d,iy op x y (·=d)∧K d:=by
 cases op <;>simp only[iy]at h ⊢ <;>first|exact⟨_,rfl,h⟩|exact⟨_,⟨h.1,rfl⟩,h.2⟩
theorem HE{op:BinOp}{t:TK}{cx cy:Bool}{x y:DV}(h:mV op t cx cy x y K):∃d,mV op t cx cy x y (·=d)∧K d:=by
 unfold mV at*;split at h
 ·obtain⟨d,q1,q2⟩:=Dv h.2;exact⟨d,⟨h.1,q1⟩,q2⟩
 ·exact EW h
 ·split at h <;>first|exact⟨_,rfl,h⟩|exact h.elim
 ·split at h <;>first|exact⟨_,⟨h.1,rfl⟩,h.2⟩|exact h.elim
 ·split at h <;>first|exact⟨_,rfl,h⟩|exact h.elim
 ·split at h <;>first|exact⟨_,rfl,h⟩|exact h.elim
 ·split at h <;>first|exact⟨_,⟨h.1,rfl⟩,h.2⟩|exact h.elim
 ·exact h.elim
theorem pz{op:BinOp}{t:TypeId}{cx cy:Bool}{x y:DV}(h:gH P op t cx cy x y K):∃d,gH P op t cx cy x y (·=d)∧K d:=by
 unfold gH at*;split at h
 ·unfold jg at*;split at h
  ·rename_i he;obtain⟨q,q1,q2⟩:=iU h;exact⟨_,e9 (fun r e=>by rw[e]) q1,q2⟩
  ·rename_i he;obtain⟨q,q1,q2⟩:=iU h;exact⟨_,e9 (fun r e=>by rw[e]) q1,q2⟩
  ·exact h.elim
 ·exact HE h
theorem xv{op:UnOp}{x:DV}(h:Au op x K):∃d,Au op x (·=d)∧K d:=by
 unfold Au at*;split at h <;>first|exact⟨_,rfl,h⟩|exact h.elim
theorem oz{a b:TK}{x:DV}(h:fy a b x K):∃d,fy a b x (·=d)∧K d:=by
 unfold fy at*;split at h <;>first|exact⟨_,rfl,h⟩|exact h.elim
theorem ph{fn:Fn}{a b:List DV}(h:iT fn a b K):∃d,iT fn a b (·=d)∧K d:=by
 unfold iT at*;split at h <;>first|exact⟨_,rfl,h⟩|exact h.elim
theorem dE{x:Option DV}{z:Int}{F:(DV→Prop)→Int→Prop}(hF:∀n,F K n→∃d,F (·=d) n∧K d)(h:iz x z (F K)):∃d,iz x z (F (·=d))∧K d:=by
 unfold iz at*;split at h <;>first|exact hF _ h|exact h.elim
theorem lX{k:TK}{x:DV}{lo hi mx:Option DV}(h:du k x lo hi mx K):∃d,du k x lo hi mx (·=d)∧K d:=by
 unfold du at*;split at h
 ·obtain⟨h1,h⟩:=h;rename_i e s b s' f xs
  obtain⟨d,q1,q2⟩:=dE (F:=fun K l=>iz hi xs.length fun h=>iz mx h fun m=>0≤l∧l≤h∧h≤m∧m≤xs.length∧
   K (.sl s (if mx.isSome then decide (m=h)else(f&&(hi.isNone||xs.isEmpty))) ((xs.take h.toNat).drop l.toNat))) (fun l h=>dE (F:=fun K h=>iz mx h fun m=>0≤l∧l≤h∧h≤m∧m≤xs.length∧
   K (.sl s (if mx.isSome then decide (m=h)else(f&&(hi.isNone||xs.isEmpty))) ((xs.take h.toNat).drop l.toNat))) (fun hh h=>dE (F:=fun K m=>0≤l∧l≤hh∧hh≤m∧m≤xs.length∧
   K (.sl s (if mx.isSome then decide (m=hh)else(f&&(hi.isNone||xs.isEmpty))) ((xs.take hh.toNat).drop l.toNat))) (fun m h=>⟨_,⟨h.1,h.2.1,h.2.2.1,h.2.2.2.1,rfl⟩,h.2.2.2.2⟩) h) h) h
  exact⟨d,⟨h1,q1⟩,q2⟩
 ·obtain⟨h1,h⟩:=h;rename_i s
  obtain⟨d,q1,q2⟩:=dE (F:=fun K l=>iz hi s.size fun h=>0≤l∧l≤h∧h≤s.size∧K (.v (.string (s.extract l.toNat h.toNat)))) (fun l h=>dE (F:=fun K h=>0≤l∧l≤h∧h≤s.size∧K (.v (.string (s.extract l.toNat h.toNat))))
   (fun hh h=>⟨_,⟨h.1,h.2.1,h.2.2.1,rfl⟩,h.2.2.2⟩) h) h
  exact⟨d,⟨h1,q1⟩,q2⟩
 ·rename_i e s by' b o n c
  exact dE (F:=fun K l=>iz hi n fun h=>iz mx c fun m=>0≤l∧l≤h∧h≤m∧m≤c∧
   K (.v (.slice (some ⟨b,if m.toNat=l.toNat then o else o+l.toNat*s,none⟩) (h.toNat-l.toNat) (m.toNat-l.toNat)))) (fun l h=>dE (F:=fun K h=>iz mx c fun m=>0≤l∧l≤h∧h≤m∧m≤c∧
   K (.v (.slice (some ⟨b,if m.toNat=l.toNat then o else o+l.toNat*s,none⟩) (h.toNat-l.toNat) (m.toNat-l.toNat)))) (fun hh h=>dE (F:=fun K m=>0≤l∧l≤hh∧hh≤m∧m≤c∧
   K (.v (.slice (some ⟨b,if m.toNat=l.toNat then o else o+l.toNat*s,none⟩) (hh.toNat-l.toNat) (m.toNat-l.toNat)))) (fun m h=>⟨_,⟨h.1,h.2.1,h.2.2.1,h.2.2.2.1,rfl⟩,h.2.2.2.2⟩) h) h) h
 ·obtain⟨h1,h⟩:=h;rename_i n e s ag nn b o
  obtain⟨d,q1,q2⟩:=dE (F:=fun K l=>iz hi n fun h=>iz mx n fun m=>0≤l∧l≤h∧h≤m∧m≤n∧
   K (.v (.slice (some ⟨b,if m.toNat=l.toNat then o else o+l.toNat*s,none⟩) (h.toNat-l.toNat) (m.toNat-l.toNat)))) (fun l h=>dE (F:=fun K h=>iz mx n fun m=>0≤l∧l≤h∧h≤m∧m≤n∧
   K (.v (.slice (some ⟨b,if m.toNat=l.toNat then o else o+l.toNat*s,none⟩) (h.toNat-l.toNat) (m.toNat-l.toNat)))) (fun hh h=>dE (F:=fun K m=>0≤l∧l≤hh∧hh≤m∧m≤n∧
   K (.v (.slice (some ⟨b,if m.toNat=l.toNat then o else o+l.toNat*s,none⟩) (hh.toNat-l.toNat) (m.toNat-l.toNat)))) (fun m h=>⟨_,⟨h.1,h.2.1,h.2.2.1,h.2.2.2.1,rfl⟩,h.2.2.2.2⟩) h) h) h
  exact⟨d,⟨h1,q1⟩,q2⟩
 ·exact h.elim
theorem sj{k:TK}{x:DV}(h:kp k x K):∃d,kp k x (·=d)∧K d:=by
 unfold kp at*;split at h <;>first|exact⟨_,rfl,h⟩|exact h.elim
theorem s9{k:TK}{x:DV}(h:rO k x K):∃d,rO k x (·=d)∧K d:=by
 unfold rO at*;split at h <;>first|exact⟨_,rfl,h⟩|exact h.elim
theorem sc{x y:DV}(h:sa x y K):∃d,sa x y (·=d)∧K d:=by
 unfold sa at*;split at h <;>first|exact⟨_,rfl,h⟩|exact h.elim
theorem sN{x y:DV}(h:sH x y K):∃d,sH x y (·=d)∧K d:=by
 unfold sH at*;split at h <;>first|exact⟨_,rfl,h⟩|exact h.elim
theorem lY{t:TypeId}{parts:List (Nat×DV)}(h:dO P t parts K):∃d,dO P t parts (·=d)∧K d:=by
 unfold dO at*;split at h
 ·split at h
  ·rename_i hf;(try simp only[hf]);exact⟨_,rfl,h⟩
  ·exact h.elim
 ·exact h.elim
theorem fE{k:TK}{z:DV}{len:Nat}{parts:List (Nat×DV)}(h:aG k z len parts K):∃d,aG k z len parts (·=d)∧K d:=by
 unfold aG at*;split at h
 ·obtain⟨h1,h2,h3,h⟩:=h;split at h
  ·rename_i hf;(try simp only[hf]);exact⟨_,⟨h1,h2,h3,rfl⟩,h⟩
  ·exact h.elim
 ·exact h.elim
def qo:DV→Bool
 | .acc _ _=>false
 |_=>true
def eG:DV→Bool
 | .agg ds=>ds.all qo
 |d=>qo d
theorem zM{K:DV→St→Prop}{d:DV}(hd:qo d=true)(h:K d S):iZ S d K:=by
 cases d <;>first|(cases hd;done)|exact h
theorem BW{K:DV→St→Prop}{k:TK}{x:DV}{lo hi mx:Option DV}(hx:qo x=true)(h:gR k S x lo hi mx K):eX k S x lo hi mx K:=by
 cases x <;>first|(cases hx;done)|exact h
theorem ug:∀{ds:List DV} {K:List DV→St→Prop},ds.all qo=true→K ds S→jR S ds K
 |[],K,_,h=>h
 |d::ds,K,hd,h=>by
  simp only[SU,Rm]at hd;exact zM hd.1 (ug hd.2 h)
theorem Fi{K:DV→St→Prop}{d:DV}(hd:eG d=true)(h:K d S):shr S d K:=by
 cases d with
 |agg ds=>exact ug hd h
 |acc l n=>cases hd
 |_=>exact h
theorem nH:∀{ds:List DV} {K:List DV→St→Prop},ds.all eG=true→K ds S→eo S ds K
 |[],K,_,h=>h
 |d::ds,K,hd,h=>by
  simp only[SU,Rm]at hd;exact Fi hd.1 (nH hd.2 h)
theorem oT{ds:List DV}{F:List DV→St→Prop}(hd:ds.all eG=true)(h:F ds S):eQ S ds F:=by
 unfold eQ;split
 ·exact .inl h
 ·exact nH hd h
def jU(P:Program)(w0:W0)(cal:DV)(ds:List DV)(S:St)(K:DV→Prop):Prop:=match cal with
 | .v (.func (.func f) a cap)=>a.size=0∧okF P f=true∧cap.toList.all (fun u=>u.oneCell')=true∧ds.all eG=true∧∃d,ab P w0 f (ds++cap.toList.map .v) S (fun d' S'=>d'=d∧S'=S)∧K d
 |_=>False
theorem oP{m:Option (KK×DV)}{S:St}{x y:DV}{ok:Bool}{K:DV→Prop}(h:cL m S x y ok K):∃d,cL m S x y ok (·=d)∧K d:=by
 unfold cL at*
 cases m with
 |none=>exact h.elim
 |some p=>
  simp only[oK]at h ⊢;obtain⟨h0,h⟩:=h
  cases hk:qx y with
  |none=>rw[hk]at h;exact h.elim
  |some k=>
   rw[hk]at h;simp only at h ⊢;obtain⟨h1,h⟩:=h;split at h
   ·exact⟨_,⟨h0,h1,rfl⟩,h⟩
   ·split at h
    ·obtain⟨h2,h⟩:=h
     cases hg:pF _ k with
     |none=>rw[hg]at h;exact⟨_,⟨h0,h1,h2,rfl⟩,h⟩
     |some d=>rw[hg]at h;exact⟨_,⟨h0,h1,h2,rfl⟩,h⟩
    ·exact h.elim
   ·exact h.elim
def aX(P:Program)(w0:W0)(op:Op)(fr:List DV)(S:St)(K:DV→Prop):Prop:=match op with
 | .move x=>K (ev fr x)
 | .assign x=>K (ev fr x)
 | .pick c a b=>fA (ev fr c) (ev fr a) (ev fr b) K
 | .load t x=>bX (tk P t) S (ev fr x) K
 | .fieldAddr t x f=>dZ (tk P t) f (ev fr x) K
 | .indexAddr t x i=>Ay w0 fr x fun d=>aD (tk P t) d (ev fr i) K
 | .index t x i=>fC (tk P t) (ev fr x) (ev fr i) K
 | .field t x f=>eT (tk P t) f (ev fr x) K
 | .extract x i=>cB i (ev fr x) K
 | .nilCheck x=>notNil (ev fr x)=true∧K (ev fr x)
 | .binOp b t x y _=>fD y=false∧gH P b t (ux x) (ux y) (ev fr x) (ev fr y) K
 | .unOp b _ x=>Au b (ev fr x) K
 | .convert s d x=>fy (tk P s) (tk P d) (ev fr x) K
 | .makeInterface t x=>pY (tk P t)=false∧eG (ev fr x)=true∧K (.fN t (ev fr x))
 | .makeFunc fn a b=>iT fn (a.toList.map (ev fr)) (b.toList.map (ev fr)) K
 | .slice t x lo hi mx=>(mx.isSome=true→hi.isSome=true)∧qo (ev fr x)=true∧du (tk P t) (ev fr x) (lo.map (ev fr)) (hi.map (ev fr)) (mx.map (ev fr)) K
 | .build t parts=>(parts.toList.map fun p=>ev fr p.2).all eG=true∧dO P t ((parts.toList.map (·.1)).zip (parts.toList.map fun p=>ev fr p.2)) K
 | .buildSlice t len parts=>(parts.toList.map fun p=>ev fr p.2).all eG=true∧aG (tk P t) (zD P (dh P t)) len ((parts.toList.map (·.1)).zip (parts.toList.map fun p=>ev fr p.2)) K
 | .lookup t x y ok=>cL (nT P t) S (ev fr x) (ev fr y) ok K
 | .call c=>match c.callee with
  | .builtin .len=>(match c.args.toList,c.argTypes.toList with
   |[x],[t]=>kp (tk P t) (ev fr x) K
   |_,_=>False)
  | .builtin .cap=>(match c.args.toList,c.argTypes.toList with
   |[x],[t]=>rO (tk P t) (ev fr x) K
   |_,_=>False)
  | .builtin .min=>(match c.args.toList with
   |[x,y]=>sa (ev fr x) (ev fr y) K
   |_=>False)
  | .builtin .max=>(match c.args.toList with
   |[x,y]=>sH (ev fr x) (ev fr y) K
   |_=>False)
  | .value cal=>jU P w0 (ev fr cal) (c.args.toList.map (ev fr)) S K
  | .invoke r name=>xr P (ev fr r) name fun f d=>jU P w0 (.v (.func (.func f) #[] #[])) (d::c.args.toList.map (ev fr)) S K
  |_=>False
 |_=>False
theorem iQ{o:Oper}{fr:List DV}(hs:eE o.op=true)(h:aX P w0 o.op fr S K):∃d,QY P w0 S o fr d∧K d:=by
 have fin:∀{d:DV},aL P w0 o.op fr S (fun d' S'=>d'=d∧S'=S)→K d→∃d,QY P w0 S o fr d∧K d:=fun h1 h2=>⟨_,ct hs h1,h2⟩
 cases hop:o.op with
 |move x=>rw[hop]at h;exact fin (by rw[hop];exact⟨rfl,rfl⟩) h
 |assign x=>rw[hop]at h;exact fin (by rw[hop];exact⟨rfl,rfl⟩) h
 |pick c a b=>rw[hop]at h;obtain⟨d,q1,q2⟩:=pZ h;exact fin (by rw[hop];simpa[aL]using q1) q2
 |load t x=>rw[hop]at h;obtain⟨d,q1,q2⟩:=uK h;exact fin (by rw[hop];simpa[aL]using q1) q2
 |fieldAddr t x f=>rw[hop]at h;obtain⟨d,q1,q2⟩:=lU h;exact fin (by rw[hop];simpa[aL]using q1) q2
 |indexAddr t x i=>
  rw[hop]at h
  cases x with
  |global b=>
   obtain⟨us,hg,h⟩:=(show mF w0 b fun d=>aD (tk P t) d (ev fr i) K from h);obtain⟨d,q1,q2⟩:=bH h;exact fin (by rw[hop];exact⟨us,hg,by simpa using q1⟩) q2
  |tmp n=>obtain⟨d,q1,q2⟩:=bH (show aD (tk P t) (ev fr (.tmp n)) (ev fr i) K from h);exact fin (by rw[hop];simpa[aL,Ay]using q1) q2
  |const u=>obtain⟨d,q1,q2⟩:=bH (show aD (tk P t) (ev fr (.const u)) (ev fr i) K from h);exact fin (by rw[hop];simpa[aL,Ay]using q1) q2
  |func f=>obtain⟨d,q1,q2⟩:=bH (show aD (tk P t) (ev fr (.func f)) (ev fr i) K from h);exact fin (by rw[hop];simpa[aL,Ay]using q1) q2
 |index t x i=>rw[hop]at h;obtain⟨d,q1,q2⟩:=mo h;exact fin (by rw[hop];simpa[aL]using q1) q2
 |field t x f=>rw[hop]at h;obtain⟨d,q1,q2⟩:=j7 h;exact fin (by rw[hop];simpa[aL]using q1) q2
 |extract x i=>rw[hop]at h;obtain⟨d,q1,q2⟩:=iM h;exact fin (by rw[hop];simpa[aL]using q1) q2
 |nilCheck x=>rw[hop]at h;exact fin (by rw[hop];exact⟨h.1,rfl,rfl⟩) h.2
 |binOp b t x y t'=>rw[hop]at h;obtain⟨d,q1,q2⟩:=pz h.2;exact fin (by rw[hop];simp only[aL,h.1];simpa using q1) q2
 |unOp b t x=>rw[hop]at h;obtain⟨d,q1,q2⟩:=xv h;exact fin (by rw[hop];simpa[aL]using q1) q2
 |convert s d x=>rw[hop]at h;obtain⟨d',q1,q2⟩:=oz h;exact fin (by rw[hop];simpa[aL]using A9 (ke:=tk P (dh P s)) (kb:=tk P (dh P d)) (S:=S) q1) q2
 |makeInterface t x=>rw[hop]at h;exact fin (by rw[hop];exact⟨h.1,Fi h.2.1 ⟨rfl,rfl⟩⟩) h.2.2
 |makeFunc fn a b=>rw[hop]at h;obtain⟨d,q1,q2⟩:=ph h;exact fin (by rw[hop];simpa[aL]using q1) q2
 |slice t x lo hi mx=>rw[hop]at h;obtain⟨d,q1,q2⟩:=lX h.2.2;exact fin (by rw[hop];exact⟨h.1,BW h.2.1 (zM h.2.1 (by simpa using q1))⟩) q2
 |lookup t x y ok=>rw[hop]at h;obtain⟨d,q1,q2⟩:=oP h;exact fin (by rw[hop];simpa[aL]using q1) q2
 |build t parts=>rw[hop]at h;obtain⟨d,q1,q2⟩:=lY h.2;exact fin (by rw[hop];exact nH h.1 (by simpa using q1)) q2
 |buildSlice t len parts=>rw[hop]at h;obtain⟨d,q1,q2⟩:=fE h.2;exact fin (by rw[hop];exact nH h.1 (by simpa using q1)) q2
 |call c=>
  rw[hop]at h;obtain⟨callee,args,ts⟩:=c;simp only[aX]at h;split at h
  ·split at h
   ·rename_i x t e1 e2;obtain⟨d,q1,q2⟩:=sj h;exact fin (by rw[hop];simp only[aL,e1,e2];simpa using q1) q2
   ·exact h.elim
  ·split at h
   ·rename_i x t e1 e2;obtain⟨d,q1,q2⟩:=s9 h;exact fin (by rw[hop];simp only[aL,e1,e2];simpa using q1) q2
   ·exact h.elim
  ·split at h
   ·rename_i x y e1;obtain⟨d,q1,q2⟩:=sc h;exact fin (by rw[hop];simp only[aL,e1];simpa using q1) q2
   ·exact h.elim
  ·split at h
   ·rename_i x y e1;obtain⟨d,q1,q2⟩:=sN h;exact fin (by rw[hop];simp only[aL,e1];simpa using q1) q2
   ·exact h.elim
  ·rename_i cal;unfold jU at h;split at h
   ·rename_i f a cap hcal;obtain⟨h1,h2,h3,h4,d,h5,h6⟩:=h;exact fin (by rw[hop];simp only[aL,hcal];exact v7 h1 h3 (by rw[h2,J0];exact oT h4 h5)) h6
   ·exact h.elim
  ·rename_i r name;unfold xr at h;split at h
   ·rename_i t hx;split at h
    ·rename_i f hi;obtain⟨hf,_,h2,h3,h4,d,h5,h6⟩:=h;have h5':ab P w0 f (.agg []::args.toList.map (ev fr)) S (fun d' S'=>d'=d∧S'=S):=by simpa using h5
     exact fin (by rw[hop];simp only[aL,xr,hx,hi];exact⟨hf,oT h4 h5'⟩) h6
    ·exact h.elim
   ·exact h.elim
  ·exact h.elim
 |_=>rw[hop]at h;exact h.elim
end
end Aml
namespace Aml
open Go Go.RowKit
def dI(n:Int):DV:= .v (.int .i64 n)
def dU(n:Int):DV:= .v (.int .u64 n)
def dY(n:Int):DV:= .v (.int .u8 n)
def dB(b:Bool):DV:= .v (.bool b)
def dS(s:ByteArray):DV:= .v (.string s)
theorem Nu{n:Int}(h0:0≤n)(h1:n≤18446744073709551615):IntKind.u64.wrap n=n:=by
 show n%18446744073709551616=n;omega
theorem Ql{n:Int}(h0:0≤n)(h1:n≤255):IntKind.u8.wrap n=n:=by
 show n%256=n;omega
section
variable {P:Program} {w0:W0}
end
end Aml
namespace Aml
open Go Go.RowKit
def oQ:Op→Bool
 | .store ..| .box ..| .alloc ..| .makeSlice ..| .mapUpdate ..| .makeMap ..=>false
 | .call c=>match c.callee with
  | .builtin .append| .builtin .clear| .builtin .delete| .builtin .copy=>false
  |_=>true
 |_=>true
def pk(md:Region.Mode)(ops:Array Oper):Nat→Nat→Nat→Bool
 |0,_,_=>false
 |n+1,k,i=>match ops[k]? with
  |none=>false
  |some o=>o.after.any fun e=>Region.binds md e&&(e.on==i||pk md ops n e.on i)
def JE(md:Region.Mode)(ops:Array Oper):Bool:=(List.range ops.size).all fun k=>match ops[k]? with
 |none=>true
 |some o=>o.after.all fun e=>!Region.binds md e||decide (e.on<k)
def mK(md:Region.Mode)(ops:Array Oper)(n:Nat):Bool:=JE md ops&&
 ((List.range ops.size).all fun k=>decide (k<n)||(List.range k).all fun i=>pk md ops ops.size k i)&&
 (ops.toList.take n).all fun o=>match o.guard with|none=>true|some (j,_)=>decide (j<n)
section
variable {P:Program} {w0:W0} {ops:Array Oper} {md:Region.Mode}
theorem gB(h:JE md ops=true){k:Nat}{o:Oper}(hk:ops[k]? =some o):∀e∈o.after,Region.binds md e=true→e.on<k:=by
 intro e he hb;have hlt:k<ops.size:=(Rq.1 hk).1;have:=RD.1 h k (Si.2 hlt);simp only[hk]at this;have:=Array.all_eq_true'.1 this e he;simpa[hb]using this
def I6(md:Region.Mode)(ops:Array Oper)(L:Array Bool):Prop:=∀(j:Nat) (o:Oper),ops[j]? =some o→L[j]? =some true→∀e∈o.after,Region.binds md e=true→L[e.on]? =some true
theorem gV{L:Array Bool}(hc:I6 md ops L):∀(n k i:Nat) (o:Oper),ops[k]? =some o→(∀e∈o.after,Region.binds md e=true→L[e.on]? =some true)→pk md ops n k i=true→L[i]? =some true
 |0,_,_,_,_,_,h=>by cases h
 |n+1,k,i,o,hk,ha,h=>by
  simp only[pk,hk]at h;obtain⟨e,he,h⟩:=Array.any_eq_true'.1 h;simp only[Rm,SF,beq_iff_eq]at h;rcases h.2 with h'|h'
  ·rw[←h'];exact ha e he h.1
  ·have hl:=ha e he h.1
   cases ho:ops[e.on]? with
   |none=>cases n <;>simp[pk,ho]at h'
   |some o'=>exact gV hc n e.on i o' ho (hc e.on o' ho hl) h'
theorem bT{L:Array Bool}{i:Nat}:L.getD i false=true↔L[i]? =some true:=by
 rw[RE];cases L[i]? <;>simp
theorem cc{L:Array Bool}{i:Nat}:L.getD i true=false↔L[i]? =some false:=by
 rw[RE];cases L[i]? <;>simp
theorem Iv{ro:Option Nat}{g0 g:Gh}{Q:Exit→List DV→St→Prop}{o:Oper}{fr:List DV}{S:St}{a:Act}{w:World}{K:List DV→St→Prop}{K':Act→World→Prop}(k:g0.le g)(h1:Rel w0 g S w)(h2:aa g fr a.tmps.toList)(h3:Dk w0 g a w)
 (hK:∀fr S g a w,g0.le g→Rel w0 g S w→aa g fr a.tmps.toList→Dk w0 g a w→K fr S→K' a w)
 (h:bl ops fr o.guard (fun fr=>ae P w0 o (ev fr) S fun d S'=>K (pt fr o.dst d) S') (fun fr=>K (pt fr o.dst ud) S)) {i:Nat} (hi:ops[i]? =some o):
 wpOpIn (fz ro) 0 P ops (Good w0 g0 Q) i K' a w:=by
 unfold wpOpIn;simp only[hi];rcases fX h2 h with⟨hw,fr',h2',hA⟩|⟨hw,fr',h2',hB⟩
 ·rw[if_pos hw];refine dF hA h1 (fun x _=>fw h2' x) h3 k h2' fun g' d u S' w' k1 k2 k3 k4 k5=>?_;exact hK _ _ g' _ _ (k.trans k1) k2 (bM (h2'.mono k1) _ k3) (k1.dk k5) k4
 ·rw[if_neg (by simp[hw])];exact⟨fun _ _=>trivial,hK _ _ g _ _ k h1 (bM h2' _ (gu g)) (h3.ma (put_defers _ _ _) fun _ _ h _=>h) hB⟩
theorem sS{S:St}{K K':List DV→Prop}(hk:∀fr,K fr→K' fr):∀{l:List Oper} {fr:List DV},LQ P w0 S ops K l fr→LQ P w0 S ops K' l fr
 |[],fr,h=>hk _ h
 |o::rest,fr,h=>eA (fun fr ⟨d,q1,q2⟩=>⟨d,q1,sS hk q2⟩) (fun fr h=>sS hk h) h
theorem xB{ro:Option Nat}{g0:Gh}{Q:Exit→List DV→St→Prop}{n:Nat}(hB:mK md ops n=true):∀(l:List Oper) (k fuel:Nat) (L:Array Bool) (fr:List DV) (S:St) (g:Gh) (a:Act) (w:World),
 (∀j,l[j]? =ops[k+j]?)→n≤k→k≤ops.size→l.length≤fuel→L.size=ops.size→(∀i,i<k→L[i]? =some true)→(∀i,k≤i→i<ops.size→L[i]? =some false)→g0.le g→Rel w0 g S w→aa g fr a.tmps.toList→Dk w0 g a w→
 wb P w0 ops (fun fr S=>Q .normal fr S) l fr S→wpAnyIn (fz ro) 0 P md ops (Good w0 g0 Q) fuel L a w:=by
 simp only[mK,Rm]at hB;obtain⟨⟨hb,ha⟩, -⟩:=hB
 have none_ready:∀(k:Nat) (L:Array Bool),ops.size≤k→L.size=ops.size→(∀i,i<k→L[i]? =some true∨ops.size≤i)→∀i,i∉Region.ready md ops L:=by
  intro k L hk hs hl i hi;obtain⟨h1,o,ho,_⟩:=mem_ready.1 hi;rw[cc]at h1;have hlt:i<ops.size:=(Rq.1 ho).1;rcases hl i (by omega)with h|h
  ·rw[h]at h1;cases h1
  ·omega
 intro l
 induction l with
 |nil=>
  intro k fuel L fr S g a w hl hn hk hf hs ht hu k1 h1 h2 h3 h
  have hk':ops.size≤k:=by
   have:=hl 0;simp only[List.getElem?_nil,SS]at this;exact Array.getElem?_eq_none_iff.1 this.symm
  have hno:=none_ready k L hk' hs (fun i hi=> .inl (ht i hi));have hemp:Region.ready md ops L=[]:=List.eq_nil_iff_forall_not_mem.2 hno
  cases fuel with
  |zero=>exact⟨hemp,k1.kd h3,g,fr,S,k1,h1,h2,h⟩
  |succ fuel=>exact⟨fun _=>⟨k1.kd h3,g,fr,S,k1,h1,h2,h⟩,fun i hi=>absurd hi (hno i)⟩
 |cons o rest ih=>
  intro k fuel L fr S g a w hl hn hk hf hs ht hu k1 h1 h2 h3 h;have h0:ops[k]? =some o:=by simpa using(hl 0).symm
  have hklt:k<ops.size:=(Rq.1 h0).1;have hready:k∈Region.ready md ops L:=mem_ready.2 ⟨cc.2 (hu k (Ro _) hklt),o,h0,fun e he hbe=>bT.2 (ht _ (gB hb h0 e he hbe))⟩
  cases fuel with
  |zero=>simp at hf
  |succ fuel=>
   refine⟨fun h=>(by rw[h]at hready;cases hready),fun i hi=>?_⟩;obtain⟨hi1,oi,hoi,hia⟩:=mem_ready.1 hi;rw[cc]at hi1;have hilt:i<ops.size:=(Rq.1 hoi).1
   have hclo:I6 md ops L:=fun j oj hj hlj e he hbe=>by
    have hjk:j<k:=by
     rcases Sj j k with h|h
     ·exact h
     ·rw[hu j h (Rq.1 hj).1]at hlj;cases hlj
    exact ht _ (Nat.lt_trans (gB hb hj e he hbe) hjk)
   have hik:i=k:=by
    rcases Ti i k with h|h|h
    ·rw[ht i h]at hi1;cases hi1
    ·exact h
    ·have hr:=RD.1 ha i (Si.2 hilt);rw[SF]at hr;rcases hr with hr|hr
     ·have:=of_decide_eq_true hr;omega
     ·have hr:=RD.1 hr k (Si.2 h);have:=gV hclo _ i k oi hoi (fun e he hbe=>bT.1 (hia e he hbe)) hr;rw[hu k (Ro _) hklt]at this;cases this
   subst hik;refine Iv (o:=o) k1 h1 h2 h3 (K:=wb P w0 ops (fun fr S=>Q .normal fr S) rest) ?_ h h0;intro fr' S' g' a' w' q1 q2 q3 q4 q5;refine ih (i+1) fuel (L.setIfInBounds i true) fr' S' g' a' w' (fun j=>by have:=hl (j+1);simpa[Sy,Te 1 j]using this) (by omega) (by omega) (by simpa using hf) (by simpa using hs) ?_ ?_ q1 q2 q3 q4 q5
   ·intro j hj;rw[RF];split
    ·rename_i e;rw[if_pos (by omega)]
    ·exact ht j (by omega)
   ·intro j hj hj';rw[RF,if_neg (by omega)];exact hu j (by omega) hj'
theorem BZ{ro:Option Nat}{g0:Gh}{Q:Exit→List DV→St→Prop}{S:St}{n:Nat}(hB:mK md ops n=true)(hn:n≤ops.size):∀(fuel F:Nat) (L M:Array Bool) (fr:List DV) (g:Gh) (a:Act) (w:World),
 L.size=n→M.size=ops.size→(∀i,i<n→M[i]? =L[i]?)→(∀i,n≤i→i<ops.size→M[i]? =some false)→I6 md ops M→fuel+(ops.size-n)≤F→g0.le g→Rel w0 g S w→aa g fr a.tmps.toList→Dk w0 g a w→
 lV P w0 S md (ops.toList.take n).toArray (fun fr=>wb P w0 ops (fun fr S=>Q .normal fr S) (ops.toList.drop n) fr S) fuel L fr→wpAnyIn (fz ro) 0 P md ops (Good w0 g0 Q) F M a w:=by
 have hB':=hB;simp only[mK,Rm]at hB';obtain⟨⟨hb,ha⟩,hg⟩:=hB';have hpre:∀i,i<n→(ops.toList.take n).toArray[i]? =ops[i]? :=fun i hi=>by simp[Sn,hi]
 have full:∀(L M:Array Bool),L.size=n→M.size=ops.size→(∀i,i<n→M[i]? =L[i]?)→Region.ready md (ops.toList.take n).toArray L=[]→∀i,i<n→M[i]? =some true:=by
  intro L M hs hM hLM hr i
  induction i using Nat.strongRecOn with
  |_ i ih=>
   intro hi;have hlt:i<M.size:=by omega
   have hsome:∃o,ops[i]? =some o:=⟨_,SH (by omega)⟩;obtain⟨o,ho⟩:=hsome
   cases hx:M[i]? with
   |none=>rw[SH hlt]at hx;cases hx
   |some x=>
    cases x with
    |true=>rfl
    |false=>
     have:i∈Region.ready md (ops.toList.take n).toArray L:=mem_ready.2 ⟨cc.2 (by rw[←hLM i hi];exact hx),o,by rw[hpre i hi];exact ho,fun e he hbe=>by
      have hlt':=gB hb ho e he hbe;rw[bT,←hLM _ (by omega)];exact ih _ hlt' (by omega)⟩
     rw[hr]at this;cases this
 have tail:∀(F:Nat) (L M:Array Bool) (fr:List DV) (g:Gh) (a:Act) (w:World),L.size=n→M.size=ops.size→(∀i,i<n→M[i]? =L[i]?)→(∀i,n≤i→i<ops.size→M[i]? =some false)→ops.size-n≤F→g0.le g→Rel w0 g S w→aa g fr a.tmps.toList→Dk w0 g a w→
  Region.ready md (ops.toList.take n).toArray L=[]→wb P w0 ops (fun fr S=>Q .normal fr S) (ops.toList.drop n) fr S→wpAnyIn (fz ro) 0 P md ops (Good w0 g0 Q) F M a w:=by
  intro F L M fr g a w hs hM hLM hM0 hF q1 q2 q3 q4 hr h;exact xB hB (ops.toList.drop n) n F M fr S g a w (fun j=>by simp[Sq]) (Ro _) hn (by simp;omega) hM (full L M hs hM hLM hr) hM0 q1 q2 q3 q4 h
 intro fuel
 induction fuel with
 |zero=>
  intro F L M fr g a w hs hM hLM hM0 hc hF q1 q2 q3 q4 h;exact tail F L M fr g a w hs hM hLM hM0 (by omega) q1 q2 q3 q4 h.1 h.2
 |succ fuel ih=>
  intro F L M fr g a w hs hM hLM hM0 hc hF q1 q2 q3 q4 h;by_cases hr:Region.ready md (ops.toList.take n).toArray L=[]
  ·exact tail F L M fr g a w hs hM hLM hM0 (by omega) q1 q2 q3 q4 hr (h.1 hr)
  ·obtain⟨F,rfl⟩:∃F',F=F'+1:=⟨F-1,by omega⟩
   have up:∀i,i∈Region.ready md (ops.toList.take n).toArray L→i∈Region.ready md ops M:=by
    intro i hi;obtain⟨h1,o,ho,h2⟩:=mem_ready.1 hi;have hi':i<n:=by have:=(Rq.1 ho).1;simp at this;omega
    rw[hpre i hi']at ho;refine mem_ready.2 ⟨cc.2 (by rw[hLM i hi'];exact cc.1 h1),o,ho,fun e he hbe=>?_⟩;have hlt:=gB hb ho e he hbe;rw[bT,hLM _ (by omega)];exact bT.1 (h2 e he hbe)
   refine⟨fun h0=>?_,fun i hi=>?_⟩
   ·exfalso
    obtain⟨x,xs,hx⟩:∃x xs,Region.ready md (ops.toList.take n).toArray L=x::xs:=by
     cases he:Region.ready md (ops.toList.take n).toArray L with
     |nil=>exact absurd he hr
     |cons x xs=>exact⟨x,xs,rfl⟩
    have:=up x (by rw[hx];exact Rx);rw[h0]at this;cases this
   ·obtain⟨hi1,oi,hoi,hia⟩:=mem_ready.1 hi;rw[cc]at hi1;have hilt:i<ops.size:=(Rq.1 hoi).1;by_cases hin:i<n
    ·have hiL:i∈Region.ready md (ops.toList.take n).toArray L:=mem_ready.2 ⟨cc.2 (by rw[←hLM i hin];exact hi1),oi,by rw[hpre i hin];exact hoi,fun e he hbe=>by
      have hlt:=gB hb hoi e he hbe;rw[bT,←hLM _ (by omega)];exact bT.1 (hia e he hbe)⟩
     have hq:=h.2 i hiL
     have hgi:∀j want,oi.guard=some (j,want)→j<n:=by
      intro j want hgj
      have hmem:oi∈ops.toList.take n:=by
       have:(ops.toList.take n)[i]? =some oi:=by rw[Sn,if_pos hin];simpa using hoi
       exact Rj this
      have:=RD.1 hg oi hmem;simpa[hgj]using this
     have hwant:∀fr,cC (ops.toList.take n).toArray fr oi.guard=cC ops fr oi.guard:=by
      intro fr
      cases hgo:oi.guard with
      |none=>rfl
      |some p=>
       obtain⟨j,want⟩:=p;simp only[cC,hpre j (hgi j want hgo)]
     have hLs:(L.setIfInBounds i true).size=n:=by simpa using hs
     have hMs:(M.setIfInBounds i true).size=ops.size:=by simpa using hM
     have hLM':∀j,j<n→(M.setIfInBounds i true)[j]? =(L.setIfInBounds i true)[j]? :=by
      intro j hj;rw[RF,RF,hLM j hj];split
      ·rw[if_pos (by omega),if_pos (by omega)]
      ·rfl
     have hM0':∀j,n≤j→j<ops.size→(M.setIfInBounds i true)[j]? =some false:=by
      intro j hj hj';rw[RF,if_neg (by omega)];exact hM0 j hj hj'
     have hc':I6 md ops (M.setIfInBounds i true):=by
      intro j oj hj hlj e he hbe;rw[RF];split
      ·rw[if_pos (by omega)]
      ·rw[RF]at hlj;split at hlj
       ·rename_i hij;subst hij;rw[hoi]at hj;cases hj;exact bT.1 (hia e he hbe)
       ·exact hc j oj hj hlj e he hbe
     have cont:∀fr' g' a' w',g0.le g'→Rel w0 g' S w'→aa g' fr' a'.tmps.toList→Dk w0 g' a' w'→lV P w0 S md (ops.toList.take n).toArray (fun fr=>wb P w0 ops (fun fr S=>Q .normal fr S) (ops.toList.drop n) fr S) fuel (L.setIfInBounds i true) fr'→
      wpAnyIn (fz ro) 0 P md ops (Good w0 g0 Q) F (M.setIfInBounds i true) a' w':=fun fr' g' a' w' p1 p2 p3 p4 p5=>
      ih F _ _ fr' g' a' w' hLs hMs hLM' hM0' hc' (by omega) p1 p2 p3 p4 p5
     unfold qOp at hq;rw[hpre i hin]at hq;unfold wpOpIn;simp only[hoi]at hq ⊢;rcases hq with⟨hw,d,hy,hk⟩|⟨hw,hk⟩
     ·rw[hwant]at hw;have hw':=fY (o:=oi) q3 hw;rw[if_pos hw'];refine dF hy q2 (fun x _=>fw q3 x) q4 q1 q3 fun g' d' u S' w' k1 k2 k3 k4 k5=>?_;obtain⟨hd,hS⟩:=k4;rw[hS]at k2;rw[hd]at k3;exact cont _ g' _ _ (q1.trans k1) k2 (bM (q3.mono k1) _ k3) (k1.dk k5) hk
     ·rw[hwant]at hw;have hw':=fY (o:=oi) q3 hw;rw[if_neg (by simp[hw'])];exact⟨fun _ _=>trivial,cont _ g _ _ q1 q2 (bM q3 _ (gu g)) (q4.ma (put_defers _ _ _) fun _ _ h _=>h) hk⟩
    ·exfalso
     have hall:∀j,j<n→M[j]? =some true:=by
      intro j hj;have hr':=RD.1 ha i (Si.2 hilt);rw[SF]at hr';rcases hr' with hr'|hr'
      ·exact absurd (of_decide_eq_true hr') hin
      ·have hr':=RD.1 hr' j (Si.2 (by omega));exact gV hc _ i j oi hoi (fun e he hbe=>bT.1 (hia e he hbe)) hr'
     refine hr (List.eq_nil_iff_forall_not_mem.2 fun j hj=>?_);obtain⟨h1,o,ho,_⟩:=mem_ready.1 hj;have hj':j<n:=by have:=(Rq.1 ho).1;simp at this;omega
     rw[cc,←hLM j hj',hall j hj']at h1;cases h1
def jG(l:List Oper):Nat:=(l.takeWhile fun o=>oQ o.op).length
theorem z7{id:Nat}{l:List Oper}{fr:List DV}{S:St}{Q:Exit→List DV→St→Prop}(n:Nat)(hn:n≤l.length)(hm:P.follows .mixedOrders=true)(hB:Region.lexB .any (l.take n).toArray=true)(hT:mK .any l.toArray n=true)(hs:l.all (fun o=>eE o.op)=true)
 (h:LQ P w0 S (l.take n).toArray (fun fr=>qO P w0 l.toArray (fun fr S=>Q .normal fr S) (l.drop n) fr S) (l.take n) fr):fK P w0 (.region id l.toArray true) fr S Q:=by
 intro g a w h1 h2 h3;simp only[Region.lexB,Rm]at hB;refine fF hm fun ro=>?_;have hR:Rel w0 g S {w with drawn:=w.drawn+1}:=h1.grow (jT w);have hs1:(l.take n).all (fun o=>eE o.op)=true:=RD.2 fun o ho=>RD.1 hs o (RY ho);have hs2:(l.drop n).all (fun o=>eE o.op)=true:=RD.2 fun o ho=>RD.1 hs o (Sa ho)
 have hLQ:LQ P w0 S (l.take n).toArray (fun fr=>wb P w0 l.toArray (fun fr S=>Q .normal fr S) (l.drop n) fr S) (l.take n) fr:=by
  exact sS (fun fr h=>gF _ hs2 h) h
 have:=px (P:=P) (w0:=w0) (S:=S) (md:= .any) (ops:=(l.take n).toArray) (l.take n) 0 (Array.replicate (l.take n).toArray.size false) fr (by simp) (by simpa using hB.2) hLQ;refine BZ (n:=n) (S:=S) hT (by simpa using hn) (l.take n).length _ (Array.replicate (l.take n).toArray.size false) _ fr g a _ (by simp;omega) (by simp) ?_ ?_ ?_ (by simp;omega) (.refl g) hR h2 (h3.ma rfl fun _ _ h _=>h) (by simpa using this)
 ·intro i hi;simp only[TD,SY,RA];rw[if_pos (by omega),if_pos (by omega)]
 ·intro i hi hi';simp only[TD];rw[if_pos hi']
 ·intro j o hj hl;simp[TD]at hl
end
end Aml
namespace Aml
open Go Go.RowKit
@[congr] theorem OG {d:DV} {d':DV} {A:Prop} {B:Prop} (hd:d=d'):de d A B=de d' A B:=by cases hd;rfl
@[congr] theorem P7 {ds:List DV} {ds':List DV} {K:DV→Prop} (hds:ds=ds'):Ly ds K=Ly ds' K:=by cases hds;rfl
@[congr] theorem P4 {k:TK} {k':TK} {ds:List DV} {ds':List DV} {K:DV→Prop} (hk:k=k') (hds:ds=ds'):mL k ds K=mL k' ds' K:=by cases hk;cases hds;rfl
@[congr] theorem Oj {c:DV} {c':DV} {a:DV} {a':DV} {b:DV} {b':DV} {K:DV→Prop} (hc:c=c') (ha:a=a') (hb:b=b'):fA c a b K=fA c' a' b' K:=by cases hc;cases ha;cases hb;rfl
@[congr] theorem Ox {k:TK} {k':TK} {S:St} {S':St} {x:DV} {x':DV} {K:DV→Prop} (hk:k=k') (hS:S=S') (hx:x=x'):bX k S x K=bX k' S' x' K:=by cases hk;cases hS;cases hx;rfl
@[congr] theorem Ns {k:TK} {k':TK} {f:Nat} {f':Nat} {x:DV} {x':DV} {K:DV→Prop} (hk:k=k') (hf:f=f') (hx:x=x'):dZ k f x K=dZ k' f' x' K:=by cases hk;cases hf;cases hx;rfl
@[congr] theorem GZ {k:TK} {k':TK} {x:DV} {x':DV} {i:DV} {i':DV} {K:DV→Prop} (hk:k=k') (hx:x=x') (hi:i=i'):aD k x i K=aD k' x' i' K:=by cases hk;cases hx;cases hi;rfl
@[congr] theorem Le {i:Nat} {i':Nat} {x:DV} {x':DV} {K:DV→Prop} (hi:i=i') (hx:x=x'):cB i x K=cB i' x' K:=by cases hi;cases hx;rfl
@[congr] theorem Md {k:TK} {k':TK} {f:Nat} {f':Nat} {x:DV} {x':DV} {K:DV→Prop} (hk:k=k') (hf:f=f') (hx:x=x'):eT k f x K=eT k' f' x' K:=by cases hk;cases hf;cases hx;rfl
@[congr] theorem N3 {op:BinOp} {k:IntKind} {m:Int} {m':Int} {n:Int} {n':Int} {K:DV→Prop} (hm:m=m') (hn:n=n'):jN op k m n K=jN op k m' n' K:=by cases hm;cases hn;rfl
@[congr] theorem Oh {op:BinOp} {x:ByteArray} {x':ByteArray} {y:ByteArray} {y':ByteArray} {K:DV→Prop} (hx:x=x') (hy:y=y'):iy op x y K=iy op x' y' K:=by cases hx;cases hy;rfl
@[congr] theorem Pc {op:BinOp} {t:TK} {t':TK} {cx:Bool} {cx':Bool} {cy:Bool} {cy':Bool} {x:DV} {x':DV} {y:DV} {y':DV} {K:DV→Prop} (ht:t=t') (hcx:cx=cx') (hcy:cy=cy') (hx:x=x') (hy:y=y'):mV op t cx cy x y K=mV op t' cx' cy' x' y' K:=by cases ht;cases hcx;cases hcy;cases hx;cases hy;rfl
@[congr] theorem N1 {o:Option (List FK)} {o':Option (List FK)} {op:BinOp} {al:List DV} {al':List DV} {y:DV} {y':DV} {K:DV→Prop} (ho:o=o') (hal:al=al') (hy:y=y'):jg o op al y K=jg o' op al' y' K:=by cases ho;cases hal;cases hy;rfl
@[congr] theorem Pg {ks:List FK} {al:List DV} {al':List DV} {bs:List DV} {bs':List DV} {r:Bool} {r':Bool} {F:Bool→Prop} (hal:al=al') (hbs:bs=bs') (hr:r=r'):eC ks al bs r F=eC ks al' bs' r' F:=by cases hal;cases hbs;cases hr;rfl
@[congr] theorem Pz {op:UnOp} {x:DV} {x':DV} {K:DV→Prop} (hx:x=x'):Au op x K=Au op x' K:=by cases hx;rfl
@[congr] theorem OA {a:TK} {a':TK} {b:TK} {b':TK} {x:DV} {x':DV} {K:DV→Prop} (ha:a=a') (hb:b=b') (hx:x=x'):fy a b x K=fy a' b' x' K:=by cases ha;cases hb;cases hx;rfl
@[congr] theorem MF {a:TK} {a':TK} {b:TK} {b':TK} {ke:TK} {ke':TK} {kb:TK} {kb':TK} {S:St} {S':St} {x:DV} {x':DV} {K:DV→Prop} (ha:a=a') (hb:b=b') (hke:ke=ke') (hkb:kb=kb') (hS:S=S') (hx:x=x'):gm a b ke kb S x K=gm a' b' ke' kb' S' x' K:=by cases ha;cases hb;cases hke;cases hkb;cases hS;cases hx;rfl
@[congr] theorem M6 {k:TK} {k':TK} {x:DV} {x':DV} {i:DV} {i':DV} {K:DV→Prop} (hk:k=k') (hx:x=x') (hi:i=i'):fC k x i K=fC k' x' i' K:=by cases hk;cases hx;cases hi;rfl
@[congr] theorem PR {d:Option DV} {d':Option DV} {z:Int} {z':Int} {K:Int→Prop} (hd:d=d') (hz:z=z'):iz d z K=iz d' z' K:=by cases hd;cases hz;rfl
@[congr] theorem NL {k:TK} {k':TK} {x:DV} {x':DV} {lo:Option DV} {lo':Option DV} {hi:Option DV} {hi':Option DV} {mx:Option DV} {mx':Option DV} {K:DV→Prop} (hk:k=k') (hx:x=x') (hlo:lo=lo') (hhi:hi=hi') (hmx:mx=mx'):du k x lo hi mx K=du k' x' lo' hi' mx' K:=by cases hk;cases hx;cases hlo;cases hhi;cases hmx;rfl
@[congr] theorem OY {k:TK} {k':TK} {x:DV} {x':DV} {K:DV→Prop} (hk:k=k') (hx:x=x'):kp k x K=kp k' x' K:=by cases hk;cases hx;rfl
@[congr] theorem OR {k:TK} {k':TK} {x:DV} {x':DV} {K:DV→Prop} (hk:k=k') (hx:x=x'):rO k x K=rO k' x' K:=by cases hk;cases hx;rfl
@[congr] theorem Ps {x:DV} {x':DV} {y:DV} {y':DV} {K:DV→Prop} (hx:x=x') (hy:y=y'):sa x y K=sa x' y' K:=by cases hx;cases hy;rfl
@[congr] theorem Pe {x:DV} {x':DV} {y:DV} {y':DV} {K:DV→Prop} (hx:x=x') (hy:y=y'):sH x y K=sH x' y' K:=by cases hx;cases hy;rfl
@[congr] theorem Ni {n:Nat} {n':Nat} {S:St} {S':St} {x:DV} {x':DV} {y:DV} {y':DV} {K:St→Prop} (hn:n=n') (hS:S=S') (hx:x=x') (hy:y=y'):jZ n S x y K=jZ n' S' x' y' K:=by cases hn;cases hS;cases hx;cases hy;rfl
@[congr] theorem Mf {n:Nat} {n':Nat} {S:St} {S':St} {x:DV} {x':DV} {y:DV} {y':DV} {K:St→Prop} (hn:n=n') (hS:S=S') (hx:x=x') (hy:y=y'):db n S x y K=db n' S' x' y' K:=by cases hn;cases hS;cases hx;cases hy;rfl
@[congr] theorem Gu {k:TK} {k':TK} {z:DV} {z':DV} {len:Nat} {len':Nat} {parts:List (Nat×DV)} {parts':List (Nat×DV)} {K:DV→Prop} (hk:k=k') (hz:z=z') (hlen:len=len') (hparts:parts=parts'):aG k z len parts K=aG k' z' len' parts' K:=by cases hk;cases hz;cases hlen;cases hparts;rfl
@[congr] theorem Og {S:St} {S':St} {d:DV} {d':DV} {K:Nat→List DV→Prop} (hS:S=S') (hd:d=d'):gg S d K=gg S' d' K:=by cases hS;cases hd;rfl
@[congr] theorem Pq {s:Nat} {s':Nat} {b:Nat} {b':Nat} {S:St} {S':St} {x:DV} {x':DV} {ys:List DV} {ys':List DV} {K:DV→St→Prop} (hs:s=s') (hb:b=b') (hS:S=S') (hx:x=x') (hys:ys=ys'):uv s b S x ys K=uv s' b' S' x' ys' K:=by cases hs;cases hb;cases hS;cases hx;cases hys;rfl
@[congr] theorem Mq {k:TK} {k':TK} {k2:TK} {k2':TK} {S:St} {S':St} {x:DV} {x':DV} {y:DV} {y':DV} {K:DV→St→Prop} (hk:k=k') (hk2:k2=k2') (hS:S=S') (hx:x=x') (hy:y=y'):ic k k2 S x y K=ic k' k2' S' x' y' K:=by cases hk;cases hk2;cases hS;cases hx;cases hy;rfl
@[congr] theorem Ma {k:TK} {k':TK} {z:DV} {z':DV} {S:St} {S':St} {x:DV} {x':DV} {y:DV} {y':DV} {K:DV→St→Prop} (hk:k=k') (hz:z=z') (hS:S=S') (hx:x=x') (hy:y=y'):jz k z S x y K=jz k' z' S' x' y' K:=by cases hk;cases hz;cases hS;cases hx;cases hy;rfl
@[congr] theorem Ot {k:TK} {k':TK} {k2:TK} {k2':TK} {S:St} {S':St} {x:DV} {x':DV} {y:DV} {y':DV} {K:DV→St→Prop} (hk:k=k') (hk2:k2=k2') (hS:S=S') (hx:x=x') (hy:y=y'):qC k k2 S x y K=qC k' k2' S' x' y' K:=by cases hk;cases hk2;cases hS;cases hx;cases hy;rfl
@[congr] theorem Ow {k:TK} {k':TK} {z:DV} {z':DV} {S:St} {S':St} {x:DV} {x':DV} {y:DV} {y':DV} {K:DV→St→Prop} (hk:k=k') (hz:z=z') (hS:S=S') (hx:x=x') (hy:y=y'):rb k z S x y K=rb k' z' S' x' y' K:=by cases hk;cases hz;cases hS;cases hx;cases hy;rfl
@[congr] theorem N4 {k:TK} {k':TK} {S:St} {S':St} {x:DV} {x':DV} {y:DV} {y':DV} {K:DV→St→Prop} (hk:k=k') (hS:S=S') (hx:x=x') (hy:y=y'):u6 k S x y K=u6 k' S' x' y' K:=by cases hk;cases hS;cases hx;cases hy;rfl
@[congr] theorem MY {k:TK} {k':TK} {z:DV} {z':DV} {S:St} {S':St} {x:DV} {x':DV} {K:DV→St→Prop} (hk:k=k') (hz:z=z') (hS:S=S') (hx:x=x'):jc k z S x K=jc k' z' S' x' K:=by cases hk;cases hz;cases hS;cases hx;rfl
@[congr] theorem Oc {S:St} {S':St} {s:Nat} {s':Nat} {ds:List DV} {ds':List DV} {o:Nat} {o':Nat} {b:Nat} {n:Nat} {n':Nat} {y:DV} {y':DV} {K:DV→St→Prop} (hS:S=S') (hs:s=s') (hds:ds=ds') (ho:o=o') (hn:n=n') (hy:y=y'):Ju S s ds o b n y K=Ju S' s' ds' o' b n' y' K:=by cases hS;cases hs;cases hds;cases ho;cases hn;cases hy;rfl
@[congr] theorem N6 {S:St} {S':St} {s:Nat} {s':Nat} {y:DV} {y':DV} {F:Nat→List DV→Prop} (hS:S=S') (hs:s=s') (hy:y=y'):uC S s y F=uC S' s' y' F:=by cases hS;cases hs;cases hy;rfl
@[congr] theorem Nf {op:BinOp} {k:TK} {k':TK} {x:DV} {x':DV} {K:DV→Prop} (hk:k=k') (hx:x=x'):mc op k x K=mc op k' x' K:=by cases hk;cases hx;rfl
@[congr] theorem OC {S:St} {S':St} {x:DV} {x':DV} {z:Nat} {z':Nat} {K:DV→St→Prop} (hS:S=S') (hx:x=x') (hz:z=z'):uq S x z K=uq S' x' z' K:=by cases hS;cases hx;cases hz;rfl
@[congr] theorem L9 {k:TK} {k':TK} {S:St} {S':St} {x:DV} {x':DV} {lo:Option DV} {lo':Option DV} {hi:Option DV} {hi':Option DV} {mx:Option DV} {mx':Option DV} {K:DV→St→Prop} (hk:k=k') (hS:S=S') (hx:x=x') (hlo:lo=lo') (hhi:hi=hi') (hmx:mx=mx'):eX k S x lo hi mx K=eX k' S' x' lo' hi' mx' K:=by cases hk;cases hS;cases hx;cases hlo;cases hhi;cases hmx;rfl
@[congr] theorem Mh {k:TK} {k':TK} {S:St} {S':St} {x:DV} {x':DV} {lo:Option DV} {lo':Option DV} {hi:Option DV} {hi':Option DV} {mx:Option DV} {mx':Option DV} {K:DV→St→Prop} (hk:k=k') (hS:S=S') (hx:x=x') (hlo:lo=lo') (hhi:hi=hi') (hmx:mx=mx'):gR k S x lo hi mx K=gR k' S' x' lo' hi' mx' K:=by cases hk;cases hS;cases hx;cases hlo;cases hhi;cases hmx;rfl
@[congr] theorem IW {k:TK} {k':TK} {z:DV} {z':DV} {x:DV} {x':DV} {y:DV} {y':DV} {S:St} {S':St} {K:DV→St→Prop} (hk:k=k') (hz:z=z') (hx:x=x') (hy:y=y') (hS:S=S'):dt k z x y S K=dt k' z' x' y' S' K:=by cases hk;cases hz;cases hx;cases hy;cases hS;rfl
@[congr] theorem OU {S:St} {S':St} {d:DV} {d':DV} {K:DV→St→Prop} (hS:S=S') (hd:d=d'):iZ S d K=iZ S' d' K:=by cases hS;cases hd;rfl
@[congr] theorem Of {S:St} {S':St} {d:List DV} {d':List DV} {K:List DV→St→Prop} (hS:S=S') (hd:d=d'):jR S d K=jR S' d' K:=by cases hS;cases hd;rfl
@[congr] theorem PX {S:St} {S':St} {d:DV} {d':DV} {K:DV→St→Prop} (hS:S=S') (hd:d=d'):shr S d K=shr S' d' K:=by cases hS;cases hd;rfl
@[congr] theorem O2 {S:St} {S':St} {d:List DV} {d':List DV} {K:List DV→St→Prop} (hS:S=S') (hd:d=d'):eo S d K=eo S' d' K:=by cases hS;cases hd;rfl
@[congr] theorem OX {S:St} {S':St} {d:DV} {d':DV} {K:DV→St→Prop} (hS:S=S') (hd:d=d'):qe S d K=qe S' d' K:=by cases hS;cases hd;rfl
@[congr] theorem N5 {S:St} {S':St} {d:List DV} {d':List DV} {F:List DV→St→Prop} (hS:S=S') (hd:d=d'):eQ S d F=eQ S' d' F:=by cases hS;cases hd;rfl
@[congr] theorem Qf {p:Option (Nat×Nat×Bool)} {p':Option (Nat×Nat×Bool)} {x:DV} {x':DV} {K:DV→Prop} (hp:p=p') (hx:x=x'):KF p x K=KF p' x' K:=by cases hp;cases hx;rfl
@[congr] theorem PN {p:Option (Nat×Nat×Bool)} {p':Option (Nat×Nat×Bool)} {ds:List DV} {ds':List DV} {K:DV→Prop} (hp:p=p') (hds:ds=ds'):PQ p ds K=PQ p' ds' K:=by cases hp;cases hds;rfl
@[congr] theorem Qz {t:Nat} {t':Nat} {d:DV} {d':DV} {fr:List DV} {fr':List DV} {want:Bool} {want':Bool} {A:List DV→Prop} {B:List DV→Prop} (ht:t=t') (hd:d=d') (hfr:fr=fr') (hwant:want=want'):gD t d fr want A B=gD t' d' fr' want' A B:=by cases ht;cases hd;cases hfr;cases hwant;rfl
@[congr] theorem QF {t:Option Tmp} {t':Option Tmp} {fr:List DV} {fr':List DV} {want:Bool} {want':Bool} {A:List DV→Prop} {B:List DV→Prop} (ht:t=t') (hfr:fr=fr') (hwant:want=want'):gK t fr want A B=gK t' fr' want' A B:=by cases ht;cases hfr;cases hwant;rfl
@[congr] theorem Mv {ops:Array Oper} {fr:List DV} {fr':List DV} {gd:Option (Nat×Bool)} {gd':Option (Nat×Bool)} {A:List DV→Prop} {B:List DV→Prop} (hfr:fr=fr') (hgd:gd=gd'):bl ops fr gd A B=bl ops fr' gd' A B:=by cases hfr;cases hgd;rfl
@[congr] theorem PB {k:TK} {k':TK} {z:DV} {z':DV} {parts:List (Nat×DV)} {parts':List (Nat×DV)} {K:DV→Prop} (hk:k=k') (hz:z=z') (hparts:parts=parts'):NU k z parts K=NU k' z' parts' K:=by cases hk;cases hz;cases hparts;rfl
@[congr] theorem PI {xs:List DV} {xs':List DV} {i:Nat} {i':Nat} {F:DV→Prop} (hxs:xs=xs') (hi:i=i'):Cv xs i F=Cv xs' i' F:=by cases hxs;cases hi;rfl
@[congr] theorem PK {xs:List DV} {xs':List DV} {i:Nat} {i':Nat} {F:DV→Prop} (hxs:xs=xs') (hi:i=i'):wa xs i F=wa xs' i' F:=by cases hxs;cases hi;rfl
@[congr] theorem Qu {o:Option Ob} {o':Option Ob} {F:Nat→List DV→Prop} {G:Nat→List DV→Prop} (ho:o=o'):bK o F G=bK o' F G:=by cases ho;rfl
@[congr] theorem Qo {o:Option Ob} {o':Option Ob} {F:KK→List (Value×DV×Nat)→Nat→Prop} (ho:o=o'):xK o F=xK o' F:=by cases ho;rfl
@[congr] theorem Qk {o:Option Ob} {o':Option Ob} {F:Nat→Nat→List Nat→Nat→Prop} (ho:o=o'):iK o F=iK o' F:=by cases ho;rfl
@[congr] theorem P5 {o:Option DV} {o':Option DV} {F:DV→Prop} {G:Prop} (ho:o=o'):P1 o F G=P1 o' F G:=by cases ho;rfl
@[congr] theorem Mb {m:Option (KK×DV)} {m':Option (KK×DV)} {S:St} {S':St} {x:DV} {x':DV} {y:DV} {y':DV} {ok:Bool} {ok':Bool} {K:DV→Prop} (hm:m=m') (hS:S=S') (hx:x=x') (hy:y=y') (hok:ok=ok'):cL m S x y ok K=cL m' S' x' y' ok' K:=by cases hm;cases hS;cases hx;cases hy;cases hok;rfl
@[congr] theorem L4 {m:Option (KK×DV)} {m':Option (KK×DV)} {S:St} {S':St} {x:DV} {x':DV} {y:DV} {y':DV} {d:DV} {d':DV} {K:St→Prop} (hm:m=m') (hS:S=S') (hx:x=x') (hy:y=y') (hd:d=d'):kF m S x y d K=kF m' S' x' y' d' K:=by cases hm;cases hS;cases hx;cases hy;cases hd;rfl
@[congr] theorem Ml {m:Option (KK×DV)} {m':Option (KK×DV)} {S:St} {S':St} {x:DV} {x':DV} {y:DV} {y':DV} {K:St→Prop} (hm:m=m') (hS:S=S') (hx:x=x') (hy:y=y'):lp m S x y K=lp m' S' x' y' K:=by cases hm;cases hS;cases hx;cases hy;rfl
@[congr] theorem PE {k:TK} {k':TK} {m:Option (KK×DV)} {m':Option (KK×DV)} {S:St} {S':St} {x:DV} {x':DV} {K:DV→St→Prop} (hk:k=k') (hm:m=m') (hS:S=S') (hx:x=x'):J9 k m S x K=J9 k' m' S' x' K:=by cases hk;cases hm;cases hS;cases hx;rfl
@[congr] theorem L5 {S:St} {S':St} {x:DV} {x':DV} {K:DV→St→Prop} (hS:S=S') (hx:x=x'):hY S x K=hY S' x' K:=by cases hS;cases hx;rfl
@[congr] theorem PF {b:Bool} {b':Bool} {S:St} {S':St} {x:DV} {x':DV} {K:DV→St→Prop} (hb:b=b') (hS:S=S') (hx:x=x'):Me b S x K=Me b' S' x' K:=by cases hb;cases hS;cases hx;rfl
@[congr] theorem MK {S:St} {S':St} {x:DV} {x':DV} {K:DV→St→Prop} (hS:S=S') (hx:x=x'):iI S x K=iI S' x' K:=by cases hS;cases hx;rfl
@[congr] theorem PV {o:Option Ob} {o':Option Ob} {F:ByteArray→Nat→Prop} (ho:o=o'):MC o F=MC o' F:=by cases ho;rfl
@[congr] theorem MT {m:Option (KK×DV)} {m':Option (KK×DV)} {S:St} {S':St} {x:DV} {x':DV} {K:DV→St→Prop} (hm:m=m') (hS:S=S') (hx:x=x'):rK m S x K=rK m' S' x' K:=by cases hm;cases hS;cases hx;rfl
@[congr] theorem LY {m:Option (KK×DV)} {m':Option (KK×DV)} {r:Option Operand} {S:St} {S':St} {K:DV→St→Prop} (hm:m=m') (hS:S=S'):lr m r S K=lr m' r S' K:=by cases hm;cases hS;rfl
@[congr] theorem Ol {S:St} {S':St} {x:DV} {x':DV} {s:Bool} {s':Bool} {K:DV→St→Prop} (hS:S=S') (hx:x=x') (hs:s=s'):zI S x s K=zI S' x' s' K:=by cases hS;cases hx;cases hs;rfl
@[congr] theorem NT {S:St} {S':St} {x:DV} {x':DV} {K:DV→Prop} (hS:S=S') (hx:x=x'):oU S x K=oU S' x' K:=by cases hS;cases hx;rfl
@[congr] theorem Qj {α:Type} {o o':Option α} {F:α→Prop} (h:o=o'):oK o F=oK o' F:=by cases h;rfl
@[congr] theorem OM {P:Program} {w0:W0} {op:Op} {fr:List DV} {fr':List DV} {S:St} {S':St} {K:DV→St→Prop} (hfr:fr=fr') (hS:S=S'):aL P w0 op fr S K=aL P w0 op fr' S' K:=by cases hfr;cases hS;rfl
@[congr] theorem Oe {P:Program} {w0:W0} {op:Op} {fr:List DV} {fr':List DV} {S:St} {S':St} {K:DV→Prop} (hfr:fr=fr') (hS:S=S'):aX P w0 op fr S K=aX P w0 op fr' S' K:=by cases hfr;cases hS;rfl
@[congr] theorem On {P:Program} {w0:W0} {cal:DV} {cal':DV} {ds:List DV} {ds':List DV} {S:St} {S':St} {K:DV→St→Prop} (hcal:cal=cal') (hds:ds=ds') (hS:S=S'):pU P w0 cal ds S K=pU P w0 cal' ds' S' K:=by cases hcal;cases hds;cases hS;rfl
@[congr] theorem M9 {P:Program} {w0:W0} {cal:DV} {cal':DV} {ds:List DV} {ds':List DV} {S:St} {S':St} {K:DV→Prop} (hcal:cal=cal') (hds:ds=ds') (hS:S=S'):jU P w0 cal ds S K=jU P w0 cal' ds' S' K:=by cases hcal;cases hds;cases hS;rfl
@[congr] theorem PY {P:Program} {w0:W0} {ops:Array Oper} {K:List DV→St→Prop} {l:List Oper} {fr:List DV} {fr':List DV} {S:St} {S':St} (hfr:fr=fr') (hS:S=S'):qO P w0 ops K l fr S=qO P w0 ops K l fr' S':=by cases hfr;cases hS;rfl
@[congr] theorem OE {P:Program} {op:BinOp} {t:TypeId} {cx:Bool} {cx':Bool} {cy:Bool} {cy':Bool} {x:DV} {x':DV} {y:DV} {y':DV} {K:DV→Prop} (hcx:cx=cx') (hcy:cy=cy') (hx:x=x') (hy:y=y'):gH P op t cx cy x y K=gH P op t cx' cy' x' y' K:=by cases hcx;cases hcy;cases hx;cases hy;rfl
@[congr] theorem M8 {P:Program} {t:TypeId} {parts:List (Nat×DV)} {parts':List (Nat×DV)} {K:DV→Prop} (hparts:parts=parts'):dO P t parts K=dO P t parts' K:=by cases hparts;rfl
@[congr] theorem Mc {P:Program} {t:TypeId} {ok:Bool} {ok':Bool} {x:DV} {x':DV} {K:DV→Prop} (hok:ok=ok') (hx:x=x'):ny P t ok x K=ny P t ok' x' K:=by cases hok;cases hx;rfl
@[congr] theorem OB {P:Program} {fr:List DV} {fr':List DV} {S:St} {S':St} {K:DV→Prop} {r:ResultVar} (hfr:fr=fr') (hS:S=S'):mq P fr S K r=mq P fr' S' K r:=by cases hfr;cases hS;rfl
@[congr] theorem N9 {P:Program} {fr:List DV} {fr':List DV} {S:St} {S':St} {r:List ResultVar} {K:List DV→Prop} (hfr:fr=fr') (hS:S=S'):nL P fr S r K=nL P fr' S' r K:=by cases hfr;cases hS;rfl
@[congr] theorem OQ {P:Program} {fr:List DV} {fr':List DV} {S:St} {S':St} {r:List ResultVar} {K:DV→Prop} (hfr:fr=fr') (hS:S=S'):jJ P fr S r K=jJ P fr' S' r K:=by cases hfr;cases hS;rfl
def cD(b:Bool)(A B:Prop):Prop:=match b with
 |true=>A
 |false=>B
theorem G1(A B:Prop):cD true A B=A:=rfl
theorem Ih(A B:Prop):cD false A B=B:=rfl
@[congr] theorem OP {b b':Bool} {A B:Prop} (h:b=b'):cD b A B=cD b' A B:=by cases h;rfl
theorem HU(S:St)(ds:List DV)(F:List DV→St→Prop):eQ S ds F=cD (eK ds) (F ds S∨eo S ds F) (eo S ds F):=by
 unfold eQ cD;cases eK ds <;>rfl
attribute [go_sem ↓] G1 Ih HU
def Gs(S:St)(d:DV)(K:DV→St→Prop):Prop:=∀b,gx S.box b→K (.v (.pointer (some ⟨b,0,none⟩))) ⟨(b,cd d)::S.box,S.acc⟩
@[congr] theorem P6 {S S':St} {d d':DV} {K:DV→St→Prop} (h1:S=S') (h2:d=d'):Gs S d K=Gs S' d' K:=by cases h1;cases h2;rfl
theorem wz(x:Operand):oQ (.move x)=true:=rfl
theorem sn(x:Operand):oQ (.assign x)=true:=rfl
theorem xl(c a b:Operand):oQ (.pick c a b)=true:=rfl
theorem yu(t:TypeId)(x:Operand):oQ (.load t x)=true:=rfl
theorem mY(t:TypeId)(x:Operand)(f:Nat):oQ (.fieldAddr t x f)=true:=rfl
theorem nh(t:TypeId)(x i:Operand):oQ (.indexAddr t x i)=true:=rfl
theorem pI(x:Operand):oQ (.nilCheck x)=true:=rfl
theorem tP(b:BinOp)(t:TypeId)(x y:Operand)(t':TypeId):oQ (.binOp b t x y t')=true:=rfl
theorem wY(b:UnOp)(t:TypeId)(x:Operand):oQ (.unOp b t x)=true:=rfl
theorem vn(t:TypeId)(parts:Array (Nat×Operand)):oQ (.build t parts)=true:=rfl
theorem lB(t:TypeId)(len:Nat)(parts:Array (Nat×Operand)):oQ (.buildSlice t len parts)=true:=rfl
theorem pC(fn:Fn)(a b:Array Operand):oQ (.makeFunc fn a b)=true:=rfl
theorem uN(t:TypeId)(x:Operand)(lo hi mx:Option Operand):oQ (.slice t x lo hi mx)=true:=rfl
theorem tY(t:TypeId)(x y:Operand):oQ (.store t x y)=false:=rfl
theorem AG(x:Operand)(a:Array Operand)(ts:Array TypeId):oQ (.call ⟨.value x,a,ts⟩)=true:=rfl
theorem uY(a:Array Operand)(ts:Array TypeId):oQ (.call ⟨.builtin .len,a,ts⟩)=true:=rfl
theorem oq(a:Array Operand)(ts:Array TypeId):oQ (.call ⟨.builtin .append,a,ts⟩)=false:=rfl
theorem EZ(fr:List DV)(t:Nat):ev fr (.tmp t)=fr.getD t ud:=rfl
theorem xi(fr:List DV)(u:Value):ev fr (.const u)=cv u:=rfl
theorem B6(fr:List DV)(f:FuncId):ev fr (.func f)= .v (.func (.func f) #[] #[]):=rfl
theorem Ca(fr:List DV)(t:Nat)(d:DV):pt fr (some t) d=fr.set t d:=rfl
theorem BK(fr:List DV)(d:DV):pt fr none d=fr:=rfl
theorem C8(k:IntKind)(n:Int):cv (.int k n)= .v (.int k n):=rfl
theorem B4(b:Bool):cv (.bool b)= .v (.bool b):=rfl
theorem FO(s:ByteArray):cv (.string s)= .v (.string s):=rfl
theorem Fx:cv (.slice none 0 0)= .sl 0 true []:=rfl
theorem CV:cv (.nilFunc)= .v .nilFunc:=rfl
theorem uT(k:IntKind):pY (.int k)=false:=rfl
theorem B1(e s b:Nat)(i:Bool):rR (.sl e s b i)=false:=rfl
theorem uk(e s b:Nat)(i:Bool):nO (.sl e s b i)=true:=rfl
theorem F2(u:Value):qo (.v u)=true:=rfl
theorem B0(s:Nat)(f:Bool)(xs:List DV):qo (.sl s f xs)=true:=rfl
theorem Ax(u:Value):eG (.v u)=true:=rfl
theorem wm(s:Nat)(f:Bool)(xs:List DV):eG (.sl s f xs)=true:=rfl
theorem uG(ds:List DV):eG (.agg ds)=ds.all qo:=rfl
theorem BD(t:Nat):ux (.tmp t)=false:=rfl
theorem vN(u:Value):ux (.const u)=true:=rfl
theorem wL:cU []=some []:=rfl
theorem E2(u:Value)(ds:List DV):cU (.v u::ds)=(cU ds).map (u::·):=rfl
theorem vb(fs:List (Nat×Nat×Bool))(ds:List DV):gN fs ds []=some ds:=rfl
def Pj(p:Option (Nat×Nat×Bool))(fs:List (Nat×Nat×Bool))(d:DV)(ds:List DV)(rest:List (Nat×DV)):Option (List DV):=match p with
 |none=>none
 |some (off,sz,_)=>if dA d&&(cd d).length==sz&&decide (off+sz≤ds.length)then gN fs (cG ds off (cd d)) rest else none
theorem sX(fs:List (Nat×Nat×Bool))(ds:List DV)(i:Nat)(d:DV)(rest:List (Nat×DV)):gN fs ds ((i,d)::rest)=Pj (fs[i]?) fs d ds rest:=by rw[gN];unfold Pj;cases fs[i]? <;>rfl
theorem NA(off sz:Nat)(ag:Bool)(fs:List (Nat×Nat×Bool))(d:DV)(ds:List DV)(rest:List (Nat×DV)):Pj (some (off,sz,ag)) fs d ds rest=if dA d&&(cd d).length==sz&&decide (off+sz≤ds.length)then gN fs (cG ds off (cd d)) rest else none:=rfl
theorem uo(s:Nat)(ds:List DV):jO s ds []=some ds:=rfl
theorem sd(s:Nat)(ds:List DV)(i:Nat)(d:DV)(rest:List (Nat×DV)):jO s ds ((i,d)::rest)=if dA d&&(cd d).length==s&&decide (i<ds.length)then jO s (ds.set i d) rest else none:=rfl
theorem sh(ds:List DV)(o:Nat):cG ds o []=ds:=rfl
theorem qg(ds:List DV)(o:Nat)(c:DV)(cs:List DV):cG ds o (c::cs)=cG (ds.set o c) (o+1) cs:=rfl
theorem uZ(d:DV)(n:Nat)(y:DV):mz d 0 n n y=some y:=by simp[mz]
theorem vf(ds:List DV)(o n s:Nat)(y:DV):mz (.agg ds) o n s y=if o=0∧n=s then some y else some (.agg (cG ds o (cd y))):=rfl
theorem wD(k:Nat)(x:Ob)(t:List (Nat×Ob))(p:Nat×Ob):tJ ((k,x)::t) k p=p::t:=by simp[tJ]
theorem xV(k:IntKind):sameKind .add k k=true:=by simp[sameKind]
theorem wP(k:IntKind):sameKind .sub k k=true:=by simp[sameKind]
theorem wO(k:IntKind):sameKind .mul k k=true:=by simp[sameKind]
theorem xA(k:IntKind):sameKind .quo k k=true:=by simp[sameKind]
theorem yc(k:IntKind):sameKind .rem k k=true:=by simp[sameKind]
theorem x4(k:IntKind):sameKind .and k k=true:=by simp[sameKind]
theorem AE(k:IntKind):sameKind .or k k=true:=by simp[sameKind]
theorem yv(k:IntKind):sameKind .eql k k=true:=by simp[sameKind]
theorem xb(k:IntKind):sameKind .neq k k=true:=by simp[sameKind]
theorem xG(k:IntKind):sameKind .lss k k=true:=by simp[sameKind]
theorem wM(k:IntKind):sameKind .leq k k=true:=by simp[sameKind]
theorem wT(k:IntKind):sameKind .gtr k k=true:=by simp[sameKind]
theorem wA(k:IntKind):sameKind .geq k k=true:=by simp[sameKind]
theorem wX(k k':IntKind):sameKind .shl k k'=true:=rfl
theorem yg(k k':IntKind):sameKind .shr k k'=true:=rfl
theorem qt{α:Type}(a:α):List.replicate 0 a=[]:=rfl
theorem qs{α:Type}(n:Nat)(a:α):List.replicate (n+1) a=a::List.replicate n a:=rfl
theorem Hn{α:Type}(a b:α)(l:List α):(a::l).set 0 b=b::l:=rfl
theorem G4{α:Type}(a b:α)(l:List α)(n:Nat):(a::l).set (n+1) b=a::l.set n b:=rfl
theorem OI(live:List Nat)(fr:List DV):wk live fr=cz (qX fr 0 live):=rfl
theorem B3(i:Nat)(js:List Nat):qX [] i js=[]:=rfl
theorem HN(d:DV)(ds:List DV)(i:Nat):qX (d::ds) i []= .any::qX ds (i+1) []:=rfl
theorem H9(d:DV)(ds:List DV)(i j:Nat)(js:List Nat):qX (d::ds) i (j::js)=if i=j then d::qX ds (i+1) js else .any::qX ds (i+1) (j::js):=rfl
theorem yo(fr:List DV):jB fr []=fr:=rfl
theorem uJ(fr:List DV)(i:Nat)(d:DV)(us:List (Nat×DV)):jB fr ((i,d)::us)=jB (fr.set i d) us:=rfl
theorem Al(w0:W0)(fr:List DV)(n:Nat)(F:DV→Prop):Ay w0 fr (.tmp n) F=F (ev fr (.tmp n)):=rfl
theorem wy(w0:W0)(fr:List DV)(b:Nat)(F:DV→Prop):Ay w0 fr (.global b) F=mF w0 b F:=rfl
theorem LV{P:Program}{w0:W0}{fr:List DV}{S:St}{K:DV→St→Prop}(x:Operand):aL P w0 (.move x) fr S K=(K (ev fr x) S):=rfl
theorem Dl{P:Program}{w0:W0}{fr:List DV}{S:St}{K:DV→St→Prop}(x:Operand):aL P w0 (.assign x) fr S K=(K (ev fr x) S):=rfl
theorem KD{P:Program}{w0:W0}{fr:List DV}{S:St}{K:DV→St→Prop}(c a b:Operand):aL P w0 (.pick c a b) fr S K=(fA (ev fr c) (ev fr a) (ev fr b) (K · S)):=rfl
theorem LL{P:Program}{w0:W0}{fr:List DV}{S:St}{K:DV→St→Prop}(t:TypeId)(x:Operand):aL P w0 (.load t x) fr S K=(bX (tk P t) S (ev fr x) (K · S)):=rfl
theorem vo{P:Program}{w0:W0}{fr:List DV}{S:St}{K:DV→St→Prop}(t:TypeId)(x:Operand)(f:Nat):aL P w0 (.fieldAddr t x f) fr S K=(dZ (tk P t) f (ev fr x) (K · S)):=rfl
theorem vX{P:Program}{w0:W0}{fr:List DV}{S:St}{K:DV→St→Prop}(t:TypeId)(x i:Operand):aL P w0 (.indexAddr t x i) fr S K=(Ay w0 fr x fun d=>aD (tk P t) d (ev fr i) (K · S)):=rfl
theorem GS{P:Program}{w0:W0}{fr:List DV}{S:St}{K:DV→St→Prop}(t:TypeId)(x i:Operand):aL P w0 (.index t x i) fr S K=(fC (tk P t) (ev fr x) (ev fr i) (K · S)):=rfl
theorem Av{P:Program}{w0:W0}{fr:List DV}{S:St}{K:DV→St→Prop}(x:Operand)(i:Nat):aL P w0 (.extract x i) fr S K=(cB i (ev fr x) (K · S)):=rfl
theorem wv{P:Program}{w0:W0}{fr:List DV}{S:St}{K:DV→St→Prop}(x:Operand):aL P w0 (.nilCheck x) fr S K=(notNil (ev fr x)=true∧K (ev fr x) S):=rfl
theorem G6{P:Program}{w0:W0}{fr:List DV}{S:St}{K:DV→St→Prop}(b:BinOp)(t:TypeId)(x y:Operand)(t':TypeId):aL P w0 (.binOp b t x y t') fr S K=(cD (fD y) (mc b (tk P t) (ev fr x) (K · S)) (gH P b t (ux x) (ux y) (ev fr x) (ev fr y) (K · S))):=by simp only[aL];unfold cD;cases fD y <;>rfl
theorem La{P:Program}{w0:W0}{fr:List DV}{S:St}{K:DV→St→Prop}(b:UnOp)(t:TypeId)(x:Operand):aL P w0 (.unOp b t x) fr S K=(Au b (ev fr x) (K · S)):=rfl
theorem Ag{P:Program}{w0:W0}{fr:List DV}{S:St}{K:DV→St→Prop}(s d:TypeId)(x:Operand):aL P w0 (.convert s d x) fr S K=(gm (tk P s) (tk P d) (tk P (dh P s)) (tk P (dh P d)) S (ev fr x) (K · S)):=rfl
theorem IY{P:Program}{w0:W0}{fr:List DV}{S:St}{K:DV→St→Prop}(t:TypeId)(x:Operand):aL P w0 (.makeInterface t x) fr S K=(pY (tk P t)=false∧shr S (ev fr x) fun d S=>K (.fN t d) S):=rfl
theorem IU{P:Program}{w0:W0}{fr:List DV}{S:St}{K:DV→St→Prop}(t:TypeId)(parts:List (Nat×Operand)):aL P w0 (.build t parts.toArray) fr S K=(eo S (parts.map fun p=>ev fr p.2) fun ds S=>dO P t ((parts.map (·.1)).zip ds) (K · S)):=rfl
theorem sM{P:Program}{w0:W0}{fr:List DV}{S:St}{K:DV→St→Prop}(t:TypeId)(len:Nat)(parts:List (Nat×Operand)):aL P w0 (.buildSlice t len parts.toArray) fr S K=(eo S (parts.map fun p=>ev fr p.2) fun ds S=>aG (tk P t) (zD P (dh P t)) len ((parts.map (·.1)).zip ds) (K · S)):=rfl
theorem xN{P:Program}{w0:W0}{fr:List DV}{S:St}{K:DV→St→Prop}(fn:Fn)(a b:List Operand):aL P w0 (.makeFunc fn a.toArray b.toArray) fr S K=(iT fn (a.map (ev fr)) (b.map (ev fr)) (K · S)):=rfl
theorem GU{P:Program}{w0:W0}{fr:List DV}{S:St}{K:DV→St→Prop}(t:TypeId)(x:Operand)(lo hi mx:Option Operand):aL P w0 (.slice t x lo hi mx) fr S K=((mx.isSome=true→hi.isSome=true)∧eX (tk P t) S (ev fr x) (lo.map (ev fr)) (hi.map (ev fr)) (mx.map (ev fr)) K):=rfl
theorem MD{P:Program}{w0:W0}{fr:List DV}{S:St}{K:DV→St→Prop}(t:TypeId)(x:Operand):aL P w0 (.box t x) fr S K=(dA (ev fr x)=true∧Gs S (ev fr x) K):=rfl
theorem G0{P:Program}{w0:W0}{fr:List DV}{S:St}{K:DV→St→Prop}(t:TypeId):aL P w0 (.alloc t) fr S K=(dA (zD P t)=true∧Gs S (zD P t) K):=rfl
theorem Ij{P:Program}{w0:W0}{fr:List DV}{S:St}{K:DV→St→Prop}(t:TypeId)(x y:Operand):aL P w0 (.store t x y) fr S K=((P.info? t).isSome=true∧db (P.cellsOf t) S (ev fr x) (ev fr y) (K ud)):=rfl
theorem tZ{P:Program}{w0:W0}{fr:List DV}{S:St}{K:DV→St→Prop}(t:TypeId)(x y:Operand):aL P w0 (.makeSlice t x y) fr S K=(dt (tk P t) (zD P (dh P t)) (ev fr x) (ev fr y) S K):=rfl
theorem Mu{P:Program}{w0:W0}{fr:List DV}{S:St}{K:DV→St→Prop}(x:Operand)(t:TypeId):aL P w0 (.call ⟨.builtin .len, #[x], #[t]⟩) fr S K=(kp (tk P t) (ev fr x) (K · S)):=rfl
theorem ER{P:Program}{w0:W0}{fr:List DV}{S:St}{K:DV→St→Prop}(x y:Operand)(t t':TypeId):aL P w0 (.call ⟨.builtin .append, #[x,y], #[t,t']⟩) fr S K=(cD (tQ (ev fr x)) (cD (rR (tk P t')) (rb (tk P t) (zD P (dh P t)) S (ev fr x) (ev fr y) K) (qC (tk P t) (tk P t') S (ev fr x) (ev fr y) K)) (cD (rR (tk P t')) (jz (tk P t) (zD P (dh P t)) S (ev fr x) (ev fr y) K) (ic (tk P t) (tk P t') S (ev fr x) (ev fr y) K))):=by simp only[aL];unfold cD;cases tQ (ev fr x) <;>cases rR (tk P t') <;>rfl
theorem Hs{P:Program}{w0:W0}{fr:List DV}{S:St}{K:DV→St→Prop}(x:Operand)(t:TypeId):aL P w0 (.call ⟨.builtin .clear, #[x], #[t]⟩) fr S K=(jc (tk P t) (zD P (dh P t)) S (ev fr x) K):=rfl
theorem KA{P:Program}{w0:W0}{fr:List DV}{S:St}{K:DV→St→Prop}(cal:Operand)(a:List Operand)(ts:Array TypeId):aL P w0 (.call ⟨.value cal,a.toArray,ts⟩) fr S K=(pU P w0 (ev fr cal) (a.map (ev fr)) S K):=rfl
theorem HT{P:Program}{w0:W0}{fr:List DV}{S:St}{K:DV→St→Prop}(t:TypeId)(x:Operand):aL P w0 (.range t x) fr S K=(J9 (tk P t) (nT P t) S (ev fr x) K):=rfl
theorem J6{P:Program}{w0:W0}{fr:List DV}{S:St}{K:DV→St→Prop}(x:Operand)(s:Bool):aL P w0 (.next x s) fr S K=(Me s S (ev fr x) K):=rfl
theorem KV{P:Program}{w0:W0}{fr:List DV}{S:St}{K:DV→Prop}(x:Operand):aX P w0 (.move x) fr S K=(K (ev fr x)):=rfl
theorem CW{P:Program}{w0:W0}{fr:List DV}{S:St}{K:DV→Prop}(x:Operand):aX P w0 (.assign x) fr S K=(K (ev fr x)):=rfl
theorem KS{P:Program}{w0:W0}{fr:List DV}{S:St}{K:DV→Prop}(c a b:Operand):aX P w0 (.pick c a b) fr S K=(fA (ev fr c) (ev fr a) (ev fr b) K):=rfl
theorem Kf{P:Program}{w0:W0}{fr:List DV}{S:St}{K:DV→Prop}(t:TypeId)(x:Operand):aX P w0 (.load t x) fr S K=(bX (tk P t) S (ev fr x) K):=rfl
theorem vG{P:Program}{w0:W0}{fr:List DV}{S:St}{K:DV→Prop}(t:TypeId)(x:Operand)(f:Nat):aX P w0 (.fieldAddr t x f) fr S K=(dZ (tk P t) f (ev fr x) K):=rfl
theorem tS{P:Program}{w0:W0}{fr:List DV}{S:St}{K:DV→Prop}(t:TypeId)(x i:Operand):aX P w0 (.indexAddr t x i) fr S K=(Ay w0 fr x fun d=>aD (tk P t) d (ev fr i) K):=rfl
theorem xC{P:Program}{w0:W0}{fr:List DV}{S:St}{K:DV→Prop}(x:Operand):aX P w0 (.nilCheck x) fr S K=(notNil (ev fr x)=true∧K (ev fr x)):=rfl
theorem Ho{P:Program}{w0:W0}{fr:List DV}{S:St}{K:DV→Prop}(b:BinOp)(t:TypeId)(x y:Operand)(t':TypeId):aX P w0 (.binOp b t x y t') fr S K=(fD y=false∧gH P b t (ux x) (ux y) (ev fr x) (ev fr y) K):=rfl
theorem KN{P:Program}{w0:W0}{fr:List DV}{S:St}{K:DV→Prop}(b:UnOp)(t:TypeId)(x:Operand):aX P w0 (.unOp b t x) fr S K=(Au b (ev fr x) K):=rfl
theorem xg{P:Program}{w0:W0}{fr:List DV}{S:St}{K:DV→Prop}(fn:Fn)(a b:List Operand):aX P w0 (.makeFunc fn a.toArray b.toArray) fr S K=(iT fn (a.map (ev fr)) (b.map (ev fr)) K):=rfl
theorem HI{P:Program}{w0:W0}{fr:List DV}{S:St}{K:DV→Prop}(t:TypeId)(x:Operand)(lo hi mx:Option Operand):aX P w0 (.slice t x lo hi mx) fr S K=((mx.isSome=true→hi.isSome=true)∧qo (ev fr x)=true∧du (tk P t) (ev fr x) (lo.map (ev fr)) (hi.map (ev fr)) (mx.map (ev fr)) K):=rfl
theorem Im{P:Program}{w0:W0}{fr:List DV}{S:St}{K:DV→Prop}(t:TypeId)(parts:List (Nat×Operand)):aX P w0 (.build t parts.toArray) fr S K=((parts.map fun p=>ev fr p.2).all eG=true∧dO P t ((parts.map (·.1)).zip (parts.map fun p=>ev fr p.2)) K):=rfl
theorem rJ{P:Program}{w0:W0}{fr:List DV}{S:St}{K:DV→Prop}(t:TypeId)(len:Nat)(parts:List (Nat×Operand)):aX P w0 (.buildSlice t len parts.toArray) fr S K=((parts.map fun p=>ev fr p.2).all eG=true∧aG (tk P t) (zD P (dh P t)) len ((parts.map (·.1)).zip (parts.map fun p=>ev fr p.2)) K):=rfl
theorem MP{P:Program}{w0:W0}{fr:List DV}{S:St}{K:DV→Prop}(x:Operand)(t:TypeId):aX P w0 (.call ⟨.builtin .len, #[x], #[t]⟩) fr S K=(kp (tk P t) (ev fr x) K):=rfl
theorem Kk{P:Program}{w0:W0}{fr:List DV}{S:St}{K:DV→Prop}(cal:Operand)(a:List Operand)(ts:Array TypeId):aX P w0 (.call ⟨.value cal,a.toArray,ts⟩) fr S K=(jU P w0 (ev fr cal) (a.map (ev fr)) S K):=rfl
attribute [go_sem ↓] LV Dl KD LL vo vX GS Av wv G6 La Ag IY IU sM xN GU MD G0 Ij tZ Mu ER Hs KA HT J6 KV
attribute [go_sem ↓] CW KS Kf vG tS xC Ho KN xg HI Im rJ MP Kk
attribute [go_sem] wz sn xl yu mY nh pI tP wY vn lB pC uN tY AG uY oq EZ
attribute [go_sem] xi B6 Ca BK C8 B4 FO Fx CV uT B1
attribute [go_sem] uk F2 B0 Ax wm uG BD vN wL E2 vb sX NA uo
attribute [go_sem] sd sh qg uZ vf wD xV wP wO xA yc x4 AE yv xb xG wM wT wA wX yg qt qs Hn G4 OI B3 HN H9 yo uJ Al
attribute [go_sem] wy
section
variable {P:Program} {w0:W0} {K:DV→Prop} {A B:Prop} {F G:List DV→Prop}
/- Tests:what is known is gone by;what can't be known parts the way. -/
theorem D4:de (.v (.bool true)) A B=A:=by simp[de]
theorem E7:de (.v (.bool false)) A B=B:=by simp[de]
theorem Fu(p:Prop)[Decidable p]:de (.v (.bool (decide p))) A B=((p→A)∧(¬p→B)):=by simp[de]
theorem CQ(b:Bool):de (.v (.bool (!b))) A B=de (.v (.bool b)) B A:=by
 simp only[de,Bool.not_eq_eq_eq_not,Bool.not_true,Bool.not_false];exact propext ⟨fun h=>⟨h.2,h.1⟩,fun h=>⟨h.2,h.1⟩⟩
theorem FB(b:Bool):de (.v (.bool b)) A B=((b=true→A)∧(b=false→B)):=rfl
theorem Eg(a b:DV):fA (.v (.bool true)) a b K=K a:=by simp[fA]
theorem Ds(a b:DV):fA (.v (.bool false)) a b K=K b:=by simp[fA]
/- A choice between what is known is the test itself. -/
theorem HW(t:Nat)(fr:List DV):gD t (.v (.bool true)) fr true F G=F (fr.set t (.v (.bool true))):=by simp[gD]
theorem GL(t:Nat)(fr:List DV):gD t (.v (.bool true)) fr false F G=G (fr.set t (.v (.bool true))):=by simp[gD]
theorem HZ(t:Nat)(fr:List DV):gD t (.v (.bool false)) fr true F G=G (fr.set t (.v (.bool false))):=by simp[gD]
theorem I1(t:Nat)(fr:List DV):gD t (.v (.bool false)) fr false F G=F (fr.set t (.v (.bool false))):=by simp[gD]
theorem GX(p:Prop)[Decidable p](t:Nat)(fr:List DV):gD t (.v (.bool (decide p))) fr true F G=((p→F (fr.set t (.v (.bool true))))∧(¬p→G (fr.set t (.v (.bool false))))):=by simp[gD]
theorem IN(p:Prop)[Decidable p](t:Nat)(fr:List DV):gD t (.v (.bool (decide p))) fr false F G=((p→G (fr.set t (.v (.bool true))))∧(¬p→F (fr.set t (.v (.bool false))))):=by
 simp only[gD,decide_eq_false_iff_not,Bool.not_false,decide_eq_true_eq];exact propext ⟨fun h=>⟨h.2,h.1⟩,fun h=>⟨h.2,h.1⟩⟩
theorem zA(b:Bool)(t:Nat)(fr:List DV):gD t (.v (.bool b)) fr true F G=((b=true→F (fr.set t (.v (.bool true))))∧(b=false→G (fr.set t (.v (.bool false))))):=by simp[gD]
theorem yV(b:Bool)(t:Nat)(fr:List DV):gD t (.v (.bool b)) fr false F G=((b=true→G (fr.set t (.v (.bool true))))∧(b=false→F (fr.set t (.v (.bool false))))):=by
 simp only[gD,Bool.not_false];exact propext ⟨fun h=>⟨h.2,h.1⟩,fun h=>⟨h.2,h.1⟩⟩
end
attribute [go_sem ↓] D4 E7 Fu CQ Eg Ds HW GL HZ I1 GX IN
attribute [go_sem ↓ low] FB zA yV
attribute [go_sem] List.length_cons List.length_nil List.length_map List.cons_append List.nil_append List.map_cons List.map_nil List.zip_cons_cons List.zip_nil_right
section
variable {P:Program} {w0:W0} {ops:Array Oper} {K:List DV→St→Prop} {fr:List DV} {S:St} {rest:List Oper} {dst:Option Tmp} {op:Op} {ty:TypeId} {pos:String} {aft:Array Edge}
theorem Bs:qO P w0 ops K [] fr S=K fr S:=rfl
theorem xh:qO P w0 ops K (⟨dst,op,ty,pos,aft,none⟩::rest) fr S=aL P w0 op fr S fun d S'=>qO P w0 ops K rest (pt fr dst d) S':=rfl
theorem yt(j:Nat)(want:Bool):qO P w0 ops K (⟨dst,op,ty,pos,aft,some (j,want)⟩::rest) fr S=gK ((ops[j]?).bind (·.dst)) fr want (fun fr=>aL P w0 op fr S fun d S'=>qO P w0 ops K rest (pt fr dst d) S') (fun fr=>qO P w0 ops K rest (pt fr dst ud) S):=tC _ _ _ _ _ _
end
def QC(P:Program)(w0:W0)(f:FuncId)(ds:List DV)(S:St)[K:Cn (DV→Prop)]:Prop:=∃d,ab P w0 f ds S (fun d' S'=>d'=d∧S'=S)∧K.k d
theorem Ip{P:Program}{w0:W0}(f:FuncId)(a cap:Array Value)(ds:List DV)(S:St)(K:DV→Prop):jU P w0 (.v (.func (.func f) a cap)) ds S K=(a.size=0∧okF P f=true∧cap.toList.all (fun u=>u.oneCell')=true∧ds.all eG=true∧@QC P w0 f (ds++cap.toList.map .v) S ⟨K⟩):=rfl
attribute [go_sem ↓] Bs xh yt Ip jQ ij jN gR nL uq
attribute [go_sem] List.getD_cons_succ List.getD_cons_zero List.getElem?_cons_succ List.getElem?_cons_zero List.getElem?_toArray Option.bind_some List.all_cons List.all_nil Bool.and_self Bool.and_true
attribute [go_sem] Nat.zero_add true_and and_true List.drop_zero List.drop_succ_cons List.take_succ_cons List.take_zero Option.map_some Option.map_none Option.isSome_some Option.isSome_none Option.isNone_none Option.isNone_some
attribute [go_sem] Bool.false_eq_true if_true if_false or_true true_or false_or or_false forall_const false_implies imp_self Bool.not_true Bool.not_false beq_self_eq_true decide_eq_true_eq decide_eq_false_iff_not decide_true decide_false
attribute [go_sem] Int.toNat_natCast Int.natCast_nonneg Int.ofNat_lt Int.ofNat_le Int.natCast_inj List.getElem?_map Option.map_eq_some_iff forall_exists_index and_imp forall_apply_eq_imp_iff₂ forall_eq_apply_imp_iff ne_eq not_false_eq_true not_true_eq_false
attribute [go_sem] List.size_toArray List.append_nil Int.le_refl Nat.le_refl List.drop_nil List.take_nil Int.toNat_zero Int.natCast_zero Int.natCast_one Int.cast_ofNat_Int Bool.or_true Bool.or_false Bool.true_or Bool.false_or Bool.false_and Bool.and_false Bool.true_and List.isEmpty_nil List.isEmpty_cons
attribute [go_sem] dI dU dY dB dS Nat.lt_add_one forall_eq forall_eq' true_implies implies_true Option.some.injEq
structure FN{α:Type}(l:List (Nat×α)) where
 m:Nat
 h:gx l m
def FN.n{α:Type}{l:List (Nat×α)}(b:FN l):Nat:=b.m
theorem nr{α:Type}(l:List (Nat×α))(F:Nat→Prop):(∀b,gx l b→F b)=∀b:FN l,F b.n:=propext ⟨fun h b=>h b.n b.h,fun h b hb=>h ⟨b,hb⟩⟩
theorem pf{α:Type}:∀{l:List (Nat×α)} {b:Nat},gx l b→lk l b=none
 |[],_,_=>rfl
 |(k,x)::t,b,h=>by
  simp only[gx]at h;unfold lk;rw[if_neg (by first|exact fun e=>h.1 e|exact fun e=>h.1 e.symm)];exact pf (by first|exact h.2|exact h.2.2)
theorem mH{α:Type}{l:List (Nat×α)}(b:FN l):lk l b.n=none:=pf b.h
theorem af{α:Type}{l:List (Nat×α)}(b:FN l)(c:Nat)(h:(lk l c).isSome=true):(b.n=c)=False:=by
 refine eq_false fun e=>?_;subst e;rw[show lk l b.n=none from pf b.h]at h;cases h
theorem C0{α:Type}{l:List (Nat×α)}(b:FN l)(c:Nat)(h:(lk l c).isSome=true):(c=b.n)=False:=by
 refine eq_false fun e=>?_;subst e;rw[show lk l b.n=none from pf b.h]at h;cases h
section
variable {S:St} {K:DV→St→Prop}
theorem KL(d:DV):Gs S d K=∀b:FN S.box,K (.v (.pointer (some ⟨b.n,0,none⟩))) ⟨(b.n,cd d)::S.box,S.acc⟩:=nr S.box fun b=>K (.v (.pointer (some ⟨b,0,none⟩))) ⟨(b,cd d)::S.box,S.acc⟩
theorem Fc(ds:List DV):Gs S (.agg ds) K=∀b:FN S.box,K (.v (.pointer (some ⟨b.n,0,none⟩))) ⟨(b.n,ds)::S.box,S.acc⟩:=KL _
theorem Lb(u:Value):Gs S (.v u) K=∀b:FN S.box,K (.v (.pointer (some ⟨b.n,0,none⟩))) ⟨(b.n,[.v u])::S.box,S.acc⟩:=KL _
theorem HP(s:Nat)(f:Bool)(xs:List DV):Gs S (.sl s f xs) K=∀b:FN S.box,K (.v (.pointer (some ⟨b.n,0,none⟩))) ⟨(b.n,[.sl s f xs])::S.box,S.acc⟩:=KL _
end
def P9(S:St)(f:XO)(K:DV→St→Prop):Prop:=∀l,gx S.acc l→K (.it l) ⟨S.box,(l,.xo f)::S.acc⟩
theorem NN(S:St)(f:XO)(K:DV→St→Prop):P9 S f K=∀l:FN S.acc,K (.it l.n) ⟨S.box,(l.n,.xo f)::S.acc⟩:=nr S.acc fun l=>K (.it l) ⟨S.box,(l,.xo f)::S.acc⟩
theorem Ef(s:ByteArray)(S:St)(K:DV→St→Prop):hY S (.v (.string s)) K=P9 S (.si s 0) K:=rfl
theorem CU(m:Option (KK×DV))(S:St)(x:DV)(K:DV→St→Prop):J9 .str m S x K=hY S x K:=rfl
theorem K9(S:St)(x:DV)(K:DV→St→Prop):Me true S x K=iI S x K:=rfl
attribute [go_sem ↓] NN Ef CU K9 Nw G5
attribute [go_sem ↓] nr Fc Lb HP
attribute [go_sem] af C0 Option.isSome_some
noncomputable def pB(P:Prop):Bool:=@decide P (Classical.propDecidable P)
theorem aI{P:Prop}(h:P):pB P=true:=@decide_eq_true _ (Classical.propDecidable _) h
theorem aS{P:Prop}(h:¬P):pB P=false:=@decide_eq_false _ (Classical.propDecidable _) h
theorem mA(P:Prop):(pB P=true)=P:=propext ⟨fun h=>@of_decide_eq_true _ (Classical.propDecidable _) h,aI⟩
theorem vZ(P:Prop):(pB P=false)=¬P:=propext ⟨fun h=>@of_decide_eq_false _ (Classical.propDecidable _) h,aS⟩
theorem MR(P:Prop):(true=pB P)=P:=(propext eq_comm).trans (mA P)
theorem MX(P:Prop):(false=pB P)=¬P:=(propext eq_comm).trans (vZ P)
theorem OZ(P:Prop)[Decidable P]:(true=decide P)=P:=(propext eq_comm).trans decide_eq_true_eq
theorem OV(P:Prop)[Decidable P]:(false=decide P)=¬P:=(propext eq_comm).trans (propext decide_eq_false_iff_not)
theorem Dy(P A B:Prop):de (.v (.bool (pB P))) A B=((P→A)∧(¬P→B)):=by
 show((pB P=true→A)∧(pB P=false→B))=_;rw[mA,vZ]
theorem Hg(P:Prop)(t:Nat)(fr:List DV)(F G:List DV→Prop):gD t (.v (.bool (pB P))) fr true F G=((P→F (fr.set t (.v (.bool true))))∧(¬P→G (fr.set t (.v (.bool false))))):=by
 rw[zA,mA,vZ]
theorem H5(P:Prop)(t:Nat)(fr:List DV)(F G:List DV→Prop):gD t (.v (.bool (pB P))) fr false F G=((P→G (fr.set t (.v (.bool true))))∧(¬P→F (fr.set t (.v (.bool false))))):=by
 rw[yV,mA,vZ]
theorem ES(P:Prop):(!pB P)=pB (¬P):=by
 by_cases h:P
 ·rw[aI h,aS (fun k=>k h)];rfl
 ·rw[aS h,aI h];rfl
attribute [go_sem ↓] Dy Hg H5
attribute [go_sem] mA vZ MR MX OZ OV ES
theorem wG{α β:Type}(f:α→β)(n:Nat)(l:List α):List.take n (List.map f l)=List.map f (List.take n l):=List.map_take.symm
theorem xu{α β:Type}(f:α→β)(n:Nat)(l:List α):List.drop n (List.map f l)=List.map f (List.drop n l):=List.map_drop.symm
attribute [go_sem] wG xu List.length_append List.length_take List.length_drop List.take_length List.drop_length Nat.min_self
theorem O1(P Q:Prop)[Decidable P]:(decide P=pB Q)=(P↔Q):=propext ⟨fun h=>⟨fun p=>(mA Q).mp (h▸decide_eq_true p),fun q=>of_decide_eq_true (h.trans (aI q))⟩,fun h=>by
 by_cases p:P
 ·rw[aI (h.1 p),decide_eq_true p]
 ·rw[aS (fun q=>p (h.2 q)),decide_eq_false p]⟩
theorem Pp(P Q:Prop)[Decidable P][Decidable Q]:(decide P=decide Q)=(P↔Q):=propext decide_eq_decide
attribute [go_sem] O1 Pp
theorem IG(P:Prop)[Decidable P]:(!decide P)=decide (¬P):=(decide_not).symm
attribute [go_sem] IG Bool.not_eq_true' Bool.not_eq_false'
attribute [go_sem] Value.oneCell' false_and and_false and_self List.length_set
attribute [go_sem] J0
attribute [go_sem ↓] Fy yG Ko LR w7 CB
attribute [go_sem ↓] Na
attribute [go_sem ↓] DR DM Bp AD C1 A7 AW Ep C2 IX CI H0 DI GD BN Hw Dp Bn Gl GO EI Eo DD CJ Ee Fh De AM vA tu I8 FJ A2 Be xI tW Et Aq xn xe xx yn wW vy FE Ap Ab uX yA xk tM Bk E9 Lo Ce By xY yB wK yi Ct EJ GR w9 AN uR Bm G3 HH CT GG IL Cm yC HL vD BJ tC BR Io Kq IH Ph MV
attribute [go_sem] IS Dm An Bw Ld Ie CR FX F4 As sR BU I7 Ft yq xf xD sT rQ xq vT rN uB
theorem Dt(r:Om)(l:List DV)(n:Nat)(d:DV):(rc r l).getD (n+16) d=l.getD n d:=rfl
theorem Du(r:Om)(l:List DV)(n:Nat)(d:DV):(rc r l).set (n+16) d=rc r (l.set n d):=rfl
theorem EO(a0 a1 a2 a3 a4 a5 a6 a7 a8 a9 bj bu a12 bD bJ bO:DV)(l:List DV)(d:DV):(rc ⟨a0,a1,a2,a3,a4,a5,a6,a7,a8,a9,bj,bu,a12,bD,bJ,bO⟩ l).getD 0 d=a0:=rfl
theorem CY(a0 a1 a2 a3 a4 a5 a6 a7 a8 a9 bj bu a12 bD bJ bO:DV)(l:List DV)(d:DV):(rc ⟨a0,a1,a2,a3,a4,a5,a6,a7,a8,a9,bj,bu,a12,bD,bJ,bO⟩ l).set 0 d=rc ⟨d,a1,a2,a3,a4,a5,a6,a7,a8,a9,bj,bu,a12,bD,bJ,bO⟩ l:=rfl
theorem D9(a0 a1 a2 a3 a4 a5 a6 a7 a8 a9 bj bu a12 bD bJ bO:DV)(l:List DV)(d:DV):(rc ⟨a0,a1,a2,a3,a4,a5,a6,a7,a8,a9,bj,bu,a12,bD,bJ,bO⟩ l).getD 1 d=a1:=rfl
theorem Dj(a0 a1 a2 a3 a4 a5 a6 a7 a8 a9 bj bu a12 bD bJ bO:DV)(l:List DV)(d:DV):(rc ⟨a0,a1,a2,a3,a4,a5,a6,a7,a8,a9,bj,bu,a12,bD,bJ,bO⟩ l).set 1 d=rc ⟨a0,d,a2,a3,a4,a5,a6,a7,a8,a9,bj,bu,a12,bD,bJ,bO⟩ l:=rfl
theorem DH(a0 a1 a2 a3 a4 a5 a6 a7 a8 a9 bj bu a12 bD bJ bO:DV)(l:List DV)(d:DV):(rc ⟨a0,a1,a2,a3,a4,a5,a6,a7,a8,a9,bj,bu,a12,bD,bJ,bO⟩ l).getD 2 d=a2:=rfl
theorem EA(a0 a1 a2 a3 a4 a5 a6 a7 a8 a9 bj bu a12 bD bJ bO:DV)(l:List DV)(d:DV):(rc ⟨a0,a1,a2,a3,a4,a5,a6,a7,a8,a9,bj,bu,a12,bD,bJ,bO⟩ l).set 2 d=rc ⟨a0,a1,d,a3,a4,a5,a6,a7,a8,a9,bj,bu,a12,bD,bJ,bO⟩ l:=rfl
theorem Dg(a0 a1 a2 a3 a4 a5 a6 a7 a8 a9 bj bu a12 bD bJ bO:DV)(l:List DV)(d:DV):(rc ⟨a0,a1,a2,a3,a4,a5,a6,a7,a8,a9,bj,bu,a12,bD,bJ,bO⟩ l).getD 3 d=a3:=rfl
theorem E1(a0 a1 a2 a3 a4 a5 a6 a7 a8 a9 bj bu a12 bD bJ bO:DV)(l:List DV)(d:DV):(rc ⟨a0,a1,a2,a3,a4,a5,a6,a7,a8,a9,bj,bu,a12,bD,bJ,bO⟩ l).set 3 d=rc ⟨a0,a1,a2,d,a4,a5,a6,a7,a8,a9,bj,bu,a12,bD,bJ,bO⟩ l:=rfl
theorem Dq(a0 a1 a2 a3 a4 a5 a6 a7 a8 a9 bj bu a12 bD bJ bO:DV)(l:List DV)(d:DV):(rc ⟨a0,a1,a2,a3,a4,a5,a6,a7,a8,a9,bj,bu,a12,bD,bJ,bO⟩ l).getD 4 d=a4:=rfl
theorem Gi(a0 a1 a2 a3 a4 a5 a6 a7 a8 a9 bj bu a12 bD bJ bO:DV)(l:List DV)(d:DV):(rc ⟨a0,a1,a2,a3,a4,a5,a6,a7,a8,a9,bj,bu,a12,bD,bJ,bO⟩ l).set 4 d=rc ⟨a0,a1,a2,a3,d,a5,a6,a7,a8,a9,bj,bu,a12,bD,bJ,bO⟩ l:=rfl
theorem IK(a0 a1 a2 a3 a4 a5 a6 a7 a8 a9 bj bu a12 bD bJ bO:DV)(l:List DV):(rc ⟨a0,a1,a2,a3,a4,a5,a6,a7,a8,a9,bj,bu,a12,bD,bJ,bO⟩ l)[4]? =some a4:=rfl
theorem FP(a0 a1 a2 a3 a4 a5 a6 a7 a8 a9 bj bu a12 bD bJ bO:DV)(l:List DV)(d:DV):(rc ⟨a0,a1,a2,a3,a4,a5,a6,a7,a8,a9,bj,bu,a12,bD,bJ,bO⟩ l).getD 5 d=a5:=rfl
theorem Dz(a0 a1 a2 a3 a4 a5 a6 a7 a8 a9 bj bu a12 bD bJ bO:DV)(l:List DV)(d:DV):(rc ⟨a0,a1,a2,a3,a4,a5,a6,a7,a8,a9,bj,bu,a12,bD,bJ,bO⟩ l).set 5 d=rc ⟨a0,a1,a2,a3,a4,d,a6,a7,a8,a9,bj,bu,a12,bD,bJ,bO⟩ l:=rfl
theorem Fp(a0 a1 a2 a3 a4 a5 a6 a7 a8 a9 bj bu a12 bD bJ bO:DV)(l:List DV)(d:DV):(rc ⟨a0,a1,a2,a3,a4,a5,a6,a7,a8,a9,bj,bu,a12,bD,bJ,bO⟩ l).getD 6 d=a6:=rfl
theorem Gb(a0 a1 a2 a3 a4 a5 a6 a7 a8 a9 bj bu a12 bD bJ bO:DV)(l:List DV)(d:DV):(rc ⟨a0,a1,a2,a3,a4,a5,a6,a7,a8,a9,bj,bu,a12,bD,bJ,bO⟩ l).set 6 d=rc ⟨a0,a1,a2,a3,a4,a5,d,a7,a8,a9,bj,bu,a12,bD,bJ,bO⟩ l:=rfl
theorem El(a0 a1 a2 a3 a4 a5 a6 a7 a8 a9 bj bu a12 bD bJ bO:DV)(l:List DV)(d:DV):(rc ⟨a0,a1,a2,a3,a4,a5,a6,a7,a8,a9,bj,bu,a12,bD,bJ,bO⟩ l).getD 7 d=a7:=rfl
theorem E4(a0 a1 a2 a3 a4 a5 a6 a7 a8 a9 bj bu a12 bD bJ bO:DV)(l:List DV)(d:DV):(rc ⟨a0,a1,a2,a3,a4,a5,a6,a7,a8,a9,bj,bu,a12,bD,bJ,bO⟩ l).set 7 d=rc ⟨a0,a1,a2,a3,a4,a5,a6,d,a8,a9,bj,bu,a12,bD,bJ,bO⟩ l:=rfl
theorem CS(a0 a1 a2 a3 a4 a5 a6 a7 a8 a9 bj bu a12 bD bJ bO:DV)(l:List DV)(d:DV):(rc ⟨a0,a1,a2,a3,a4,a5,a6,a7,a8,a9,bj,bu,a12,bD,bJ,bO⟩ l).getD 8 d=a8:=rfl
theorem F3(a0 a1 a2 a3 a4 a5 a6 a7 a8 a9 bj bu a12 bD bJ bO:DV)(l:List DV)(d:DV):(rc ⟨a0,a1,a2,a3,a4,a5,a6,a7,a8,a9,bj,bu,a12,bD,bJ,bO⟩ l).set 8 d=rc ⟨a0,a1,a2,a3,a4,a5,a6,a7,d,a9,bj,bu,a12,bD,bJ,bO⟩ l:=rfl
theorem IB(a0 a1 a2 a3 a4 a5 a6 a7 a8 a9 bj bu a12 bD bJ bO:DV)(l:List DV):(rc ⟨a0,a1,a2,a3,a4,a5,a6,a7,a8,a9,bj,bu,a12,bD,bJ,bO⟩ l)[8]? =some a8:=rfl
theorem C7(a0 a1 a2 a3 a4 a5 a6 a7 a8 a9 bj bu a12 bD bJ bO:DV)(l:List DV)(d:DV):(rc ⟨a0,a1,a2,a3,a4,a5,a6,a7,a8,a9,bj,bu,a12,bD,bJ,bO⟩ l).getD 9 d=a9:=rfl
theorem Dn(a0 a1 a2 a3 a4 a5 a6 a7 a8 a9 bj bu a12 bD bJ bO:DV)(l:List DV)(d:DV):(rc ⟨a0,a1,a2,a3,a4,a5,a6,a7,a8,a9,bj,bu,a12,bD,bJ,bO⟩ l).set 9 d=rc ⟨a0,a1,a2,a3,a4,a5,a6,a7,a8,d,bj,bu,a12,bD,bJ,bO⟩ l:=rfl
theorem Am(a0 a1 a2 a3 a4 a5 a6 a7 a8 a9 bj bu a12 bD bJ bO:DV)(l:List DV)(d:DV):(rc ⟨a0,a1,a2,a3,a4,a5,a6,a7,a8,a9,bj,bu,a12,bD,bJ,bO⟩ l).getD 10 d=bj:=rfl
theorem Cg(a0 a1 a2 a3 a4 a5 a6 a7 a8 a9 bj bu a12 bD bJ bO:DV)(l:List DV)(d:DV):(rc ⟨a0,a1,a2,a3,a4,a5,a6,a7,a8,a9,bj,bu,a12,bD,bJ,bO⟩ l).set 10 d=rc ⟨a0,a1,a2,a3,a4,a5,a6,a7,a8,a9,d,bu,a12,bD,bJ,bO⟩ l:=rfl
theorem BF(a0 a1 a2 a3 a4 a5 a6 a7 a8 a9 bj bu a12 bD bJ bO:DV)(l:List DV)(d:DV):(rc ⟨a0,a1,a2,a3,a4,a5,a6,a7,a8,a9,bj,bu,a12,bD,bJ,bO⟩ l).getD 11 d=bu:=rfl
theorem B2(a0 a1 a2 a3 a4 a5 a6 a7 a8 a9 bj bu a12 bD bJ bO:DV)(l:List DV)(d:DV):(rc ⟨a0,a1,a2,a3,a4,a5,a6,a7,a8,a9,bj,bu,a12,bD,bJ,bO⟩ l).set 11 d=rc ⟨a0,a1,a2,a3,a4,a5,a6,a7,a8,a9,bj,d,a12,bD,bJ,bO⟩ l:=rfl
theorem B7(a0 a1 a2 a3 a4 a5 a6 a7 a8 a9 bj bu a12 bD bJ bO:DV)(l:List DV)(d:DV):(rc ⟨a0,a1,a2,a3,a4,a5,a6,a7,a8,a9,bj,bu,a12,bD,bJ,bO⟩ l).getD 12 d=a12:=rfl
theorem Ad(a0 a1 a2 a3 a4 a5 a6 a7 a8 a9 bj bu a12 bD bJ bO:DV)(l:List DV)(d:DV):(rc ⟨a0,a1,a2,a3,a4,a5,a6,a7,a8,a9,bj,bu,a12,bD,bJ,bO⟩ l).set 12 d=rc ⟨a0,a1,a2,a3,a4,a5,a6,a7,a8,a9,bj,bu,d,bD,bJ,bO⟩ l:=rfl
theorem B5(a0 a1 a2 a3 a4 a5 a6 a7 a8 a9 bj bu a12 bD bJ bO:DV)(l:List DV)(d:DV):(rc ⟨a0,a1,a2,a3,a4,a5,a6,a7,a8,a9,bj,bu,a12,bD,bJ,bO⟩ l).getD 13 d=bD:=rfl
theorem Bi(a0 a1 a2 a3 a4 a5 a6 a7 a8 a9 bj bu a12 bD bJ bO:DV)(l:List DV)(d:DV):(rc ⟨a0,a1,a2,a3,a4,a5,a6,a7,a8,a9,bj,bu,a12,bD,bJ,bO⟩ l).set 13 d=rc ⟨a0,a1,a2,a3,a4,a5,a6,a7,a8,a9,bj,bu,a12,d,bJ,bO⟩ l:=rfl
theorem BG(a0 a1 a2 a3 a4 a5 a6 a7 a8 a9 bj bu a12 bD bJ bO:DV)(l:List DV)(d:DV):(rc ⟨a0,a1,a2,a3,a4,a5,a6,a7,a8,a9,bj,bu,a12,bD,bJ,bO⟩ l).getD 14 d=bJ:=rfl
theorem Ao(a0 a1 a2 a3 a4 a5 a6 a7 a8 a9 bj bu a12 bD bJ bO:DV)(l:List DV)(d:DV):(rc ⟨a0,a1,a2,a3,a4,a5,a6,a7,a8,a9,bj,bu,a12,bD,bJ,bO⟩ l).set 14 d=rc ⟨a0,a1,a2,a3,a4,a5,a6,a7,a8,a9,bj,bu,a12,bD,d,bO⟩ l:=rfl
theorem BM(a0 a1 a2 a3 a4 a5 a6 a7 a8 a9 bj bu a12 bD bJ bO:DV)(l:List DV)(d:DV):(rc ⟨a0,a1,a2,a3,a4,a5,a6,a7,a8,a9,bj,bu,a12,bD,bJ,bO⟩ l).getD 15 d=bO:=rfl
theorem Cq(a0 a1 a2 a3 a4 a5 a6 a7 a8 a9 bj bu a12 bD bJ bO:DV)(l:List DV)(d:DV):(rc ⟨a0,a1,a2,a3,a4,a5,a6,a7,a8,a9,bj,bu,a12,bD,bJ,bO⟩ l).set 15 d=rc ⟨a0,a1,a2,a3,a4,a5,a6,a7,a8,a9,bj,bu,a12,bD,bJ,d⟩ l:=rfl
theorem LX(a0 a1 a2 a3 a4 a5 a6 a7 a8 a9 bj bu a12 bD bJ bO:DV)(l:List DV)(i:Nat)(js:List Nat):qX (rc ⟨a0,a1,a2,a3,a4,a5,a6,a7,a8,a9,bj,bu,a12,bD,bJ,bO⟩ l) i js=qX (a0::a1::a2::a3::a4::a5::a6::a7::a8::a9::bj::bu::a12::bD::bJ::bO::l) i js:=rfl
theorem Km(a0 a1 a2 a3 a4 a5 a6 a7 a8 a9 bj bu a12 bD bJ bO:DV)(l:List DV):cz (a0::a1::a2::a3::a4::a5::a6::a7::a8::a9::bj::bu::a12::bD::bJ::bO::l)=rc ⟨a0,a1,a2,a3,a4,a5,a6,a7,a8,a9,bj,bu,a12,bD,bJ,bO⟩ (cz l):=rfl
theorem Ku:cz []=[]:=rfl
theorem JT(a0:DV):cz [a0]=[a0]:=rfl
theorem Kr(a0 a1:DV):cz [a0,a1]=[a0,a1]:=rfl
theorem JS(a0 a1 a2:DV):cz [a0,a1,a2]=[a0,a1,a2]:=rfl
theorem J4(a0 a1 a2 a3:DV):cz [a0,a1,a2,a3]=[a0,a1,a2,a3]:=rfl
theorem Ke(a0 a1 a2 a3 a4:DV):cz [a0,a1,a2,a3,a4]=[a0,a1,a2,a3,a4]:=rfl
theorem Lr(a0 a1 a2 a3 a4 a5:DV):cz [a0,a1,a2,a3,a4,a5]=[a0,a1,a2,a3,a4,a5]:=rfl
theorem LG(a0 a1 a2 a3 a4 a5 a6:DV):cz [a0,a1,a2,a3,a4,a5,a6]=[a0,a1,a2,a3,a4,a5,a6]:=rfl
theorem Kv(a0 a1 a2 a3 a4 a5 a6 a7:DV):cz [a0,a1,a2,a3,a4,a5,a6,a7]=[a0,a1,a2,a3,a4,a5,a6,a7]:=rfl
theorem L2(a0 a1 a2 a3 a4 a5 a6 a7 a8:DV):cz [a0,a1,a2,a3,a4,a5,a6,a7,a8]=[a0,a1,a2,a3,a4,a5,a6,a7,a8]:=rfl
theorem Hu(a0 a1 a2 a3 a4 a5 a6 a7 a8 a9:DV):cz [a0,a1,a2,a3,a4,a5,a6,a7,a8,a9]=[a0,a1,a2,a3,a4,a5,a6,a7,a8,a9]:=rfl
theorem Gy(a0 a1 a2 a3 a4 a5 a6 a7 a8 a9 bj:DV):cz [a0,a1,a2,a3,a4,a5,a6,a7,a8,a9,bj]=[a0,a1,a2,a3,a4,a5,a6,a7,a8,a9,bj]:=rfl
theorem GY(a0 a1 a2 a3 a4 a5 a6 a7 a8 a9 bj bu:DV):cz [a0,a1,a2,a3,a4,a5,a6,a7,a8,a9,bj,bu]=[a0,a1,a2,a3,a4,a5,a6,a7,a8,a9,bj,bu]:=rfl
theorem Ir(a0 a1 a2 a3 a4 a5 a6 a7 a8 a9 bj bu a12:DV):cz [a0,a1,a2,a3,a4,a5,a6,a7,a8,a9,bj,bu,a12]=[a0,a1,a2,a3,a4,a5,a6,a7,a8,a9,bj,bu,a12]:=rfl
theorem Hd(a0 a1 a2 a3 a4 a5 a6 a7 a8 a9 bj bu a12 bD:DV):cz [a0,a1,a2,a3,a4,a5,a6,a7,a8,a9,bj,bu,a12,bD]=[a0,a1,a2,a3,a4,a5,a6,a7,a8,a9,bj,bu,a12,bD]:=rfl
theorem Ii(a0 a1 a2 a3 a4 a5 a6 a7 a8 a9 bj bu a12 bD bJ:DV):cz [a0,a1,a2,a3,a4,a5,a6,a7,a8,a9,bj,bu,a12,bD,bJ]=[a0,a1,a2,a3,a4,a5,a6,a7,a8,a9,bj,bu,a12,bD,bJ]:=rfl
attribute [go_sem] Dt Du EO CY D9 Dj DH EA Dg E1 Dq Gi IK FP Dz Fp Gb El E4 CS F3 IB C7 Dn Am Cg BF B2 B7 Ad B5 Bi BG Ao BM Cq LX Km Ku JT Kr JS J4 Ke Lr LG Kv L2 Hu Gy GY Ir Hd Ii
end Aml
namespace Aml
open Go Go.RowKit
def j9(P:Program)(w0:W0)(S:St)(ops:Array Oper)(K:List DV→St→Prop):List Oper→List DV→Prop
 |[],fr=>K fr S
 |o::rest,fr=>cD (oQ o.op)
  (bl ops fr o.guard (fun fr=>aX P w0 o.op fr S fun d=>j9 P w0 S ops K rest (pt fr o.dst d)) (fun fr=>j9 P w0 S ops K rest (pt fr o.dst ud)))
  (qO P w0 ops K (o::rest) fr S)
section
variable {P:Program} {w0:W0}
theorem j8{S:St}{ops:Array Oper}{K:List DV→St→Prop}:∀{l:List Oper} {fr:List DV},l.all (fun o=>eE o.op)=true→j9 P w0 S ops K l fr→LQ P w0 S ops (fun fr=>qO P w0 ops K (l.drop (jG l)) fr S) (l.take (jG l)) fr
 |[],fr,_,h=>h
 |o::rest,fr,hs,h=>by
  simp only[SU,Rm]at hs;unfold j9 cD at h
  cases hq:oQ o.op with
  |true=>
   rw[hq]at h;simp only at h;have e:jG (o::rest)=jG rest+1:=by simp[jG,Tn,hq]
   rw[e,List.take_succ_cons,List.drop_succ_cons];refine eA (fun fr h=>?_) (fun fr h=>j8 hs.2 h) h;obtain⟨d,q1,q2⟩:=iQ hs.1 h;exact⟨d,q1,j8 hs.2 q2⟩
  |false=>
   rw[hq]at h;have e:jG (o::rest)=0:=by simp[jG,Tn,hq]
   rw[e];exact h
theorem wU{S:St}{a b:Array Oper}{K:List DV→Prop}:∀{l:List Oper} {fr:List DV},(∀o,o∈l→∀j want,o.guard=some (j,want)→a[j]? =b[j]?)→LQ P w0 S a K l fr→LQ P w0 S b K l fr
 |[],fr,_,h=>h
 |o::rest,fr,hg,h=>by
  have h':bl a fr o.guard (fun fr=>∃d,QY P w0 S o fr d∧LQ P w0 S b K rest (pt fr o.dst d)) (fun fr=>LQ P w0 S b K rest (pt fr o.dst ud)):=
   eA (fun fr ⟨d,q1,q2⟩=>⟨d,q1,wU (fun o ho=>hg o (Rr _ ho)) q2⟩) (fun fr h=>wU (fun o ho=>hg o (Rr _ ho)) h) h
  unfold bl at h';show bl b fr o.guard _ _;unfold bl
  cases hgo:o.guard with
  |none=>rw[hgo]at h';exact h'
  |some p=>
   obtain⟨j,want⟩:=p;rw[hgo]at h';simp only at h' ⊢;rw[←hg o Rx j want hgo];exact h'
theorem Cr{id:Nat}{l:List Oper}{fr:List DV}{S:St}{Q:Exit→List DV→St→Prop}(hm:P.follows .mixedOrders=true)(hB:Region.lexB .any (l.take (jG l)).toArray=true)(hT:mK .any l.toArray (jG l)=true)(hs:l.all (fun o=>eE o.op)=true)
 (h:j9 P w0 S l.toArray (fun fr S=>Q .normal fr S) l fr):fK P w0 (.region id l.toArray true) fr S Q:=by
 have hn:jG l≤l.length:=by
  unfold jG;exact List.Sublist.length_le (List.takeWhile_sublist _)
 refine z7 (jG l) hn hm hB hT hs (wU ?_ (j8 hs h));intro o ho j want hg;simp only[mK,Rm]at hT;have:=RD.1 hT.2 o (by simpa using ho);simp only[hg,decide_eq_true_eq]at this;simp[Sn,this]
def AL(P:Program)(w0:W0)(fr:List DV)(S:St)[c:Cn (Code×(Exit→List DV→St→Prop))]:Prop:=fK P w0 c.k.1 fr S c.k.2
def vw(P:Program)(w0:W0)(ss:List Nat):Code→List DV→St→(Exit→List DV→St→Prop)→Prop
 | .skip,fr,S,Q=>Q .normal fr S
 | .seq x y,fr,S,Q=>vw P w0 ss x fr S (jQ (fun fr S=>vw P w0 ss y fr S Q) Q)
 | .cond c x y,fr,S,Q=>de (ev fr c) (vw P w0 ss x fr S Q) (vw P w0 ss y fr S Q)
 | .block n c,fr,S,Q=>cD (ss.contains (n+1000)) (@AL P w0 fr S ⟨((.block n c),Q)⟩) (vw P w0 ss c fr S (ij n Q))
 | .exit n,fr,S,Q=>Q (.exit n) fr S
 | .ret,fr,S,Q=>Q .ret fr S
 | .region n ops dr,fr,S,Q=>cD (ss.contains n) (@AL P w0 fr S ⟨((.region n ops dr),Q)⟩)
  (cD dr (j9 P w0 S ops (fun fr S=>Q .normal fr S) ops.toList fr) (qO P w0 ops (fun fr S=>Q .normal fr S) ops.toList fr S))
 |c,fr,S,Q=>@AL P w0 fr S ⟨(c,Q)⟩
/- How it goes. -/
section
variable {P:Program} {w0:W0} {ss:List Nat} {fr:List DV} {S:St} {Q:Exit→List DV→St→Prop}
theorem A0:vw P w0 ss .skip fr S Q=Q .normal fr S:=rfl
theorem FF(x y:Code):vw P w0 ss (.seq x y) fr S Q=vw P w0 ss x fr S (jQ (fun fr S=>vw P w0 ss y fr S Q) Q):=rfl
theorem Aw(c:Operand)(x y:Code):vw P w0 ss (.cond c x y) fr S Q=de (ev fr c) (vw P w0 ss x fr S Q) (vw P w0 ss y fr S Q):=rfl
theorem wB(n:Nat)(c:Code):vw P w0 ss (.block n c) fr S Q=cD (ss.contains (n+1000)) (@AL P w0 fr S ⟨((.block n c),Q)⟩) (vw P w0 ss c fr S (ij n Q)):=rfl
theorem AT(n:Nat):vw P w0 ss (.exit n) fr S Q=Q (.exit n) fr S:=rfl
theorem DT:vw P w0 ss .ret fr S Q=Q .ret fr S:=rfl
def fP(fr:List DV)(F:List DV→Prop):Prop:=F fr
@[congr] theorem Oy {fr fr':List DV} {F:List DV→Prop} (h:fr=fr'):fP fr F=fP fr' F:=by cases h;rfl
theorem G8(d:DV)(fr:List DV)(F:List DV→Prop):fP (d::fr) F=F (d::fr):=rfl
theorem xP(r:Om)(fr:List DV)(F:List DV→Prop):fP (rc r fr) F=F (rc r fr):=rfl
attribute [go_sem ↓] G8 xP
theorem AB(n:Nat)(l:List Oper):vw P w0 ss (.region n l.toArray false) fr S Q=cD (ss.contains n) (@AL P w0 fr S ⟨((.region n l.toArray false),Q)⟩) (qO P w0 l.toArray (fun fr S=>fP fr fun fr=>Q .normal fr S) l fr S):=by simp[vw,cD,fP]
theorem Bt(n:Nat)(l:List Oper):vw P w0 ss (.region n l.toArray true) fr S Q=cD (ss.contains n) (@AL P w0 fr S ⟨((.region n l.toArray true),Q)⟩) (j9 P w0 S l.toArray (fun fr S=>fP fr fun fr=>Q .normal fr S) l fr):=by simp[vw,cD,fP]
section
variable {ops:Array Oper} {K:List DV→St→Prop} {rest:List Oper} {dst:Option Tmp} {op:Op} {ty:TypeId} {pos:String} {aft:Array Edge}
theorem CM:j9 P w0 S ops K [] fr=K fr S:=rfl
theorem Ch:j9 P w0 S ops K (⟨dst,op,ty,pos,aft,none⟩::rest) fr=cD (oQ op) (aX P w0 op fr S fun d=>j9 P w0 S ops K rest (pt fr dst d)) (qO P w0 ops K (⟨dst,op,ty,pos,aft,none⟩::rest) fr S):=rfl
theorem z6(j:Nat)(want:Bool):j9 P w0 S ops K (⟨dst,op,ty,pos,aft,some (j,want)⟩::rest) fr=cD (oQ op) (gK ((ops[j]?).bind (·.dst)) fr want (fun fr=>aX P w0 op fr S fun d=>j9 P w0 S ops K rest (pt fr dst d)) (fun fr=>j9 P w0 S ops K rest (pt fr dst ud))) (qO P w0 ops K (⟨dst,op,ty,pos,aft,some (j,want)⟩::rest) fr S):=by
 rw[←tC];rfl
end
def Jp(l:List Oper)(F:List Oper→Prop):Prop:=F l
@[congr] theorem Oa {l l':List Oper} {F:List Oper→Prop} (h:l=l'):Jp l F=Jp l' F:=by cases h;rfl
theorem Bu(c:Code):vw P w0 ss (.loop c) fr S Q= @AL P w0 fr S ⟨((.loop c),Q)⟩:=rfl
@[congr] theorem QB {c:Code} {fr':List DV} {S':St} (h1:fr=fr') (h2:S=S'):vw P w0 ss c fr S Q=vw P w0 ss c fr' S' Q:=by cases h1;cases h2;rfl
@[congr] theorem Px {ops:Array Oper} {K:List DV→St→Prop} {l:List Oper} {fr':List DV} {S':St} (h1:fr=fr') (h2:S=S'):j9 P w0 S ops K l fr=j9 P w0 S' ops K l fr':=by cases h1;cases h2;rfl
@[congr] theorem PH {c:Code} {fr':List DV} {S':St} (h1:fr=fr') (h2:S=S'):fK P w0 c fr S Q=fK P w0 c fr' S' Q:=by cases h1;cases h2;rfl
end
attribute [go_sem] List.contains_nil List.contains_cons
attribute [go_sem ↓] CM Ch z6 A0 FF Aw wB AT DT AB Bt Bu
section
variable {md:Region.Mode} {ops:Array Oper}
def Gc(md:Region.Mode)(ops:Array Oper):Nat→List Oper→Bool
 |_,[]=>true
 |k,o::l=>o.after.toList.all (fun e=>!Region.binds md e||decide (e.on<k))&&l.all (fun oj=>oj.after.toList.any (fun e=>Region.binds md e&&e.on==k)||o.apart ops oj)&&Gc md ops (k+1) l
theorem p0:∀(l:List Oper) (k:Nat) (listed:Array Bool),(∀j,l[j]? =ops[k+j]?)→listed.size=ops.size→(∀i,i<k→listed[i]? =some true)→(∀i,k≤i→i<ops.size→listed[i]? =some false)→Gc md ops k l=true→Region.lexFrom md ops l.length k listed=true
 |[],k,listed,hl,hs,h1,h2,_=>by
  simp only[Sf,Region.lexFrom]
  have:Region.ready md ops listed=[]:=List.eq_nil_iff_forall_not_mem.2 fun i hi=>by
   obtain⟨hun,o,ho,_⟩:=mem_ready.1 hi;rw[cc]at hun;rcases Sj i k with h|h
   ·rw[h1 i h]at hun;cases hun
   ·have:=hl (i-k);rw[show k+(i-k)=i by omega,ho]at this;simp at this
  rw[this];rfl
 |o::l,k,listed,hl,hs,h1,h2,hG=>by
  have h0:ops[k]? =some o:=by simpa using(hl 0).symm
  have hk:k<ops.size:=(Rq.1 h0).1;simp only[Gc,Rm]at hG;obtain⟨⟨ha,hb⟩,hc⟩:=hG;simp only[Ru,Region.lexFrom,Rm]
  have hr:k∈Region.ready md ops listed:=mem_ready.2 ⟨cc.2 (h2 k (Ro _) hk),o,h0,fun e he hbind=>by
   have:=RD.1 ha e (Array.mem_toList_iff.2 he);rw[hbind]at this;simp at this;exact bT.2 (h1 _ this)⟩
  refine⟨⟨by simpa using hr,?_⟩,?_⟩
  ·unfold Region.free;rw[h0];simp only[RD,Si];intro j hj;rcases Ti j k with h|h|h
   ·have:listed.getD j true=true:=by rw[RE,h1 j h];rfl
    simp[this]
   ·simp[h]
   ·have hj2:=hl (j-k);rw[show k+(j-k)=j by omega,show j-k=(j-k-1)+1 by omega,SE]at hj2;rw[←hj2]
    cases hq:l[j-k-1]? with
    |none=>simp
    |some oj=>
     have:=RD.1 hb oj (Rj hq);simp only[SF]at this ⊢;refine .inr ?_;rcases this with h|h
     ·refine .inl ?_;obtain⟨e,he,h⟩:=List.any_eq_true.1 h;exact Array.any_eq_true'.2 ⟨e,Array.mem_toList_iff.1 he,h⟩
     ·exact .inr h
  ·refine p0 l (k+1) _ (fun j=>?_) (by simpa using hs) (fun i hi=>?_) (fun i hi hi2=>?_) hc
   ·have:=hl (j+1);simpa[Sy,Te 1 j]using this
   ·rw[RF];by_cases h:k=i
    ·subst h;rw[if_pos rfl,if_pos (by omega)]
    ·rw[if_neg h];exact h1 i (by omega)
   ·rw[RF,if_neg (by omega)];exact h2 i (by omega) hi2
theorem yf{l:List Oper}(hs:Region.noSelect l.toArray=true)(h:Gc md l.toArray 0 l=true):Region.lexB md l.toArray=true:=by
 unfold Region.lexB;rw[hs,Tk];have:=p0 (md:=md) (ops:=l.toArray) l 0 (Array.replicate l.toArray.size false) (fun j=>by simp) (by simp) (fun i hi=>absurd hi (by omega)) (fun i _ hi=>by rw[TD,if_pos hi]) h;simpa using this
end
def sQ(ss:List Nat):Code→Bool
 | .seq x y=>sQ ss x&&sQ ss y
 | .cond _ x y=>sQ ss x&&sQ ss y
 | .block n c=>ss.contains (n+1000)||sQ ss c
 | .region n ops false=>ss.contains n||ops.toList.all (fun o=>eE o.op)
 | .region n ops true=>ss.contains n||(ops.toList.all (fun o=>eE o.op)&&Region.noSelect (ops.toList.take (jG ops.toList)).toArray&&Gc .any (ops.toList.take (jG ops.toList)).toArray 0 (ops.toList.take (jG ops.toList))&&mK .any ops (jG ops.toList))
 |_=>true
theorem aY{ss:List Nat}(hm:P.follows .mixedOrders=true):∀(c:Code) {fr:List DV} {S:St} {Q:Exit→List DV→St→Prop},sQ ss c=true→vw P w0 ss c fr S Q→fK P w0 c fr S Q
 | .skip,fr,S,Q,_,h=>Dw h
 | .seq x y,fr,S,Q,ho,h=>by
  simp only[sQ,Rm]at ho;exact Hp ((aY hm x ho.1 h).mono fun e fr S hq=>by cases e <;>first|exact aY hm y ho.2 hq|exact hq)
 | .cond c x y,fr,S,Q,ho,h=>by
  simp only[sQ,Rm]at ho;exact EE (yj (fun h=>aY hm x ho.1 h) (fun h=>aY hm y ho.2 h) h)
 | .block n c,fr,S,Q,ho,h=>by
  unfold vw cD at h;unfold sQ at ho;split at h
  ·exact h
  ·rename_i hn;rw[hn,Bool.false_or]at ho;exact AH (aY hm c ho h)
 | .exit n,fr,S,Q,_,h=>ET h
 | .ret,fr,S,Q,_,h=>IM h
 | .region n ops false,fr,S,Q,ho,h=>by
  unfold vw at h;unfold cD at h;unfold sQ at ho;split at h
  ·exact h
  rename_i hn;rw[hn,Bool.false_or]at ho;simp only at h;have:=gF _ ho h;have:=oW (id:=n) (l:=ops.toList) this;simpa using this
 | .region n ops true,fr,S,Q,ho,h=>by
  unfold vw at h;unfold cD at h;unfold sQ at ho;split at h
  ·exact h
  rename_i hn;rw[hn,Bool.false_or]at ho;simp only[Rm]at ho;simp only at h;have:=Cr (id:=n) (l:=ops.toList) (fr:=fr) (S:=S) (Q:=Q) hm (yf ho.1.1.2 ho.1.2) ho.2 ho.1.1.1 h;simpa using this
 | .loop c,fr,S,Q,_,h=>h
 | .rangeFunc f ps a b,fr,S,Q,_,h=>h
 | .scope c,fr,S,Q,_,h=>h
 | .label l,fr,S,Q,_,h=>h
 | .goto l,fr,S,Q,_,h=>h
 | .refuse w,fr,S,Q,_,h=>h
theorem yy(ss:List Nat){f:FuncId}{fn:Func}{c:Code}{rs:List ResultVar}{args:List DV}{S:St}{K:DV→St→Prop}(hm:P.follows .mixedOrders=true)(hf:P.funcs[f]? =some fn)(hb:fn.body=some c)(hrs:fn.results=rs.toArray)(hc:sQ ss c=true)
 (h:vw P w0 ss c (cz (args++List.replicate (fn.ntmps-args.length) ud)) S fun e fr S'=>(e= .normal∨e= .ret)∧jJ P fr S' rs fun d=>K d S'):ab P w0 f args S K:=
 oS hf hb hrs (aY hm c hc h)
end
end Aml
namespace Aml
open Go Go.RowKit
def Wk(d e:DV):Prop:=∀g u,aA g d u→aA g e u
def eR:List DV→List DV→Prop
 |[],[]=>True
 |d::ds,e::es=>Wk d e∧eR ds es
 |_,_=>False
theorem Wk.refl(d:DV):Wk d d:=fun _ _ h=>h
theorem Wk.trans{a b c:DV}(h:Wk a b)(k:Wk b c):Wk a c:=fun g u r=>k g u (h g u r)
theorem Wk.any(d:DV):Wk d .any:=fun g u _=> .any u
theorem Wk.nil(s s':Nat)(f:Bool):Wk (.sl s true []) (.sl s' f []):=fun g u r=>by
 obtain⟨o,h⟩:=cq r;rw[h];exact .nil _ _ _ _ fun _=>rfl
theorem Wk.full(s:Nat)(f:Bool)(xs:List DV):Wk (.sl s f xs) (.sl s false xs):=fun g u r=>by
 cases r with
 |nil _ _ o c hc=>exact .nil _ _ _ _ (by simp)
 |sl _ _ _ b o c us hl hf hc hm hr hz h1 hi=>exact .sl _ _ _ _ _ _ us hl (by simp) hc hm hr hz h1 hi
theorem eR.refl:∀ds,eR ds ds
 |[]=>trivial
 |d::ds=>⟨.refl d,eR.refl ds⟩
theorem eR.spec:∀{ds es:List DV},eR ds es→∀{g:Gh} {us:List Value},aa g ds us→aa g es us
 |[],[],_,_,_,r=>r
 |d::ds,e::es,h,g,us,r=>by
  obtain⟨u,us',rfl,r1,r2⟩:=r.ba;exact aa.cons (h.1 _ _ r1) (eR.spec h.2 r2)
theorem eR.length:∀{ds es:List DV},eR ds es→ds.length=es.length
 |[],[],_=>rfl
 |d::ds,e::es,h=>by simp[eR.length h.2]
theorem eR.trans:∀{a b c:List DV},eR a b→eR b c→eR a c
 |[],[],[],_,_=>trivial
 |_::_,_::_,_::_,h,k=>⟨h.1.trans k.1,h.2.trans k.2⟩
theorem Wk.agg{ds es:List DV}(h:eR ds es):Wk (.agg ds) (.agg es):=fun g u r=>by
 cases r with
 |agg _ us hl hr h1=>
  have:=h.spec (g:=g) (us:=us) ⟨hl,hr⟩;exact .agg _ _ this.len this.at_ h1
theorem Wk.bU{ds es:List DV}(h:eR ds es):Wk (.bU ds) (.bU es):=fun g u r=>by
 cases r with
 |bU _ us hl hr=>
  have:=h.spec (g:=g) (us:=us) ⟨hl,hr⟩;exact .bU _ _ this.len this.at_
theorem Wk.fN{t:TypeId}{d e:DV}(h:Wk d e):Wk (.fN t d) (.fN t e):=fun g u r=>by
 cases r with
 |fN _ _ u r=>exact .fN _ _ _ (h _ _ r)
theorem Wk.sl{s:Nat}{f:Bool}{xs ys:List DV}(h:eR xs ys):Wk (.sl s f xs) (.sl s f ys):=fun g u r=>by
 cases r with
 |nil _ _ o c hc=>
  cases ys with
  |nil=>exact .nil _ _ _ _ hc
  |cons y ys=>exact h.elim
 |sl _ _ _ b o c us hl hf hc hm hr hz h1 hi=>
  have:=h.spec (g:=g) (us:=us) ⟨hl,hr⟩;exact .sl _ _ _ _ _ _ us this.len hf hc hm this.at_ hz h1 hi
theorem eR.map{α:Type}{f g:α→DV}(h:∀a,Wk (f a) (g a)):∀(l:List α),eR (l.map f) (l.map g)
 |[]=>trivial
 |a::l=>⟨h a,eR.map h l⟩
theorem eR.nil:eR [] []:=trivial
theorem eR.cons{d e:DV}{ds es:List DV}(h:Wk d e)(k:eR ds es):eR (d::ds) (e::es):=⟨h,k⟩
theorem Fq(d e:DV)(ds es:List DV):eR (d::ds) (e::es)=(Wk d e∧eR ds es):=rfl
theorem G2:eR [] []=True:=rfl
theorem Lj(a0 a1 a2 a3 a4 a5 a6 a7 a8 a9 bj bu a12 bD bJ bO:DV)(b0 b1 b2 b3 b4 b5 b6 b7 b8 b9 b10 b11 b12 b13 b14 b15:DV)(l m:List DV):eR (rc ⟨a0,a1,a2,a3,a4,a5,a6,a7,a8,a9,bj,bu,a12,bD,bJ,bO⟩ l) (rc ⟨b0,b1,b2,b3,b4,b5,b6,b7,b8,b9,b10,b11,b12,b13,b14,b15⟩ m)=(Wk a0 b0∧Wk a1 b1∧Wk a2 b2∧Wk a3 b3∧Wk a4 b4∧Wk a5 b5∧Wk a6 b6∧Wk a7 b7∧Wk a8 b8∧Wk a9 b9∧Wk bj b10∧Wk bu b11∧Wk a12 b12∧Wk bD b13∧Wk bJ b14∧Wk bO b15∧eR l m):=rfl
theorem GH(d:DV):Wk d d=True:=eq_true (.refl d)
theorem LU{u u':Value}(h:u.oneCell'=true):Wk (.v u) (.v u')↔u=u':=
 ⟨fun k=>by have:=k ⟨fun _ _=>none,fun _ _=>none,fun _=>none,[]⟩ u (.v u h);cases this;rfl,fun e=>e▸ .refl _⟩
theorem KR(k:IntKind)(a b:Int):Wk (.v (.int k a)) (.v (.int k b))=(a=b):=propext ((LU rfl).trans ⟨fun h=>(Value.int.inj h).2,fun h=>by rw[h]⟩)
theorem I0(a b:Bool):Wk (.v (.bool a)) (.v (.bool b))=(a=b):=propext ((LU rfl).trans ⟨fun h=>Value.bool.inj h,fun h=>by rw[h]⟩)
theorem J8(a b:ByteArray):Wk (.v (.string a)) (.v (.string b))=(a=b):=propext ((LU rfl).trans ⟨fun h=>Value.string.inj h,fun h=>by rw[h]⟩)
section
variable {P:Program} {w0:W0}
theorem rF{f:FuncId}{args args':List DV}{S:St}{K K':DV→St→Prop}(h:ab P w0 f args' S K')(ha:eR args args')(hk:∀d S',K' d S'→∃e,Wk d e∧K e S'):ab P w0 f args S K:=
 fun g vs w h1 h2=>(h g vs w h1 (ha.spec h2)).mono fun e w' k=>k.imp (.refl _) fun r g' d S' q2 q3 q4 q5=>
  let⟨e',k1,k2⟩:=hk _ _ q5
  ⟨g',e',S',q2,q3,k1 _ _ q4,k2⟩
theorem mh{f:FuncId}{args args':List DV}{S:St}{K:DV→St→Prop}{r:DV}(h:ab P w0 f args' S (fun d S'=>d=r∧S'=S))(ha:eR args args')(hk:K r S):ab P w0 f args S K:=
 rF h ha fun d S' ⟨h1,h2⟩=>⟨d,.refl d,by rw[h1,h2];exact hk⟩
theorem aq{f:FuncId}{args args':List DV}{S:St}{K:DV→St→Prop}{r:DV}(h:ab P w0 f args' S (fun d S'=>d=r∧S'=S))(hk:K r S)(ha:eR args args':=by exact eR.refl _):@AC P w0 f args S ⟨K⟩:=mh h ha hk
theorem bQ{f:FuncId}{args args':List DV}{S:St}{K K':DV→St→Prop}(h:ab P w0 f args' S K')(hk:∀d S',K' d S'→K d S')(ha:eR args args':=by exact eR.refl _):@AC P w0 f args S ⟨K⟩:=rF h ha fun d S' q=>⟨d,.refl d,hk d S' q⟩
theorem dL{f:FuncId}{args args':List DV}{S:St}{K:DV→Prop}{r:DV}(h:ab P w0 f args' S (fun d S'=>d=r∧S'=S))(hk:K r)(ha:eR args args':=by exact eR.refl _):@QC P w0 f args S ⟨K⟩:=
 ⟨r,mh h ha ⟨rfl,rfl⟩,hk⟩
structure Sub(S S':St):Prop where
 box:S.box.Sublist S'.box
 acc:S.acc.Sublist S'.acc
theorem Sub.refl(S:St):Sub S S:=⟨TN _,TN _⟩
theorem Sub.oL{S:St}{B:List (Nat×List DV)}{A:List (Nat×Ob)}{x:Nat×List DV}(h:Sub S ⟨B,A⟩):Sub S ⟨x::B,A⟩:=⟨h.box.cons _,h.acc⟩
theorem Sub.NI{S:St}{B:List (Nat×List DV)}{A:List (Nat×Ob)}{x:Nat×Ob}(h:Sub S ⟨B,A⟩):Sub S ⟨B,x::A⟩:=⟨h.box,h.acc.cons _⟩
theorem F8(S:St):Sub S S=True:=eq_true (.refl S)
theorem JR(S:St){B:List (Nat×List DV)}{A:List (Nat×Ob)}(x:Nat×List DV)(h:Sub S ⟨B,A⟩):Sub S ⟨x::B,A⟩=True:=eq_true h.oL
theorem L3(S:St){B:List (Nat×List DV)}{A:List (Nat×Ob)}(x:Nat×Ob)(h:Sub S ⟨B,A⟩):Sub S ⟨B,x::A⟩=True:=eq_true h.NI
theorem Je{σ:Type}(live:List Nat)(cU:σ→List (Nat×DV))(st:σ→St)(inv:σ→Prop)(meas:σ→Nat)(s0:σ){c:Code}{fr:List DV}{S:St}{Q:Exit→List DV→St→Prop}
 (h0:inv s0∧eR (wk live fr) (jB (wk live fr) (cU s0))∧Sub (st s0) S)
 (round:∀s,inv s→fK P w0 c (jB (wk live fr) (cU s)) (st s) (jQ (fun fr' S'=>∃s',inv s'∧meas s'<meas s∧eR (wk live fr') (jB (wk live fr) (cU s'))∧Sub (st s') S') Q)):
 fK P w0 (.loop c) fr S Q:=by
 intro g a w h1 h2 h3;refine kC (fun m a w=>Dk w0 g a w∧∃g' s,g.le g'∧Rel w0 g' (st s) w∧aa g' (jB (wk live fr) (cU s)) a.tmps.toList∧inv s∧meas s=m) (m:=meas s0) ⟨h3,g,s0,.refl g,h1.forget h0.2.2.box h0.2.2.acc,h0.2.1.spec (fV live h2),h0.1,rfl⟩ ?_;rintro m a w ⟨hd,g',s,k1,k2,k3,k4,rfl⟩;refine bC (round s k4 g' a w k2 k3 (k1.dk hd)) ?_;rintro e a' w' ⟨hd',g'',fr'',S'',q1,q2,q3,q4⟩
 cases e with
 |normal=>
  obtain⟨s',hi,hm,hf,hS⟩:=q4;exact⟨meas s',hm,k1.kd hd',g'',s',k1.trans q1,q2.forget hS.box hS.acc,hf.spec (fV live q3),hi,rfl⟩
 |exit n=>exact⟨k1.kd hd',g'',fr'',S'',k1.trans q1,q2,q3,q4⟩
 |goto n=>exact⟨k1.kd hd',g'',fr'',S'',k1.trans q1,q2,q3,q4⟩
 |ret=>exact⟨k1.kd hd',g'',fr'',S'',k1.trans q1,q2,q3,q4⟩
 |panic ch=>exact⟨k1.kd hd',g'',fr'',S'',k1.trans q1,q2,q3,q4⟩
 |outgrown=>exact⟨k1.kd hd',g'',fr'',S'',k1.trans q1,q2,q3,q4⟩
theorem bS{σ:Type}(ss:List Nat:=[])(live:List Nat)(cU:σ→List (Nat×DV))(st:σ→St)(inv:σ→Prop)(meas:σ→Nat)(s0:σ){c:Code}{fr:List DV}{S:St}{Q:Exit→List DV→St→Prop}(hm:P.follows .mixedOrders=true)(hc:sQ ss c=true)
 (h0:inv s0∧eR (wk live fr) (jB (wk live fr) (cU s0))∧Sub (st s0) S)
 (round:∀s,inv s→vw P w0 ss c (jB (wk live fr) (cU s)) (st s) (jQ (fun fr' S'=>∃s',inv s'∧meas s'<meas s∧eR (wk live fr') (jB (wk live fr) (cU s'))∧Sub (st s') S') Q)):
 fK P w0 (.loop c) fr S Q:=Je live cU st inv meas s0 h0 fun s hs=>aY hm c hc (round s hs)
theorem Nn{σ:Type}(ss:List Nat:=[])(live:List Nat)(cU:σ→List (Nat×DV))(st:σ→St)(inv:σ→Prop){c:Code}{fr:List DV}{S:St}{Q:Exit→List DV→St→Prop}(hm:P.follows .mixedOrders=true)(hc:sQ ss c=true)
 (h1:vw P w0 ss c fr S (jQ (fun fr' S'=>∃s,inv s∧eR (wk live fr') (jB (wk live fr) (cU s))∧Sub (st s) S') Q))
 (h2:∀s,inv s→Q .normal (jB (wk live fr) (cU s)) (st s)):fK P w0 c fr S Q:=by
 intro g a w q1 q2 q3;refine bC (aY hm c hc h1 g a w q1 q2 q3) ?_;rintro e a' w' ⟨hd,g',fr',S',k1,k2,k3,k4⟩
 cases e with
 |normal=>
  obtain⟨s,hi,hw,hS⟩:=k4;exact⟨hd,g',_,_,k1,k2.forget hS.box hS.acc,hw.spec (fV live k3),h2 s hi⟩
 |exit n=>exact⟨hd,g',fr',S',k1,k2,k3,k4⟩
 |goto n=>exact⟨hd,g',fr',S',k1,k2,k3,k4⟩
 |ret=>exact⟨hd,g',fr',S',k1,k2,k3,k4⟩
 |panic ch=>exact⟨hd,g',fr',S',k1,k2,k3,k4⟩
 |outgrown=>exact⟨hd,g',fr',S',k1,k2,k3,k4⟩
theorem bw(ss:List Nat:=[])(n:Nat)(live:List Nat)(cU:Nat→List (Nat×DV))(st:Nat→St)(inv:Nat→Prop){c:Code}{fr:List DV}{S:St}{Q:Exit→List DV→St→Prop}(hm:P.follows .mixedOrders=true)(hc:sQ ss c=true)
 (h0:inv 0∧eR (wk live fr) (jB (wk live fr) (cU 0))∧Sub (st 0) S)
 (round:∀k,k≤n→inv k→vw P w0 ss c (jB (wk live fr) (cU k)) (st k) (jQ (fun fr' S'=>k<n∧inv (k+1)∧eR (wk live fr') (jB (wk live fr) (cU (k+1)))∧Sub (st (k+1)) S') Q)):
 fK P w0 (.loop c) fr S Q:=by
 refine Je live cU st (fun k=>k≤n∧inv k) (fun k=>n-k) 0 ⟨⟨RL _,h0.1⟩,h0.2⟩ ?_;rintro k ⟨h1,h2⟩;refine(aY hm c hc (round k h1 h2)).mono ?_;intro e fr' S' q
 cases e with
 |normal=>
  obtain⟨q1,q2,q3,q4⟩:=q;exact⟨k+1,⟨q1,q2⟩,by omega,q3,q4⟩
 |exit n=>exact q
 |goto n=>exact q
 |ret=>exact q
 |panic ch=>exact q
 |outgrown=>exact q
theorem cR(ss:List Nat:=[]){f:FuncId}{fn:Func}{c:Code}{rs:List ResultVar}{args:List DV}{S:St}{r:DV}(hm:P.follows .mixedOrders=true)(hf:P.funcs[f]? =some fn)(hb:fn.body=some c)(hrs:fn.results=rs.toArray)(hc:sQ ss c=true)
 (h:vw P w0 ss c (cz (args++List.replicate (fn.ntmps-args.length) ud)) S fun e fr S'=>(e= .normal∨e= .ret)∧jJ P fr S' rs fun d=>qe S' d fun d S''=>Wk d r∧Sub S S''):ab P w0 f args S (fun d S'=>d=r∧S'=S):=by
 have h1:ab P w0 f args S (fun d S'=>qe S' d fun d S''=>Wk d r∧Sub S S''):=oS hf hb hrs (aY hm c hc h);intro g vs w k1 k2;refine(h1 g vs w k1 k2).mono ?_;intro e w' k;refine k.imp (.refl _) ?_;rintro v g' d S' q2 q3 q4 q5;obtain⟨g2,d',S2,p1,p2,p3,p4,p5⟩:=IF q3 q4 q5;exact⟨g2,r,S,q2.trans p1,p2.forget p5.box p5.acc,p4 _ _ p3,rfl,rfl⟩
theorem _root_.Aml.Rel.zw{g:Gh}{S:St}{w:World}(h:Rel w0 g S w){b:Nat}{ds ds':List DV}(hl:lk S.box b=some ds)(hw:∀us e,w.heap[b]? =some (.cells us e (0,0))→aa g ds us.toList→aa g ds' us.toList):Rel w0 g ⟨up S.box b ds',S.acc⟩ w:=by
 refine⟨h.below,h.aO,by rw[iN];exact h.nb,h.na,h.df,h.fresh,h.top,?_⟩;obtain⟨ow,o1,o2⟩:=h.own;refine⟨ow,fun b' e hm=>?_,o2⟩;rcases dG h.nb hm with he|⟨hm,_⟩
 ·cases he;obtain⟨q1,q2,q3,us,e,q4,q5,q6⟩:=o1 _ _ (bd hl);exact⟨q1,q2,q3,us,e,q4,hw _ _ q4 q5,q6⟩
 ·exact o1 _ _ hm
theorem dT(b j s:Nat)(hs:0<s){c:Code}{fr:List DV}{S:St}{Q:Exit→List DV→St→Prop}{ds:List DV}{s0:Nat}(hb:lk S.box b=some ds)(hi:ds[j]? =some (.sl s0 true []))
 (h:∀l:FN S.acc,fK P w0 c fr ⟨up S.box b (ds.set j (.acc l.n 0)),(l.n,.arr s [])::S.acc⟩ Q):fK P w0 c fr S Q:=by
 intro g a w h1 h2 h3;obtain⟨ow,o1,o2⟩:=h1.own;obtain⟨q1,q2,q3,us,e,q4,q5,q6⟩:=o1 _ _ (bd hb);have hlt:j<us.toList.length:=by rw[←q5.len];exact(Rp.1 hi).1
 have hr:=q5.at_ j _ _ hi (so hlt);have hr':aA g (.sl s true []) us.toList[j]:=by obtain⟨o',ho'⟩:=cq hr;rw[ho'];exact .nil _ _ _ _ fun _=>rfl
 obtain⟨l,g',hle,hne,hR,hA⟩:=h1.oX hs hr' (.arr s []) (.inr ⟨rfl,rfl⟩);have hR':=hR.zw (ds':=ds.set j (.acc l 0)) (b:=b) hb ?_
 ·exact bC (h ⟨l,bN hne⟩ g' a w hR' (h2.mono hle) (hle.dk h3)) fun _ _ _ k=>k.of_le hle
 ·intro us' e' hh hr2;rw[hh]at q4;cases q4;exact fc hr2 (so hlt) hA
theorem vU(i s:Nat){c:Code}{fr:List DV}{S:St}{Q:Exit→List DV→St→Prop}{s0:Nat}(hi:fr[i]? =some (.sl s0 true []))(hs:0<s)
 (h:∀l:FN S.acc,fK P w0 c (fr.set i (.acc l.n 0)) ⟨S.box,(l.n,.arr s [])::S.acc⟩ Q):fK P w0 c fr S Q:=F9 i s hs hi fun l hl=>h ⟨l,hl⟩
end
attribute [go_sem high] F8
attribute [go_sem] Lj JR L3 Fq G2 GH KR I0 J8
structure Wr(P:Prop):Prop where
 h:P
end Aml
namespace Aml
open Go Go.RowKit
section
variable {P:Program} {w0:W0}
theorem H4{fr:List DV}{S:St}{K:DV→St→Prop}(x:Operand):aL P w0 (.panic x) fr S K=oM w0 (ev fr x) S:=rfl
theorem vC(t:TypeId)(d:DV)(S:St):oM w0 (.fN t d) S=w0.pq (.fN t d) S:=rfl
attribute [go_sem ↓] H4 vC
theorem Oq(ss:List Nat:=[]){f:FuncId}{fn:Func}{c:Code}{rs:List ResultVar}{args:List DV}{S:St}{K:DV→St→Prop}(hm:P.follows .mixedOrders=true)(hf:P.funcs[f]? =some fn)(hb:fn.body=some c)(hrs:fn.results=rs.toArray)(hc:sQ ss c=true)
 (h:vw P w0 ss c (cz (args++List.replicate (fn.ntmps-args.length) ud)) S fun e fr S'=>(e= .normal∨e= .ret)∧jJ P fr S' rs fun d=>∃d' S'',Wk d d'∧Sub S'' S'∧K d' S''):ab P w0 f args S K:=by
 have h1:ab P w0 f args S (fun d S'=>∃d' S'',Wk d d'∧Sub S'' S'∧K d' S''):=oS hf hb hrs (aY hm c hc h);intro g vs w k1 k2;refine(h1 g vs w k1 k2).mono ?_;intro e w' k;refine k.imp (.refl _) ?_;rintro v g' d S' q2 q3 q4 ⟨d',S'',p1,p2,p3⟩;exact⟨g',d',S'',q2,q3.forget p2.box p2.acc,p1 _ _ q4,p3⟩
theorem Lv(b:Nat)(ds':List DV){ds:List DV}{c:Code}{fr:List DV}{S:St}{Q:Exit→List DV→St→Prop}(hb:lk S.box b=some ds)(hw:eR ds ds')(h:fK P w0 c fr ⟨up S.box b ds',S.acc⟩ Q):fK P w0 c fr S Q:=
 fun g a w h1 h2 h3=>h g a w (h1.zw hb fun _ _ _ r=>hw.spec r) h2 h3
end
end Aml
