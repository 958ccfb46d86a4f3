/-
  Part 4 of the proof that the last text ends: from 'Reckoning over statements whose order is open' to 'More forms of functions'. By an AI agent.
-/
import Derived.Test.YtoepfmhnapedoaaGreatDoorMI3
set_option linter.unusedVariables false
set_option linter.unusedSimpArgs false
set_option maxRecDepth 100000
set_option maxHeartbeats 16000000
namespace Aml
open Go Go.RowKit
section
variable {P:Program} {w0:W0} {S:St} {K:DV→Prop}
theorem oW{c a b:DV}(h:fI c a b K):∃d,fI c a b (·=d)∧K d:=by
 unfold fI at*;split at h
 ·rename_i t;cases t
  ·exact⟨b,⟨by simp,fun _=>rfl⟩,h.2 rfl⟩
  ·exact⟨a,⟨fun _=>rfl,by simp⟩,h.1 rfl⟩
 ·exact h.elim
theorem LV{ds:List DV}(h:Ku ds K):∃d,Ku ds (·=d)∧K d:=by
 unfold Ku at*;split at h
 ·exact⟨_,rfl,h⟩
 ·exact h.elim
theorem sQ{k:TK}{ds:List DV}(h:l4 k ds K):∃d,l4 k ds (·=d)∧K d:=by
 unfold l4 at*;split at h
 ·exact⟨_,⟨h.1,rfl⟩,h.2⟩
 ·exact⟨_,⟨h.1,rfl⟩,h.2⟩
 ·exact h.elim
 ·exact LV h
theorem uy{k:TK}{x:DV}(h:ca k S x K):∃d,ca k S x (·=d)∧K d:=by
 unfold ca at*;split at h
 ·split at h
  ·rename_i hb;(try simp only[hb]);exact sQ h
  ·exact h.elim
 ·exact sQ h
 ·split at h
  ·rename_i hb;obtain⟨h1,h2,d,h3,h4,h5⟩:=h;obtain⟨e,q1,q2⟩:=sQ h5;exact⟨e,by first|exact⟨h1,h2,d,h3,h4,q1⟩|(simp only[hb];exact⟨h1,h2,d,h3,h4,q1⟩),q2⟩
  ·rename_i hb;obtain⟨h1,h2,d,h3,h4,h5⟩:=h;obtain⟨e,q1,q2⟩:=sQ h5;exact⟨e,by first|exact⟨h1,h2,d,h3,h4,q1⟩|(simp only[hb];exact⟨h1,h2,d,h3,h4,q1⟩),q2⟩
  ·exact h.elim
 ·exact h.elim
theorem l5{k:TK}{f:Nat}{x:DV}(h:ee k f x K):∃d,ee k f x (·=d)∧K d:=by
 unfold ee at*;split at h
 ·split at h
  ·rename_i hf
   try simp only[hf]
   obtain⟨h1,h⟩:=h;split at h
   ·exact⟨_,⟨h1,rfl⟩,h⟩
   ·exact⟨_,⟨h1,h.1,rfl⟩,h.2⟩
   ·exact⟨_,⟨h1,rfl⟩,h⟩
   ·exact h.elim
  ·exact h.elim
 ·exact h.elim
theorem bE{k:TK}{x i:DV}(h:aB k x i K):∃d,aB k x i (·=d)∧K d:=by
 unfold aB at*;split at h
 ·split at h
  ·obtain⟨h1,h2,h3,h4⟩:=h;rename_i z _ _ _ xs;have hlt:z.toNat<xs.length:=by omega
   obtain⟨h5,h6⟩:=h4 _ (Wb hlt);exact⟨_,⟨h1,h2,h3,fun d hd=>by rw[Wb hlt]at hd;cases hd;exact⟨h5,rfl⟩⟩,h6⟩
  ·exact⟨_,⟨h.1,h.2.1,rfl⟩,h.2.2⟩
  ·exact⟨_,⟨h.1,h.2.1,rfl⟩,h.2.2⟩
  ·exact h.elim
 ·obtain⟨h1,h2,h3,h4⟩:=h;split at h4
  ·exact⟨_,⟨h1,h2,h3,rfl⟩,h4⟩
  ·exact⟨_,⟨h1,h2,h3,h4.1,rfl⟩,h4.2⟩
  ·exact h4.elim
 ·exact h.elim
theorem yV{w0:W0}{fr:List DV}{x:Operand}{k:TK}{i:DV}(h:AZ w0 fr x fun d=>aB k d i K):∃d,(AZ w0 fr x fun d'=>aB k d' i (·=d))∧K d:=by
 cases x with
 |global b=>
  obtain⟨us,hg,h⟩:=h;obtain⟨d,q1,q2⟩:=bE h;exact⟨d,⟨us,hg,q1⟩,q2⟩
 |tmp n=>exact bE (x:=ev fr (.tmp n)) h
 |const u=>exact bE (x:=ev fr (.const u)) h
 |func f=>exact bE (x:=ev fr (.func f)) h
theorem mv{k:TK}{x i:DV}(h:gY k x i K):∃d,gY k x i (·=d)∧K d:=by
 unfold gY at*;split at h
 ·obtain⟨h1,h2,h3⟩:=h;rename_i s _ z;have hlt:z.toNat<s.data.toList.length:=by simp;have:s.data.size=s.size:=rfl;omega
  exact⟨_,⟨h1,h2,fun d hd=>by rw[Wb hlt]at hd;cases hd;rfl⟩,h3 _ (Wb hlt)⟩
 ·exact h.elim
theorem ky{k:TK}{f:Nat}{x:DV}(h:cO k f x K):∃d,cO k f x (·=d)∧K d:=by
 unfold cO at*;split at h
 ·split at h
  ·rename_i hf
   try simp only[hf]
   split at h
   ·obtain⟨h1,h⟩:=h;split at h
    ·exact⟨_,⟨h1,rfl⟩,h⟩
    ·split at h
     ·rename_i hd;(try simp only[hd]);exact⟨_,⟨h1,rfl⟩,h⟩
     ·exact h.elim
   ·exact h.elim
  ·exact h.elim
 ·exact h.elim
theorem jx{i:Nat}{x:DV}(h:bZ i x K):∃d,bZ i x (·=d)∧K d:=by
 unfold bZ at*;split at h
 ·split at h
  ·rename_i hd;(try simp only[hd]);exact⟨_,rfl,h⟩
  ·exact h.elim
 ·exact h.elim
theorem Fv{op:BinOp}{k:IntKind}{m n:Int}(h:jY op k m n K):∃d,jY op k m n (·=d)∧K d:=by
 cases op <;>simp only[jY]at h ⊢ <;>first|exact⟨_,rfl,h⟩|exact⟨_,⟨h.1,rfl⟩,h.2⟩
theorem Dd{op:BinOp}{x y:ByteArray}(h:fK op x y K):∃d,fK op x y (·=d)∧K d:=by
 cases op <;>simp only[fK]at h ⊢ <;>first|exact⟨_,rfl,h⟩|exact⟨_,⟨h.1,rfl⟩,h.2⟩
theorem Im{op:BinOp}{t:TK}{cx cy:Bool}{x y:DV}(h:iY op t cx cy x y K):∃d,iY op t cx cy x y (·=d)∧K d:=by
 unfold iY at*;split at h
 ·obtain⟨d,q1,q2⟩:=Fv h.2;exact⟨d,⟨h.1,q1⟩,q2⟩
 ·exact Dd h
 ·split at h <;>first|exact⟨_,rfl,h⟩|exact h.elim
 ·split at h <;>first|exact⟨_,⟨h.1,rfl⟩,h.2⟩|exact h.elim
 ·split at h <;>first|exact⟨_,rfl,h⟩|exact h.elim
 ·split at h <;>first|exact⟨_,rfl,h⟩|exact h.elim
 ·split at h <;>first|exact⟨_,⟨h.1,rfl⟩,h.2⟩|exact h.elim
 ·exact h.elim
theorem oZ{op:BinOp}{t:TypeId}{cx cy:Bool}{x y:DV}(h:gM P op t cx cy x y K):∃d,gM P op t cx cy x y (·=d)∧K d:=by
 unfold gM at*;split at h
 ·unfold je at*;split at h
  ·rename_i he;obtain⟨q,q1,q2⟩:=iP h;exact⟨_,fj (fun r e=>by rw[e]) q1,q2⟩
  ·rename_i he;obtain⟨q,q1,q2⟩:=iP h;exact⟨_,fj (fun r e=>by rw[e]) q1,q2⟩
  ·exact h.elim
 ·exact Im h
theorem wK{op:UnOp}{x:DV}(h:yY op x K):∃d,yY op x (·=d)∧K d:=by
 unfold yY at*;split at h <;>first|exact⟨_,rfl,h⟩|exact h.elim
theorem pA{a b:TK}{x:DV}(h:fA a b x K):∃d,fA a b x (·=d)∧K d:=by
 unfold fA at*;split at h <;>first|exact⟨_,rfl,h⟩|exact h.elim
theorem pK{fn:Fn}{a b:List DV}(h:jb fn a b K):∃d,jb fn a b (·=d)∧K d:=by
 unfold jb at*;split at h <;>first|exact⟨_,rfl,h⟩|exact h.elim
theorem dt{x:Option DV}{z:Int}{F:(DV→Prop)→Int→Prop}(hF:∀n,F K n→∃d,F (·=d) n∧K d)(h:jS x z (F K)):∃d,jS x z (F (·=d))∧K d:=by
 unfold jS at*;split at h <;>first|exact hF _ h|exact h.elim
theorem mA{k:TK}{x:DV}{lo hi mx:Option DV}(h:eR k x lo hi mx K):∃d,eR k x lo hi mx (·=d)∧K d:=by
 unfold eR at*;split at h
 ·obtain⟨h1,h⟩:=h;rename_i e s b s' f xs
  obtain⟨d,q1,q2⟩:=dt (F:=fun K l=>jS hi xs.length fun h=>jS mx h fun m=>0≤l∧l≤h∧h≤m∧m≤xs.length∧
   K (.sl s (if mx.isSome then decide (m=h)else(f&&(hi.isNone||xs.isEmpty))) ((xs.take h.toNat).drop l.toNat))) (fun l h=>dt (F:=fun K h=>jS mx h fun m=>0≤l∧l≤h∧h≤m∧m≤xs.length∧
   K (.sl s (if mx.isSome then decide (m=h)else(f&&(hi.isNone||xs.isEmpty))) ((xs.take h.toNat).drop l.toNat))) (fun hh h=>dt (F:=fun K m=>0≤l∧l≤hh∧hh≤m∧m≤xs.length∧
   K (.sl s (if mx.isSome then decide (m=hh)else(f&&(hi.isNone||xs.isEmpty))) ((xs.take hh.toNat).drop l.toNat))) (fun m h=>⟨_,⟨h.1,h.2.1,h.2.2.1,h.2.2.2.1,rfl⟩,h.2.2.2.2⟩) h) h) h
  exact⟨d,⟨h1,q1⟩,q2⟩
 ·obtain⟨h1,h⟩:=h;rename_i s
  obtain⟨d,q1,q2⟩:=dt (F:=fun K l=>jS hi s.size fun h=>0≤l∧l≤h∧h≤s.size∧K (.v (.string (s.extract l.toNat h.toNat)))) (fun l h=>dt (F:=fun K h=>0≤l∧l≤h∧h≤s.size∧K (.v (.string (s.extract l.toNat h.toNat))))
   (fun hh h=>⟨_,⟨h.1,h.2.1,h.2.2.1,rfl⟩,h.2.2.2⟩) h) h
  exact⟨d,⟨h1,q1⟩,q2⟩
 ·rename_i e s by' b o n c
  exact dt (F:=fun K l=>jS hi n fun h=>jS mx c fun m=>0≤l∧l≤h∧h≤m∧m≤c∧
   K (.v (.slice (some ⟨b,if m.toNat=l.toNat then o else o+l.toNat*s,none⟩) (h.toNat-l.toNat) (m.toNat-l.toNat)))) (fun l h=>dt (F:=fun K h=>jS mx c fun m=>0≤l∧l≤h∧h≤m∧m≤c∧
   K (.v (.slice (some ⟨b,if m.toNat=l.toNat then o else o+l.toNat*s,none⟩) (h.toNat-l.toNat) (m.toNat-l.toNat)))) (fun hh h=>dt (F:=fun K m=>0≤l∧l≤hh∧hh≤m∧m≤c∧
   K (.v (.slice (some ⟨b,if m.toNat=l.toNat then o else o+l.toNat*s,none⟩) (hh.toNat-l.toNat) (m.toNat-l.toNat)))) (fun m h=>⟨_,⟨h.1,h.2.1,h.2.2.1,h.2.2.2.1,rfl⟩,h.2.2.2.2⟩) h) h) h
 ·obtain⟨h1,h⟩:=h;rename_i n e s ag nn b o
  obtain⟨d,q1,q2⟩:=dt (F:=fun K l=>jS hi n fun h=>jS mx n fun m=>0≤l∧l≤h∧h≤m∧m≤n∧
   K (.v (.slice (some ⟨b,if m.toNat=l.toNat then o else o+l.toNat*s,none⟩) (h.toNat-l.toNat) (m.toNat-l.toNat)))) (fun l h=>dt (F:=fun K h=>jS mx n fun m=>0≤l∧l≤h∧h≤m∧m≤n∧
   K (.v (.slice (some ⟨b,if m.toNat=l.toNat then o else o+l.toNat*s,none⟩) (h.toNat-l.toNat) (m.toNat-l.toNat)))) (fun hh h=>dt (F:=fun K m=>0≤l∧l≤hh∧hh≤m∧m≤n∧
   K (.v (.slice (some ⟨b,if m.toNat=l.toNat then o else o+l.toNat*s,none⟩) (hh.toNat-l.toNat) (m.toNat-l.toNat)))) (fun m h=>⟨_,⟨h.1,h.2.1,h.2.2.1,h.2.2.2.1,rfl⟩,h.2.2.2.2⟩) h) h) h
  exact⟨d,⟨h1,q1⟩,q2⟩
 ·exact h.elim
theorem sT{k:TK}{x:DV}(h:lN k x K):∃d,lN k x (·=d)∧K d:=by
 unfold lN at*;split at h <;>first|exact⟨_,rfl,h⟩|exact h.elim
theorem sJ{k:TK}{x:DV}(h:pM k x K):∃d,pM k x (·=d)∧K d:=by
 unfold pM at*;split at h <;>first|exact⟨_,rfl,h⟩|exact h.elim
theorem sX{x y:DV}(h:pD x y K):∃d,pD x y (·=d)∧K d:=by
 unfold pD at*;split at h <;>first|exact⟨_,rfl,h⟩|exact h.elim
theorem sE{x y:DV}(h:nY x y K):∃d,nY x y (·=d)∧K d:=by
 unfold nY at*;split at h <;>first|exact⟨_,rfl,h⟩|exact h.elim
theorem lY{t:TypeId}{parts:List (Nat×DV)}(h:dq P t parts K):∃d,dq P t parts (·=d)∧K d:=by
 unfold dq at*;split at h
 ·split at h
  ·rename_i hf;(try simp only[hf]);exact⟨_,rfl,h⟩
  ·exact h.elim
 ·exact h.elim
theorem fJ{k:TK}{z:DV}{len:Nat}{parts:List (Nat×DV)}(h:aL k z len parts K):∃d,aL k z len parts (·=d)∧K d:=by
 unfold aL at*;split at h
 ·obtain⟨h1,h2,h3,h⟩:=h;split at h
  ·rename_i hf;(try simp only[hf]);exact⟨_,⟨h1,h2,h3,rfl⟩,h⟩
  ·exact h.elim
 ·exact h.elim
def qk:DV→Bool
 | .acc _ _=>false
 |_=>true
def dV:DV→Bool
 | .agg ds=>ds.all qk
 |d=>qk d
theorem yQ{K:DV→St→Prop}{d:DV}(hd:qk d=true)(h:K d S):ju S d K:=by
 cases d <;>first|(cases hd;done)|exact h
theorem Be{K:DV→St→Prop}{k:TK}{x:DV}{lo hi mx:Option DV}(hx:qk x=true)(h:gi k S x lo hi mx K):eW k S x lo hi mx K:=by
 cases x <;>first|(cases hx;done)|exact h
theorem uB:∀{ds:List DV} {K:List DV→St→Prop},ds.all qk=true→K ds S→iR S ds K
 |[],K,_,h=>h
 |d::ds,K,hd,h=>by
  simp only[Yl,We]at hd;exact yQ hd.1 (uB hd.2 h)
theorem E1{K:DV→St→Prop}{d:DV}(hd:dV d=true)(h:K d S):shr S d K:=by
 cases d with
 |agg ds=>exact uB hd h
 |acc l n=>cases hd
 |_=>exact h
theorem nO:∀{ds:List DV} {K:List DV→St→Prop},ds.all dV=true→K ds S→eG S ds K
 |[],K,_,h=>h
 |d::ds,K,hd,h=>by
  simp only[Yl,We]at hd;exact E1 hd.1 (nO hd.2 h)
theorem oQ{ds:List DV}{F:List DV→St→Prop}(hd:ds.all dV=true)(h:F ds S):eU S ds F:=by
 unfold eU;split
 ·exact .inl h
 ·exact nO hd h
def kq(P:Program)(w0:W0)(cal:DV)(ds:List DV)(S:St)(K:DV→Prop):Prop:=match cal with
 | .v (.func (.func f) a cap)=>a.size=0∧okF P f=true∧cap.toList.all (fun u=>u.oneCell')=true∧ds.all dV=true∧∃d,aa P w0 f (ds++cap.toList.map .v) S (fun d' S'=>d'=d∧S'=S)∧K d
 |_=>False
theorem pa{m:Option (KK×DV)}{S:St}{x y:DV}{ok:Bool}{K:DV→Prop}(h:bC m S x y ok K):∃d,bC m S x y ok (·=d)∧K d:=by
 unfold bC at*
 cases m with
 |none=>exact h.elim
 |some p=>
  simp only[oK]at h ⊢;obtain⟨h0,h⟩:=h
  cases hk:kE y with
  |none=>rw[hk]at h;exact h.elim
  |some k=>
   rw[hk]at h;simp only at h ⊢;obtain⟨h1,h⟩:=h;split at h
   ·exact⟨_,⟨h0,h1,rfl⟩,h⟩
   ·split at h
    ·obtain⟨h2,h⟩:=h
     cases hg:aJ _ k with
     |none=>rw[hg]at h;exact⟨_,⟨h0,h1,h2,rfl⟩,h⟩
     |some d=>rw[hg]at h;exact⟨_,⟨h0,h1,h2,rfl⟩,h⟩
    ·exact h.elim
   ·exact h.elim
def aO(P:Program)(w0:W0)(op:Op)(fr:List DV)(S:St)(K:DV→Prop):Prop:=match op with
 | .move x=>K (ev fr x)
 | .assign x=>K (ev fr x)
 | .pick c a b=>fI (ev fr c) (ev fr a) (ev fr b) K
 | .load t x=>ca (tk P t) S (ev fr x) K
 | .fieldAddr t x f=>ee (tk P t) f (ev fr x) K
 | .indexAddr t x i=>AZ w0 fr x fun d=>aB (tk P t) d (ev fr i) K
 | .index t x i=>gY (tk P t) (ev fr x) (ev fr i) K
 | .field t x f=>cO (tk P t) f (ev fr x) K
 | .extract x i=>bZ i (ev fr x) K
 | .nilCheck x=>notNil (ev fr x)=true∧K (ev fr x)
 | .binOp b t x y _=>eo y=false∧gM P b t (uY x) (uY y) (ev fr x) (ev fr y) K
 | .unOp b _ x=>yY b (ev fr x) K
 | .convert s d x=>fA (tk P s) (tk P d) (ev fr x) K
 | .makeInterface t x=>mW (tk P t)=false∧dV (ev fr x)=true∧K (.gz t (ev fr x))
 | .makeFunc fn a b=>jb fn (a.toList.map (ev fr)) (b.toList.map (ev fr)) K
 | .slice t x lo hi mx=>(mx.isSome=true→hi.isSome=true)∧qk (ev fr x)=true∧eR (tk P t) (ev fr x) (lo.map (ev fr)) (hi.map (ev fr)) (mx.map (ev fr)) K
 | .build t parts=>(parts.toList.map fun p=>ev fr p.2).all dV=true∧dq P t ((parts.toList.map (·.1)).zip (parts.toList.map fun p=>ev fr p.2)) K
 | .buildSlice t len parts=>(parts.toList.map fun p=>ev fr p.2).all dV=true∧aL (tk P t) (zD P (cR P t)) len ((parts.toList.map (·.1)).zip (parts.toList.map fun p=>ev fr p.2)) K
 | .lookup t x y ok=>bC (kg P t) S (ev fr x) (ev fr y) ok K
 | .call c=>match c.callee with
  | .builtin .len=>(match c.args.toList,c.argTypes.toList with
   |[x],[t]=>lN (tk P t) (ev fr x) K
   |_,_=>False)
  | .builtin .cap=>(match c.args.toList,c.argTypes.toList with
   |[x],[t]=>pM (tk P t) (ev fr x) K
   |_,_=>False)
  | .builtin .min=>(match c.args.toList with
   |[x,y]=>pD (ev fr x) (ev fr y) K
   |_=>False)
  | .builtin .max=>(match c.args.toList with
   |[x,y]=>nY (ev fr x) (ev fr y) K
   |_=>False)
  | .value cal=>kq P w0 (ev fr cal) (c.args.toList.map (ev fr)) S K
  | .invoke r name=>wR P (ev fr r) name fun f d=>kq P w0 (.v (.func (.func f) #[] #[])) (d::c.args.toList.map (ev fr)) S K
  |_=>False
 |_=>False
theorem iU{o:Oper}{fr:List DV}(hs:eP o.op=true)(h:aO P w0 o.op fr S K):∃d,QY P w0 S o fr d∧K d:=by
 have fin:∀{d:DV},aE P w0 o.op fr S (fun d' S'=>d'=d∧S'=S)→K d→∃d,QY P w0 S o fr d∧K d:=fun h1 h2=>⟨_,cJ hs h1,h2⟩
 cases hop:o.op with
 |move x=>rw[hop]at h;exact fin (by rw[hop];exact⟨rfl,rfl⟩) h
 |assign x=>rw[hop]at h;exact fin (by rw[hop];exact⟨rfl,rfl⟩) h
 |pick c a b=>rw[hop]at h;obtain⟨d,q1,q2⟩:=oW h;exact fin (by rw[hop];simpa[aE]using q1) q2
 |load t x=>rw[hop]at h;obtain⟨d,q1,q2⟩:=uy h;exact fin (by rw[hop];simpa[aE]using q1) q2
 |fieldAddr t x f=>rw[hop]at h;obtain⟨d,q1,q2⟩:=l5 h;exact fin (by rw[hop];simpa[aE]using q1) q2
 |indexAddr t x i=>
  rw[hop]at h
  cases x with
  |global b=>
   obtain⟨us,hg,h⟩:=(show mT w0 b fun d=>aB (tk P t) d (ev fr i) K from h);obtain⟨d,q1,q2⟩:=bE h;exact fin (by rw[hop];exact⟨us,hg,by simpa using q1⟩) q2
  |tmp n=>obtain⟨d,q1,q2⟩:=bE (show aB (tk P t) (ev fr (.tmp n)) (ev fr i) K from h);exact fin (by rw[hop];simpa[aE,AZ]using q1) q2
  |const u=>obtain⟨d,q1,q2⟩:=bE (show aB (tk P t) (ev fr (.const u)) (ev fr i) K from h);exact fin (by rw[hop];simpa[aE,AZ]using q1) q2
  |func f=>obtain⟨d,q1,q2⟩:=bE (show aB (tk P t) (ev fr (.func f)) (ev fr i) K from h);exact fin (by rw[hop];simpa[aE,AZ]using q1) q2
 |index t x i=>rw[hop]at h;obtain⟨d,q1,q2⟩:=mv h;exact fin (by rw[hop];simpa[aE]using q1) q2
 |field t x f=>rw[hop]at h;obtain⟨d,q1,q2⟩:=ky h;exact fin (by rw[hop];simpa[aE]using q1) q2
 |extract x i=>rw[hop]at h;obtain⟨d,q1,q2⟩:=jx h;exact fin (by rw[hop];simpa[aE]using q1) q2
 |nilCheck x=>rw[hop]at h;exact fin (by rw[hop];exact⟨h.1,rfl,rfl⟩) h.2
 |binOp b t x y t'=>rw[hop]at h;obtain⟨d,q1,q2⟩:=oZ h.2;exact fin (by rw[hop];simp only[aE,h.1];simpa using q1) q2
 |unOp b t x=>rw[hop]at h;obtain⟨d,q1,q2⟩:=wK h;exact fin (by rw[hop];simpa[aE]using q1) q2
 |convert s d x=>rw[hop]at h;obtain⟨d',q1,q2⟩:=pA h;exact fin (by rw[hop];simpa[aE]using A7 (ke:=tk P (cR P s)) (kb:=tk P (cR P d)) (S:=S) q1) q2
 |makeInterface t x=>rw[hop]at h;exact fin (by rw[hop];exact⟨h.1,E1 h.2.1 ⟨rfl,rfl⟩⟩) h.2.2
 |makeFunc fn a b=>rw[hop]at h;obtain⟨d,q1,q2⟩:=pK h;exact fin (by rw[hop];simpa[aE]using q1) q2
 |slice t x lo hi mx=>rw[hop]at h;obtain⟨d,q1,q2⟩:=mA h.2.2;exact fin (by rw[hop];exact⟨h.1,Be h.2.1 (yQ h.2.1 (by simpa using q1))⟩) q2
 |lookup t x y ok=>rw[hop]at h;obtain⟨d,q1,q2⟩:=pa h;exact fin (by rw[hop];simpa[aE]using q1) q2
 |build t parts=>rw[hop]at h;obtain⟨d,q1,q2⟩:=lY h.2;exact fin (by rw[hop];exact nO h.1 (by simpa using q1)) q2
 |buildSlice t len parts=>rw[hop]at h;obtain⟨d,q1,q2⟩:=fJ h.2;exact fin (by rw[hop];exact nO h.1 (by simpa using q1)) q2
 |call c=>
  rw[hop]at h;obtain⟨callee,args,ts⟩:=c;simp only[aO]at h;split at h
  ·split at h
   ·rename_i x t e1 e2;obtain⟨d,q1,q2⟩:=sT h;exact fin (by rw[hop];simp only[aE,e1,e2];simpa using q1) q2
   ·exact h.elim
  ·split at h
   ·rename_i x t e1 e2;obtain⟨d,q1,q2⟩:=sJ h;exact fin (by rw[hop];simp only[aE,e1,e2];simpa using q1) q2
   ·exact h.elim
  ·split at h
   ·rename_i x y e1;obtain⟨d,q1,q2⟩:=sX h;exact fin (by rw[hop];simp only[aE,e1];simpa using q1) q2
   ·exact h.elim
  ·split at h
   ·rename_i x y e1;obtain⟨d,q1,q2⟩:=sE h;exact fin (by rw[hop];simp only[aE,e1];simpa using q1) q2
   ·exact h.elim
  ·rename_i cal;unfold kq at h;split at h
   ·rename_i f a cap hcal;obtain⟨h1,h2,h3,h4,d,h5,h6⟩:=h;exact fin (by rw[hop];simp only[aE,hcal];exact uu h1 h3 (by rw[h2,Mh];exact oQ h4 h5)) h6
   ·exact h.elim
  ·rename_i r name;unfold wR at h;split at h
   ·rename_i t hx;split at h
    ·rename_i f hi;obtain⟨hf,_,h2,h3,h4,d,h5,h6⟩:=h;have h5':aa P w0 f (.agg []::args.toList.map (ev fr)) S (fun d' S'=>d'=d∧S'=S):=by simpa using h5
     exact fin (by rw[hop];simp only[aE,wR,hx,hi];exact⟨hf,oQ h4 h5'⟩) h6
    ·exact h.elim
   ·exact h.elim
  ·exact h.elim
 |_=>rw[hop]at h;exact h.elim
end
end Aml
namespace Aml
open Go Go.RowKit
def dI(n:Int):DV:= .v (.int .i64 n)
def dU(n:Int):DV:= .v (.int .u64 n)
def dB(b:Bool):DV:= .v (.bool b)
def dS(s:ByteArray):DV:= .v (.string s)
theorem RW{n:Int}(h0:0≤n)(h1:n≤18446744073709551615):IntKind.u64.wrap n=n:=by
 show n%18446744073709551616=n;omega
section
variable {P:Program} {w0:W0}
end
end Aml
namespace Aml
open Go Go.RowKit
def mB:Op→Bool
 | .store ..| .box ..| .alloc ..| .makeSlice ..| .mapUpdate ..| .insert ..| .makeMap ..=>false
 | .call c=>match c.callee with
  | .builtin .append| .builtin .clear| .builtin .delete| .builtin .copy=>false
  |_=>true
 |_=>true
def oq(md:Region.Mode)(ops:Array Oper):Nat→Nat→Nat→Bool
 |0,_,_=>false
 |n+1,k,i=>match ops[k]? with
  |none=>false
  |some o=>o.after.any fun e=>Region.binds md e&&(e.on==i||oq md ops n e.on i)
def JF(md:Region.Mode)(ops:Array Oper):Bool:=(List.range ops.size).all fun k=>match ops[k]? with
 |none=>true
 |some o=>o.after.all fun e=>!Region.binds md e||decide (e.on<k)
def mO(md:Region.Mode)(ops:Array Oper)(n:Nat):Bool:=JF md ops&&
 ((List.range ops.size).all fun k=>decide (k<n)||(List.range k).all fun i=>oq md ops ops.size k i)&&
 (ops.toList.take n).all fun o=>match o.guard with|none=>true|some (j,_)=>decide (j<n)
section
variable {P:Program} {w0:W0} {ops:Array Oper} {md:Region.Mode}
theorem gT(h:JF md ops=true){k:Nat}{o:Oper}(hk:ops[k]? =some o):∀e∈o.after,Region.binds md e=true→e.on<k:=by
 intro e he hb;have hlt:k<ops.size:=(Wf.1 hk).1;have:=Ww.1 h k (Xh.2 hlt);simp only[hk]at this;have:=Array.all_eq_true'.1 this e he;simpa[hb]using this
def GM(md:Region.Mode)(ops:Array Oper)(L:Array Bool):Prop:=∀(j:Nat) (o:Oper),ops[j]? =some o→L[j]? =some true→∀e∈o.after,Region.binds md e=true→L[e.on]? =some true
theorem ir{L:Array Bool}(hc:GM md ops L):∀(n k i:Nat) (o:Oper),ops[k]? =some o→(∀e∈o.after,Region.binds md e=true→L[e.on]? =some true)→oq md ops n k i=true→L[i]? =some true
 |0,_,_,_,_,_,h=>by cases h
 |n+1,k,i,o,hk,ha,h=>by
  simp only[oq,hk]at h;obtain⟨e,he,h⟩:=Array.any_eq_true'.1 h;simp only[We,Xy,beq_iff_eq]at h;rcases h.2 with h'|h'
  ·rw[←h'];exact ha e he h.1
  ·have hl:=ha e he h.1
   cases ho:ops[e.on]? with
   |none=>cases n <;>simp[oq,ho]at h'
   |some o'=>exact ir hc n e.on i o' ho (hc e.on o' ho hl) h'
theorem bU{L:Array Bool}{i:Nat}:L.getD i false=true↔L[i]? =some true:=by
 rw[Wz];cases L[i]? <;>simp
theorem bX{L:Array Bool}{i:Nat}:L.getD i true=false↔L[i]? =some false:=by
 rw[Wz];cases L[i]? <;>simp
theorem IG{ro:Option Nat}{g0 g:Gh}{Q:Exit→List DV→St→Prop}{o:Oper}{fr:List DV}{S:St}{a:Act}{w:World}{K:List DV→St→Prop}{K':Act→World→Prop}(k:g0.le g)(h1:Rel w0 g S w)(h2:ae g fr a.tmps.toList)(h3:Dk w0 g a w)
 (hK:∀fr S g a w,g0.le g→Rel w0 g S w→ae g fr a.tmps.toList→Dk w0 g a w→K fr S→K' a w)
 (h:bz ops fr o.guard (fun fr=>ah P w0 o (ev fr) S fun d S'=>K (pt fr o.dst d) S') (fun fr=>K (pt fr o.dst ud) S)) {i:Nat} (hi:ops[i]? =some o):
 wpOpIn (fz ro) 0 P ops (Good w0 g0 Q) i K' a w:=by
 unfold wpOpIn;simp only[hi];rcases gj h2 h with⟨hw,fr',h2',hA⟩|⟨hw,fr',h2',hB⟩
 ·rw[if_pos hw];refine dG hA h1 (fun x _=>du h2' x) h3 k h2' fun g' d u S' w' k1 k2 k3 k4 k5=>?_;exact hK _ _ g' _ _ (k.trans k1) k2 (bo (h2'.mono k1) _ k3) (k1.dk k5) k4
 ·rw[if_neg (by simp[hw])];exact⟨fun _ _=>trivial,hK _ _ g _ _ k h1 (bo h2' _ (fE g)) (h3.cb (put_defers _ _ _) fun _ _ h _=>h) hB⟩
theorem sx{S:St}{K K':List DV→Prop}(hk:∀fr,K fr→K' fr):∀{l:List Oper} {fr:List DV},LQ P w0 S ops K l fr→LQ P w0 S ops K' l fr
 |[],fr,h=>hk _ h
 |o::rest,fr,h=>gk (fun fr ⟨d,q1,q2⟩=>⟨d,q1,sx hk q2⟩) (fun fr h=>sx hk h) h
theorem yd{ro:Option Nat}{g0:Gh}{Q:Exit→List DV→St→Prop}{n:Nat}(hB:mO md ops n=true):∀(l:List Oper) (k fuel:Nat) (L:Array Bool) (fr:List DV) (S:St) (g:Gh) (a:Act) (w:World),
 (∀j,l[j]? =ops[k+j]?)→n≤k→k≤ops.size→l.length≤fuel→L.size=ops.size→(∀i,i<k→L[i]? =some true)→(∀i,k≤i→i<ops.size→L[i]? =some false)→g0.le g→Rel w0 g S w→ae g fr a.tmps.toList→Dk w0 g a w→
 yC P w0 ops (fun fr S=>Q .normal fr S) l fr S→wpAnyIn (fz ro) 0 P md ops (Good w0 g0 Q) fuel L a w:=by
 simp only[mO,We]at hB;obtain⟨⟨hb,ha⟩, -⟩:=hB
 have none_ready:∀(k:Nat) (L:Array Bool),ops.size≤k→L.size=ops.size→(∀i,i<k→L[i]? =some true∨ops.size≤i)→∀i,i∉Region.ready md ops L:=by
  intro k L hk hs hl i hi;obtain⟨h1,o,ho,_⟩:=mem_ready.1 hi;rw[bX]at h1;have hlt:i<ops.size:=(Wf.1 ho).1;rcases hl i (by omega)with h|h
  ·rw[h]at h1;cases h1
  ·omega
 intro l
 induction l with
 |nil=>
  intro k fuel L fr S g a w hl hn hk hf hs ht hu k1 h1 h2 h3 h
  have hk':ops.size≤k:=by
   have:=hl 0;simp only[List.getElem?_nil,XP]at this;exact Array.getElem?_eq_none_iff.1 this.symm
  have hno:=none_ready k L hk' hs (fun i hi=> .inl (ht i hi));have hemp:Region.ready md ops L=[]:=List.eq_nil_iff_forall_not_mem.2 hno
  cases fuel with
  |zero=>exact⟨hemp,k1.kd h3,g,fr,S,k1,h1,h2,h⟩
  |succ fuel=>exact⟨fun _=>⟨k1.kd h3,g,fr,S,k1,h1,h2,h⟩,fun i hi=>absurd hi (hno i)⟩
 |cons o rest ih=>
  intro k fuel L fr S g a w hl hn hk hf hs ht hu k1 h1 h2 h3 h;have h0:ops[k]? =some o:=by simpa using(hl 0).symm
  have hklt:k<ops.size:=(Wf.1 h0).1;have hready:k∈Region.ready md ops L:=mem_ready.2 ⟨bX.2 (hu k (Wg _) hklt),o,h0,fun e he hbe=>bU.2 (ht _ (gT hb h0 e he hbe))⟩
  cases fuel with
  |zero=>simp at hf
  |succ fuel=>
   refine⟨fun h=>(by rw[h]at hready;cases hready),fun i hi=>?_⟩;obtain⟨hi1,oi,hoi,hia⟩:=mem_ready.1 hi;rw[bX]at hi1;have hilt:i<ops.size:=(Wf.1 hoi).1
   have hclo:GM md ops L:=fun j oj hj hlj e he hbe=>by
    have hjk:j<k:=by
     rcases WN j k with h|h
     ·exact h
     ·rw[hu j h (Wf.1 hj).1]at hlj;cases hlj
    exact ht _ (Nat.lt_trans (gT hb hj e he hbe) hjk)
   have hik:i=k:=by
    rcases Xt i k with h|h|h
    ·rw[ht i h]at hi1;cases hi1
    ·exact h
    ·have hr:=Ww.1 ha i (Xh.2 hilt);rw[Xy]at hr;rcases hr with hr|hr
     ·have:=of_decide_eq_true hr;omega
     ·have hr:=Ww.1 hr k (Xh.2 h);have:=ir hclo _ i k oi hoi (fun e he hbe=>bU.1 (hia e he hbe)) hr;rw[hu k (Wg _) hklt]at this;cases this
   subst hik;refine IG (o:=o) k1 h1 h2 h3 (K:=yC P w0 ops (fun fr S=>Q .normal fr S) rest) ?_ h h0;intro fr' S' g' a' w' q1 q2 q3 q4 q5;refine ih (i+1) fuel (L.setIfInBounds i true) fr' S' g' a' w' (fun j=>by have:=hl (j+1);simpa[Xi,XQ 1 j]using this) (by omega) (by omega) (by simpa using hf) (by simpa using hs) ?_ ?_ q1 q2 q3 q4 q5
   ·intro j hj;rw[WB];split
    ·rename_i e;rw[if_pos (by omega)]
    ·exact ht j (by omega)
   ·intro j hj hj';rw[WB,if_neg (by omega)];exact hu j (by omega) hj'
theorem BO{ro:Option Nat}{g0:Gh}{Q:Exit→List DV→St→Prop}{S:St}{n:Nat}(hB:mO md ops n=true)(hn:n≤ops.size):∀(fuel F:Nat) (L M:Array Bool) (fr:List DV) (g:Gh) (a:Act) (w:World),
 L.size=n→M.size=ops.size→(∀i,i<n→M[i]? =L[i]?)→(∀i,n≤i→i<ops.size→M[i]? =some false)→GM md ops M→fuel+(ops.size-n)≤F→g0.le g→Rel w0 g S w→ae g fr a.tmps.toList→Dk w0 g a w→
 mn P w0 S md (ops.toList.take n).toArray (fun fr=>yC P w0 ops (fun fr S=>Q .normal fr S) (ops.toList.drop n) fr S) fuel L fr→wpAnyIn (fz ro) 0 P md ops (Good w0 g0 Q) F M a w:=by
 have hB':=hB;simp only[mO,We]at hB';obtain⟨⟨hb,ha⟩,hg⟩:=hB';have hpre:∀i,i<n→(ops.toList.take n).toArray[i]? =ops[i]? :=fun i hi=>by simp[WZ,hi]
 have full:∀(L M:Array Bool),L.size=n→M.size=ops.size→(∀i,i<n→M[i]? =L[i]?)→Region.ready md (ops.toList.take n).toArray L=[]→∀i,i<n→M[i]? =some true:=by
  intro L M hs hM hLM hr i
  induction i using Nat.strongRecOn with
  |_ i ih=>
   intro hi;have hlt:i<M.size:=by omega
   have hsome:∃o,ops[i]? =some o:=⟨_,Xo (by omega)⟩;obtain⟨o,ho⟩:=hsome
   cases hx:M[i]? with
   |none=>rw[Xo hlt]at hx;cases hx
   |some x=>
    cases x with
    |true=>rfl
    |false=>
     have:i∈Region.ready md (ops.toList.take n).toArray L:=mem_ready.2 ⟨bX.2 (by rw[←hLM i hi];exact hx),o,by rw[hpre i hi];exact ho,fun e he hbe=>by
      have hlt':=gT hb ho e he hbe;rw[bU,←hLM _ (by omega)];exact ih _ hlt' (by omega)⟩
     rw[hr]at this;cases this
 have tail:∀(F:Nat) (L M:Array Bool) (fr:List DV) (g:Gh) (a:Act) (w:World),L.size=n→M.size=ops.size→(∀i,i<n→M[i]? =L[i]?)→(∀i,n≤i→i<ops.size→M[i]? =some false)→ops.size-n≤F→g0.le g→Rel w0 g S w→ae g fr a.tmps.toList→Dk w0 g a w→
  Region.ready md (ops.toList.take n).toArray L=[]→yC P w0 ops (fun fr S=>Q .normal fr S) (ops.toList.drop n) fr S→wpAnyIn (fz ro) 0 P md ops (Good w0 g0 Q) F M a w:=by
  intro F L M fr g a w hs hM hLM hM0 hF q1 q2 q3 q4 hr h;exact yd hB (ops.toList.drop n) n F M fr S g a w (fun j=>by simp[W2]) (Wg _) hn (by simp;omega) hM (full L M hs hM hLM hr) hM0 q1 q2 q3 q4 h
 intro fuel
 induction fuel with
 |zero=>
  intro F L M fr g a w hs hM hLM hM0 hc hF q1 q2 q3 q4 h;exact tail F L M fr g a w hs hM hLM hM0 (by omega) q1 q2 q3 q4 h.1 h.2
 |succ fuel ih=>
  intro F L M fr g a w hs hM hLM hM0 hc hF q1 q2 q3 q4 h;by_cases hr:Region.ready md (ops.toList.take n).toArray L=[]
  ·exact tail F L M fr g a w hs hM hLM hM0 (by omega) q1 q2 q3 q4 hr (h.1 hr)
  ·obtain⟨F,rfl⟩:∃F',F=F'+1:=⟨F-1,by omega⟩
   have up:∀i,i∈Region.ready md (ops.toList.take n).toArray L→i∈Region.ready md ops M:=by
    intro i hi;obtain⟨h1,o,ho,h2⟩:=mem_ready.1 hi;have hi':i<n:=by have:=(Wf.1 ho).1;simp at this;omega
    rw[hpre i hi']at ho;refine mem_ready.2 ⟨bX.2 (by rw[hLM i hi'];exact bX.1 h1),o,ho,fun e he hbe=>?_⟩;have hlt:=gT hb ho e he hbe;rw[bU,hLM _ (by omega)];exact bU.1 (h2 e he hbe)
   refine⟨fun h0=>?_,fun i hi=>?_⟩
   ·exfalso
    obtain⟨x,xs,hx⟩:∃x xs,Region.ready md (ops.toList.take n).toArray L=x::xs:=by
     cases he:Region.ready md (ops.toList.take n).toArray L with
     |nil=>exact absurd he hr
     |cons x xs=>exact⟨x,xs,rfl⟩
    have:=up x (by rw[hx];exact Wm);rw[h0]at this;cases this
   ·obtain⟨hi1,oi,hoi,hia⟩:=mem_ready.1 hi;rw[bX]at hi1;have hilt:i<ops.size:=(Wf.1 hoi).1;by_cases hin:i<n
    ·have hiL:i∈Region.ready md (ops.toList.take n).toArray L:=mem_ready.2 ⟨bX.2 (by rw[←hLM i hin];exact hi1),oi,by rw[hpre i hin];exact hoi,fun e he hbe=>by
      have hlt:=gT hb hoi e he hbe;rw[bU,←hLM _ (by omega)];exact bU.1 (hia e he hbe)⟩
     have hq:=h.2 i hiL
     have hgi:∀j want,oi.guard=some (j,want)→j<n:=by
      intro j want hgj
      have hmem:oi∈ops.toList.take n:=by
       have:(ops.toList.take n)[i]? =some oi:=by rw[WZ,if_pos hin];simpa using hoi
       exact Wc this
      have:=Ww.1 hg oi hmem;simpa[hgj]using this
     have hwant:∀fr,cA (ops.toList.take n).toArray fr oi.guard=cA ops fr oi.guard:=by
      intro fr
      cases hgo:oi.guard with
      |none=>rfl
      |some p=>
       obtain⟨j,want⟩:=p;simp only[cA,hpre j (hgi j want hgo)]
     have hLs:(L.setIfInBounds i true).size=n:=by simpa using hs
     have hMs:(M.setIfInBounds i true).size=ops.size:=by simpa using hM
     have hLM':∀j,j<n→(M.setIfInBounds i true)[j]? =(L.setIfInBounds i true)[j]? :=by
      intro j hj;rw[WB,WB,hLM j hj];split
      ·rw[if_pos (by omega),if_pos (by omega)]
      ·rfl
     have hM0':∀j,n≤j→j<ops.size→(M.setIfInBounds i true)[j]? =some false:=by
      intro j hj hj';rw[WB,if_neg (by omega)];exact hM0 j hj hj'
     have hc':GM md ops (M.setIfInBounds i true):=by
      intro j oj hj hlj e he hbe;rw[WB];split
      ·rw[if_pos (by omega)]
      ·rw[WB]at hlj;split at hlj
       ·rename_i hij;subst hij;rw[hoi]at hj;cases hj;exact bU.1 (hia e he hbe)
       ·exact hc j oj hj hlj e he hbe
     have cont:∀fr' g' a' w',g0.le g'→Rel w0 g' S w'→ae g' fr' a'.tmps.toList→Dk w0 g' a' w'→mn P w0 S md (ops.toList.take n).toArray (fun fr=>yC P w0 ops (fun fr S=>Q .normal fr S) (ops.toList.drop n) fr S) fuel (L.setIfInBounds i true) fr'→
      wpAnyIn (fz ro) 0 P md ops (Good w0 g0 Q) F (M.setIfInBounds i true) a' w':=fun fr' g' a' w' p1 p2 p3 p4 p5=>
      ih F _ _ fr' g' a' w' hLs hMs hLM' hM0' hc' (by omega) p1 p2 p3 p4 p5
     unfold qOp at hq;rw[hpre i hin]at hq;unfold wpOpIn;simp only[hoi]at hq ⊢;rcases hq with⟨hw,d,hy,hk⟩|⟨hw,hk⟩
     ·rw[hwant]at hw;have hw':=cY (o:=oi) q3 hw;rw[if_pos hw'];refine dG hy q2 (fun x _=>du q3 x) q4 q1 q3 fun g' d' u S' w' k1 k2 k3 k4 k5=>?_;obtain⟨hd,hS⟩:=k4;rw[hS]at k2;rw[hd]at k3;exact cont _ g' _ _ (q1.trans k1) k2 (bo (q3.mono k1) _ k3) (k1.dk k5) hk
     ·rw[hwant]at hw;have hw':=cY (o:=oi) q3 hw;rw[if_neg (by simp[hw'])];exact⟨fun _ _=>trivial,cont _ g _ _ q1 q2 (bo q3 _ (fE g)) (q4.cb (put_defers _ _ _) fun _ _ h _=>h) hk⟩
    ·exfalso
     have hall:∀j,j<n→M[j]? =some true:=by
      intro j hj;have hr':=Ww.1 ha i (Xh.2 hilt);rw[Xy]at hr';rcases hr' with hr'|hr'
      ·exact absurd (of_decide_eq_true hr') hin
      ·have hr':=Ww.1 hr' j (Xh.2 (by omega));exact ir hc _ i j oi hoi (fun e he hbe=>bU.1 (hia e he hbe)) hr'
     refine hr (List.eq_nil_iff_forall_not_mem.2 fun j hj=>?_);obtain⟨h1,o,ho,_⟩:=mem_ready.1 hj;have hj':j<n:=by have:=(Wf.1 ho).1;simp at this;omega
     rw[bX,←hLM j hj',hall j hj']at h1;cases h1
def jU(l:List Oper):Nat:=(l.takeWhile fun o=>mB o.op).length
theorem BD{id:Nat}{l:List Oper}{fr:List DV}{S:St}{Q:Exit→List DV→St→Prop}(n:Nat)(hn:n≤l.length)(hm:P.follows .mixedOrders=true)(hB:Region.lexB .any (l.take n).toArray=true)(hT:mO .any l.toArray n=true)(hs:l.all (fun o=>eP o.op)=true)
 (h:LQ P w0 S (l.take n).toArray (fun fr=>nB P w0 l.toArray (fun fr S=>Q .normal fr S) (l.drop n) fr S) (l.take n) fr):fc P w0 (.region id l.toArray true) fr S Q:=by
 intro g a w h1 h2 h3;simp only[Region.lexB,We]at hB;refine dE hm fun ro=>?_;have hR:Rel w0 g S {w with drawn:=w.drawn+1}:=h1.grow (iD w);have hs1:(l.take n).all (fun o=>eP o.op)=true:=Ww.2 fun o ho=>Ww.1 hs o (Xc ho);have hs2:(l.drop n).all (fun o=>eP o.op)=true:=Ww.2 fun o ho=>Ww.1 hs o (WV ho)
 have hLQ:LQ P w0 S (l.take n).toArray (fun fr=>yC P w0 l.toArray (fun fr S=>Q .normal fr S) (l.drop n) fr S) (l.take n) fr:=by
  exact sx (fun fr h=>fe _ hs2 h) h
 have:=ou (P:=P) (w0:=w0) (S:=S) (md:= .any) (ops:=(l.take n).toArray) (l.take n) 0 (Array.replicate (l.take n).toArray.size false) fr (by simp) (by simpa using hB.2) hLQ;refine BO (n:=n) (S:=S) hT (by simpa using hn) (l.take n).length _ (Array.replicate (l.take n).toArray.size false) _ fr g a _ (by simp;omega) (by simp) ?_ ?_ ?_ (by simp;omega) (.refl g) hR h2 (h3.cb rfl fun _ _ h _=>h) (by simpa using this)
 ·intro i hi;simp only[Yh,Yr,W5];rw[if_pos (by omega),if_pos (by omega)]
 ·intro i hi hi';simp only[Yh];rw[if_pos hi']
 ·intro j o hj hl;simp[Yh]at hl
end
end Aml
namespace Aml
open Go Go.RowKit
@[congr] theorem QI {d:DV} {d':DV} {A:Prop} {B:Prop} (hd:d=d'):cf d A B=cf d' A B:=by cases hd;rfl
@[congr] theorem Tf {ds:List DV} {ds':List DV} {K:DV→Prop} (hds:ds=ds'):Ku ds K=Ku ds' K:=by cases hds;rfl
@[congr] theorem Ts {k:TK} {k':TK} {ds:List DV} {ds':List DV} {K:DV→Prop} (hk:k=k') (hds:ds=ds'):l4 k ds K=l4 k' ds' K:=by cases hk;cases hds;rfl
@[congr] theorem Q6 {c:DV} {c':DV} {a:DV} {a':DV} {b:DV} {b':DV} {K:DV→Prop} (hc:c=c') (ha:a=a') (hb:b=b'):fI c a b K=fI c' a' b' K:=by cases hc;cases ha;cases hb;rfl
@[congr] theorem QH {k:TK} {k':TK} {S:St} {S':St} {x:DV} {x':DV} {K:DV→Prop} (hk:k=k') (hS:S=S') (hx:x=x'):ca k S x K=ca k' S' x' K:=by cases hk;cases hS;cases hx;rfl
@[congr] theorem OK {k:TK} {k':TK} {f:Nat} {f':Nat} {x:DV} {x':DV} {K:DV→Prop} (hk:k=k') (hf:f=f') (hx:x=x'):ee k f x K=ee k' f' x' K:=by cases hk;cases hf;cases hx;rfl
@[congr] theorem HI {k:TK} {k':TK} {x:DV} {x':DV} {i:DV} {i':DV} {K:DV→Prop} (hk:k=k') (hx:x=x') (hi:i=i'):aB k x i K=aB k' x' i' K:=by cases hk;cases hx;cases hi;rfl
@[congr] theorem MU {i:Nat} {i':Nat} {x:DV} {x':DV} {K:DV→Prop} (hi:i=i') (hx:x=x'):bZ i x K=bZ i' x' K:=by cases hi;cases hx;rfl
@[congr] theorem NN {k:TK} {k':TK} {f:Nat} {f':Nat} {x:DV} {x':DV} {K:DV→Prop} (hk:k=k') (hf:f=f') (hx:x=x'):cO k f x K=cO k' f' x' K:=by cases hk;cases hf;cases hx;rfl
@[congr] theorem Qs {op:BinOp} {k:IntKind} {m:Int} {m':Int} {n:Int} {n':Int} {K:DV→Prop} (hm:m=m') (hn:n=n'):jY op k m n K=jY op k m' n' K:=by cases hm;cases hn;rfl
@[congr] theorem Q3 {op:BinOp} {x:ByteArray} {x':ByteArray} {y:ByteArray} {y':ByteArray} {K:DV→Prop} (hx:x=x') (hy:y=y'):fK op x y K=fK op x' y' K:=by cases hx;cases hy;rfl
@[congr] theorem SI {op:BinOp} {t:TK} {t':TK} {cx:Bool} {cx':Bool} {cy:Bool} {cy':Bool} {x:DV} {x':DV} {y:DV} {y':DV} {K:DV→Prop} (ht:t=t') (hcx:cx=cx') (hcy:cy=cy') (hx:x=x') (hy:y=y'):iY op t cx cy x y K=iY op t' cx' cy' x' y' K:=by cases ht;cases hcx;cases hcy;cases hx;cases hy;rfl
@[congr] theorem PM {o:Option (List FK)} {o':Option (List FK)} {op:BinOp} {al:List DV} {al':List DV} {y:DV} {y':DV} {K:DV→Prop} (ho:o=o') (hal:al=al') (hy:y=y'):je o op al y K=je o' op al' y' K:=by cases ho;cases hal;cases hy;rfl
@[congr] theorem Ss {ks:List FK} {al:List DV} {al':List DV} {bs:List DV} {bs':List DV} {r:Bool} {r':Bool} {F:Bool→Prop} (hal:al=al') (hbs:bs=bs') (hr:r=r'):dR ks al bs r F=dR ks al' bs' r' F:=by cases hal;cases hbs;cases hr;rfl
@[congr] theorem Tq {op:UnOp} {x:DV} {x':DV} {K:DV→Prop} (hx:x=x'):yY op x K=yY op x' K:=by cases hx;rfl
@[congr] theorem Q7 {a:TK} {a':TK} {b:TK} {b':TK} {x:DV} {x':DV} {K:DV→Prop} (ha:a=a') (hb:b=b') (hx:x=x'):fA a b x K=fA a' b' x' K:=by cases ha;cases hb;cases hx;rfl
@[congr] theorem Pb {a:TK} {a':TK} {b:TK} {b':TK} {ke:TK} {ke':TK} {kb:TK} {kb':TK} {S:St} {S':St} {x:DV} {x':DV} {K:DV→Prop} (ha:a=a') (hb:b=b') (hke:ke=ke') (hkb:kb=kb') (hS:S=S') (hx:x=x'):gu a b ke kb S x K=gu a' b' ke' kb' S' x' K:=by cases ha;cases hb;cases hke;cases hkb;cases hS;cases hx;rfl
@[congr] theorem Qk {k:TK} {k':TK} {x:DV} {x':DV} {i:DV} {i':DV} {K:DV→Prop} (hk:k=k') (hx:x=x') (hi:i=i'):gY k x i K=gY k' x' i' K:=by cases hk;cases hx;cases hi;rfl
@[congr] theorem Tg {d:Option DV} {d':Option DV} {z:Int} {z':Int} {K:Int→Prop} (hd:d=d') (hz:z=z'):jS d z K=jS d' z' K:=by cases hd;cases hz;rfl
@[congr] theorem Ot {k:TK} {k':TK} {x:DV} {x':DV} {lo:Option DV} {lo':Option DV} {hi:Option DV} {hi':Option DV} {mx:Option DV} {mx':Option DV} {K:DV→Prop} (hk:k=k') (hx:x=x') (hlo:lo=lo') (hhi:hi=hi') (hmx:mx=mx'):eR k x lo hi mx K=eR k' x' lo' hi' mx' K:=by cases hk;cases hx;cases hlo;cases hhi;cases hmx;rfl
@[congr] theorem SR {k:TK} {k':TK} {x:DV} {x':DV} {K:DV→Prop} (hk:k=k') (hx:x=x'):lN k x K=lN k' x' K:=by cases hk;cases hx;rfl
@[congr] theorem Sm {k:TK} {k':TK} {x:DV} {x':DV} {K:DV→Prop} (hk:k=k') (hx:x=x'):pM k x K=pM k' x' K:=by cases hk;cases hx;rfl
@[congr] theorem Sc {x:DV} {x':DV} {y:DV} {y':DV} {K:DV→Prop} (hx:x=x') (hy:y=y'):pD x y K=pD x' y' K:=by cases hx;cases hy;rfl
@[congr] theorem Sk {x:DV} {x':DV} {y:DV} {y':DV} {K:DV→Prop} (hx:x=x') (hy:y=y'):nY x y K=nY x' y' K:=by cases hx;cases hy;rfl
@[congr] theorem Oh {n:Nat} {n':Nat} {S:St} {S':St} {x:DV} {x':DV} {y:DV} {y':DV} {K:St→Prop} (hn:n=n') (hS:S=S') (hx:x=x') (hy:y=y'):kS n S x y K=kS n' S' x' y' K:=by cases hn;cases hS;cases hx;cases hy;rfl
@[congr] theorem N3 {n:Nat} {n':Nat} {S:St} {S':St} {x:DV} {x':DV} {y:DV} {y':DV} {K:St→Prop} (hn:n=n') (hS:S=S') (hx:x=x') (hy:y=y'):cN n S x y K=cN n' S' x' y' K:=by cases hn;cases hS;cases hx;cases hy;rfl
@[congr] theorem Gy {k:TK} {k':TK} {z:DV} {z':DV} {len:Nat} {len':Nat} {parts:List (Nat×DV)} {parts':List (Nat×DV)} {K:DV→Prop} (hk:k=k') (hz:z=z') (hlen:len=len') (hparts:parts=parts'):aL k z len parts K=aL k' z' len' parts' K:=by cases hk;cases hz;cases hlen;cases hparts;rfl
@[congr] theorem QL {S:St} {S':St} {d:DV} {d':DV} {K:Nat→List DV→Prop} (hS:S=S') (hd:d=d'):gF S d K=gF S' d' K:=by cases hS;cases hd;rfl
@[congr] theorem SG {s:Nat} {s':Nat} {b:Nat} {b':Nat} {S:St} {S':St} {x:DV} {x':DV} {ys:List DV} {ys':List DV} {K:DV→St→Prop} (hs:s=s') (hb:b=b') (hS:S=S') (hx:x=x') (hys:ys=ys'):sA s b S x ys K=sA s' b' S' x' ys' K:=by cases hs;cases hb;cases hS;cases hx;cases hys;rfl
@[congr] theorem NK {k:TK} {k':TK} {k2:TK} {k2':TK} {S:St} {S':St} {x:DV} {x':DV} {y:DV} {y':DV} {K:DV→St→Prop} (hk:k=k') (hk2:k2=k2') (hS:S=S') (hx:x=x') (hy:y=y'):ie k k2 S x y K=ie k' k2' S' x' y' K:=by cases hk;cases hk2;cases hS;cases hx;cases hy;rfl
@[congr] theorem NS {k:TK} {k':TK} {z:DV} {z':DV} {S:St} {S':St} {x:DV} {x':DV} {y:DV} {y':DV} {K:DV→St→Prop} (hk:k=k') (hz:z=z') (hS:S=S') (hx:x=x') (hy:y=y'):ix k z S x y K=ix k' z' S' x' y' K:=by cases hk;cases hz;cases hS;cases hx;cases hy;rfl
@[congr] theorem QA {k:TK} {k':TK} {k2:TK} {k2':TK} {S:St} {S':St} {x:DV} {x':DV} {y:DV} {y':DV} {K:DV→St→Prop} (hk:k=k') (hk2:k2=k2') (hS:S=S') (hx:x=x') (hy:y=y'):qF k k2 S x y K=qF k' k2' S' x' y' K:=by cases hk;cases hk2;cases hS;cases hx;cases hy;rfl
@[congr] theorem QK {k:TK} {k':TK} {z:DV} {z':DV} {S:St} {S':St} {x:DV} {x':DV} {y:DV} {y':DV} {K:DV→St→Prop} (hk:k=k') (hz:z=z') (hS:S=S') (hx:x=x') (hy:y=y'):rp k z S x y K=rp k' z' S' x' y' K:=by cases hk;cases hz;cases hS;cases hx;cases hy;rfl
@[congr] theorem Qz {k:TK} {k':TK} {S:St} {S':St} {x:DV} {x':DV} {y:DV} {y':DV} {K:DV→St→Prop} (hk:k=k') (hS:S=S') (hx:x=x') (hy:y=y'):vq k S x y K=vq k' S' x' y' K:=by cases hk;cases hS;cases hx;cases hy;rfl
@[congr] theorem Pm {k:TK} {k':TK} {z:DV} {z':DV} {S:St} {S':St} {x:DV} {x':DV} {K:DV→St→Prop} (hk:k=k') (hz:z=z') (hS:S=S') (hx:x=x'):jC k z S x K=jC k' z' S' x' K:=by cases hk;cases hz;cases hS;cases hx;rfl
@[congr] theorem Rg {S:St} {S':St} {s:Nat} {s':Nat} {ds:List DV} {ds':List DV} {o:Nat} {o':Nat} {b:Nat} {n:Nat} {n':Nat} {y:DV} {y':DV} {K:DV→St→Prop} (hS:S=S') (hs:s=s') (hds:ds=ds') (ho:o=o') (hn:n=n') (hy:y=y'):JK S s ds o b n y K=JK S' s' ds' o' b n' y' K:=by cases hS;cases hs;cases hds;cases ho;cases hn;cases hy;rfl
@[congr] theorem QF {S:St} {S':St} {s:Nat} {s':Nat} {y:DV} {y':DV} {F:Nat→List DV→Prop} (hS:S=S') (hs:s=s') (hy:y=y'):vJ S s y F=vJ S' s' y' F:=by cases hS;cases hs;cases hy;rfl
@[congr] theorem O5 {op:BinOp} {k:TK} {k':TK} {x:DV} {x':DV} {K:DV→Prop} (hk:k=k') (hx:x=x'):kz op k x K=kz op k' x' K:=by cases hk;cases hx;rfl
@[congr] theorem Qu {S:St} {S':St} {x:DV} {x':DV} {z:Nat} {z':Nat} {K:DV→St→Prop} (hS:S=S') (hx:x=x') (hz:z=z'):qV S x z K=qV S' x' z' K:=by cases hS;cases hx;cases hz;rfl
@[congr] theorem ND {k:TK} {k':TK} {S:St} {S':St} {x:DV} {x':DV} {lo:Option DV} {lo':Option DV} {hi:Option DV} {hi':Option DV} {mx:Option DV} {mx':Option DV} {K:DV→St→Prop} (hk:k=k') (hS:S=S') (hx:x=x') (hlo:lo=lo') (hhi:hi=hi') (hmx:mx=mx'):eW k S x lo hi mx K=eW k' S' x' lo' hi' mx' K:=by cases hk;cases hS;cases hx;cases hlo;cases hhi;cases hmx;rfl
@[congr] theorem NH {k:TK} {k':TK} {S:St} {S':St} {x:DV} {x':DV} {lo:Option DV} {lo':Option DV} {hi:Option DV} {hi':Option DV} {mx:Option DV} {mx':Option DV} {K:DV→St→Prop} (hk:k=k') (hS:S=S') (hx:x=x') (hlo:lo=lo') (hhi:hi=hi') (hmx:mx=mx'):gi k S x lo hi mx K=gi k' S' x' lo' hi' mx' K:=by cases hk;cases hS;cases hx;cases hlo;cases hhi;cases hmx;rfl
@[congr] theorem Ix {k:TK} {k':TK} {z:DV} {z':DV} {x:DV} {x':DV} {y:DV} {y':DV} {S:St} {S':St} {K:DV→St→Prop} (hk:k=k') (hz:z=z') (hx:x=x') (hy:y=y') (hS:S=S'):cW k z x y S K=cW k' z' x' y' S' K:=by cases hk;cases hz;cases hx;cases hy;cases hS;rfl
@[congr] theorem Ri {S:St} {S':St} {d:DV} {d':DV} {K:DV→St→Prop} (hS:S=S') (hd:d=d'):ju S d K=ju S' d' K:=by cases hS;cases hd;rfl
@[congr] theorem Q0 {S:St} {S':St} {d:List DV} {d':List DV} {K:List DV→St→Prop} (hS:S=S') (hd:d=d'):iR S d K=iR S' d' K:=by cases hS;cases hd;rfl
@[congr] theorem TF {S:St} {S':St} {d:DV} {d':DV} {K:DV→St→Prop} (hS:S=S') (hd:d=d'):shr S d K=shr S' d' K:=by cases hS;cases hd;rfl
@[congr] theorem Ru {S:St} {S':St} {d:List DV} {d':List DV} {K:List DV→St→Prop} (hS:S=S') (hd:d=d'):eG S d K=eG S' d' K:=by cases hS;cases hd;rfl
@[congr] theorem Rw {S:St} {S':St} {d:DV} {d':DV} {K:DV→St→Prop} (hS:S=S') (hd:d=d'):nj S d K=nj S' d' K:=by cases hS;cases hd;rfl
@[congr] theorem Re {S:St} {S':St} {d:List DV} {d':List DV} {F:List DV→St→Prop} (hS:S=S') (hd:d=d'):eU S d F=eU S' d' F:=by cases hS;cases hd;rfl
@[congr] theorem SY {p:Option (Nat×Nat×Bool)} {p':Option (Nat×Nat×Bool)} {x:DV} {x':DV} {K:DV→Prop} (hp:p=p') (hx:x=x'):NT p x K=NT p' x' K:=by cases hp;cases hx;rfl
@[congr] theorem TL {p:Option (Nat×Nat×Bool)} {p':Option (Nat×Nat×Bool)} {ds:List DV} {ds':List DV} {K:DV→Prop} (hp:p=p') (hds:ds=ds'):NZ p ds K=NZ p' ds' K:=by cases hp;cases hds;rfl
@[congr] theorem US {t:Nat} {t':Nat} {d:DV} {d':DV} {fr:List DV} {fr':List DV} {want:Bool} {want':Bool} {A:List DV→Prop} {B:List DV→Prop} (ht:t=t') (hd:d=d') (hfr:fr=fr') (hwant:want=want'):gD t d fr want A B=gD t' d' fr' want' A B:=by cases ht;cases hd;cases hfr;cases hwant;rfl
@[congr] theorem Ui {t:Option Tmp} {t':Option Tmp} {fr:List DV} {fr':List DV} {want:Bool} {want':Bool} {A:List DV→Prop} {B:List DV→Prop} (ht:t=t') (hfr:fr=fr') (hwant:want=want'):gK t fr want A B=gK t' fr' want' A B:=by cases ht;cases hfr;cases hwant;rfl
@[congr] theorem OF {ops:Array Oper} {fr:List DV} {fr':List DV} {gd:Option (Nat×Bool)} {gd':Option (Nat×Bool)} {A:List DV→Prop} {B:List DV→Prop} (hfr:fr=fr') (hgd:gd=gd'):bz ops fr gd A B=bz ops fr' gd' A B:=by cases hfr;cases hgd;rfl
@[congr] theorem Tp {k:TK} {k':TK} {z:DV} {z':DV} {parts:List (Nat×DV)} {parts':List (Nat×DV)} {K:DV→Prop} (hk:k=k') (hz:z=z') (hparts:parts=parts'):Qb k z parts K=Qb k' z' parts' K:=by cases hk;cases hz;cases hparts;rfl
@[congr] theorem TB {xs:List DV} {xs':List DV} {i:Nat} {i':Nat} {F:DV→Prop} (hxs:xs=xs') (hi:i=i'):Ca xs i F=Ca xs' i' F:=by cases hxs;cases hi;rfl
@[congr] theorem TA {xs:List DV} {xs':List DV} {i:Nat} {i':Nat} {F:DV→Prop} (hxs:xs=xs') (hi:i=i'):Hg xs i F=Hg xs' i' F:=by cases hxs;cases hi;rfl
@[congr] theorem Ug {o:Option Ob} {o':Option Ob} {F:Nat→List DV→Prop} {G:Nat→List DV→Prop} (ho:o=o'):bK o F G=bK o' F G:=by cases ho;rfl
@[congr] theorem T8 {o:Option Ob} {o':Option Ob} {F:KK→List (Value×DV×Nat)→Nat→Prop} (ho:o=o'):xK o F=xK o' F:=by cases ho;rfl
@[congr] theorem UC {o:Option Ob} {o':Option Ob} {F:Nat→Nat→List Nat→Nat→Prop} (ho:o=o'):iK o F=iK o' F:=by cases ho;rfl
@[congr] theorem To {o:Option Ob} {o':Option Ob} {G:Prop} {F:Nat→Nat→List Nat→Nat→Prop} (ho:o=o'):N4 o G F=N4 o' G F:=by cases ho;rfl
@[congr] theorem Td {o:Option DV} {o':Option DV} {F:DV→Prop} {G:Prop} (ho:o=o'):Mf o F G=Mf o' F G:=by cases ho;rfl
@[congr] theorem N2 {m:Option (KK×DV)} {m':Option (KK×DV)} {S:St} {S':St} {x:DV} {x':DV} {y:DV} {y':DV} {ok:Bool} {ok':Bool} {K:DV→Prop} (hm:m=m') (hS:S=S') (hx:x=x') (hy:y=y') (hok:ok=ok'):bC m S x y ok K=bC m' S' x' y' ok' K:=by cases hm;cases hS;cases hx;cases hy;cases hok;rfl
@[congr] theorem N5 {m:Option (KK×DV)} {m':Option (KK×DV)} {S:St} {S':St} {x:DV} {x':DV} {y:DV} {y':DV} {d:DV} {d':DV} {K:St→Prop} (hm:m=m') (hS:S=S') (hx:x=x') (hy:y=y') (hd:d=d'):dO m S x y d K=dO m' S' x' y' d' K:=by cases hm;cases hS;cases hx;cases hy;cases hd;rfl
@[congr] theorem NM {m:Option (KK×DV)} {m':Option (KK×DV)} {S:St} {S':St} {x:DV} {x':DV} {y:DV} {y':DV} {K:St→Prop} (hm:m=m') (hS:S=S') (hx:x=x') (hy:y=y'):fR m S x y K=fR m' S' x' y' K:=by cases hm;cases hS;cases hx;cases hy;rfl
@[congr] theorem Ty {k:TK} {k':TK} {m:Option (KK×DV)} {m':Option (KK×DV)} {S:St} {S':St} {x:DV} {x':DV} {K:DV→St→Prop} (hk:k=k') (hm:m=m') (hS:S=S') (hx:x=x'):JR k m S x K=JR k' m' S' x' K:=by cases hk;cases hm;cases hS;cases hx;rfl
@[congr] theorem NB {S:St} {S':St} {x:DV} {x':DV} {K:DV→St→Prop} (hS:S=S') (hx:x=x'):iA S x K=iA S' x' K:=by cases hS;cases hx;rfl
@[congr] theorem TM {b:Bool} {b':Bool} {S:St} {S':St} {x:DV} {x':DV} {K:DV→St→Prop} (hb:b=b') (hS:S=S') (hx:x=x'):Lk b S x K=Lk b' S' x' K:=by cases hb;cases hS;cases hx;rfl
@[congr] theorem ON {S:St} {S':St} {x:DV} {x':DV} {K:DV→St→Prop} (hS:S=S') (hx:x=x'):jl S x K=jl S' x' K:=by cases hS;cases hx;rfl
@[congr] theorem TE {o:Option Ob} {o':Option Ob} {F:ByteArray→Nat→Prop} (ho:o=o'):Pg o F=Pg o' F:=by cases ho;rfl
@[congr] theorem PO {m:Option (KK×DV)} {m':Option (KK×DV)} {S:St} {S':St} {x:DV} {x':DV} {K:DV→St→Prop} (hm:m=m') (hS:S=S') (hx:x=x'):iq m S x K=iq m' S' x' K:=by cases hm;cases hS;cases hx;rfl
@[congr] theorem Lg {m:Option (KK×DV)} {m':Option (KK×DV)} {r:Option Operand} {S:St} {S':St} {K:DV→St→Prop} (hm:m=m') (hS:S=S'):fL m r S K=fL m' r S' K:=by cases hm;cases hS;rfl
@[congr] theorem Q2 {S:St} {S':St} {x:DV} {x':DV} {s:Bool} {s':Bool} {K:DV→St→Prop} (hS:S=S') (hx:x=x') (hs:s=s'):pF S x s K=pF S' x' s' K:=by cases hS;cases hx;cases hs;rfl
@[congr] theorem PQ {S:St} {S':St} {x:DV} {x':DV} {K:DV→Prop} (hS:S=S') (hx:x=x'):ji S x K=ji S' x' K:=by cases hS;cases hx;rfl
@[congr] theorem UZ {α:Type} {o o':Option α} {F:α→Prop} (h:o=o'):oK o F=oK o' F:=by cases h;rfl
@[congr] theorem Sf {P:Program} {w0:W0} {op:Op} {fr:List DV} {fr':List DV} {S:St} {S':St} {K:DV→St→Prop} (hfr:fr=fr') (hS:S=S'):aE P w0 op fr S K=aE P w0 op fr' S' K:=by cases hfr;cases hS;rfl
@[congr] theorem Ra {P:Program} {w0:W0} {op:Op} {fr:List DV} {fr':List DV} {S:St} {S':St} {K:DV→Prop} (hfr:fr=fr') (hS:S=S'):aO P w0 op fr S K=aO P w0 op fr' S' K:=by cases hfr;cases hS;rfl
@[congr] theorem QT {P:Program} {w0:W0} {cal:DV} {cal':DV} {ds:List DV} {ds':List DV} {S:St} {S':St} {K:DV→St→Prop} (hcal:cal=cal') (hds:ds=ds') (hS:S=S'):lG P w0 cal ds S K=lG P w0 cal' ds' S' K:=by cases hcal;cases hds;cases hS;rfl
@[congr] theorem Oi {P:Program} {w0:W0} {cal:DV} {cal':DV} {ds:List DV} {ds':List DV} {S:St} {S':St} {K:DV→Prop} (hcal:cal=cal') (hds:ds=ds') (hS:S=S'):kq P w0 cal ds S K=kq P w0 cal' ds' S' K:=by cases hcal;cases hds;cases hS;rfl
@[congr] theorem S5 {P:Program} {w0:W0} {ops:Array Oper} {K:List DV→St→Prop} {l:List Oper} {fr:List DV} {fr':List DV} {S:St} {S':St} (hfr:fr=fr') (hS:S=S'):nB P w0 ops K l fr S=nB P w0 ops K l fr' S':=by cases hfr;cases hS;rfl
@[congr] theorem Qy {P:Program} {op:BinOp} {t:TypeId} {cx:Bool} {cx':Bool} {cy:Bool} {cy':Bool} {x:DV} {x':DV} {y:DV} {y':DV} {K:DV→Prop} (hcx:cx=cx') (hcy:cy=cy') (hx:x=x') (hy:y=y'):gM P op t cx cy x y K=gM P op t cx' cy' x' y' K:=by cases hcx;cases hcy;cases hx;cases hy;rfl
@[congr] theorem Qe {P:Program} {t:TypeId} {parts:List (Nat×DV)} {parts':List (Nat×DV)} {K:DV→Prop} (hparts:parts=parts'):dq P t parts K=dq P t parts' K:=by cases hparts;rfl
@[congr] theorem NV {P:Program} {t:TypeId} {ok:Bool} {ok':Bool} {x:DV} {x':DV} {K:DV→Prop} (hok:ok=ok') (hx:x=x'):nK P t ok x K=nK P t ok' x' K:=by cases hok;cases hx;rfl
@[congr] theorem QU {P:Program} {fr:List DV} {fr':List DV} {S:St} {S':St} {K:DV→Prop} {r:ResultVar} (hfr:fr=fr') (hS:S=S'):mX P fr S K r=mX P fr' S' K r:=by cases hfr;cases hS;rfl
@[congr] theorem QM {P:Program} {fr:List DV} {fr':List DV} {S:St} {S':St} {r:List ResultVar} {K:List DV→Prop} (hfr:fr=fr') (hS:S=S'):pc P fr S r K=pc P fr' S' r K:=by cases hfr;cases hS;rfl
@[congr] theorem Sh {P:Program} {fr:List DV} {fr':List DV} {S:St} {S':St} {r:List ResultVar} {K:DV→Prop} (hfr:fr=fr') (hS:S=S'):jP P fr S r K=jP P fr' S' r K:=by cases hfr;cases hS;rfl
def bV(b:Bool)(A B:Prop):Prop:=match b with
 |true=>A
 |false=>B
theorem GX(A B:Prop):bV true A B=A:=rfl
theorem Hz(A B:Prop):bV false A B=B:=rfl
@[congr] theorem RI {b b':Bool} {A B:Prop} (h:b=b'):bV b A B=bV b' A B:=by cases h;rfl
theorem Hs(S:St)(ds:List DV)(F:List DV→St→Prop):eU S ds F=bV (dJ ds) (F ds S∨eG S ds F) (eG S ds F):=by
 unfold eU bV;cases dJ ds <;>rfl
attribute [go_sem ↓] GX Hz Hs
def GA(S:St)(d:DV)(K:DV→St→Prop):Prop:=∀b,gB S.box b→K (.v (.pointer (some ⟨b,0,none⟩))) ⟨(b,cd d)::S.box,S.acc⟩
@[congr] theorem Tl {S S':St} {d d':DV} {K:DV→St→Prop} (h1:S=S') (h2:d=d'):GA S d K=GA S' d' K:=by cases h1;cases h2;rfl
theorem wm(x:Operand):mB (.move x)=true:=rfl
theorem rK(x:Operand):mB (.assign x)=true:=rfl
theorem wH(c a b:Operand):mB (.pick c a b)=true:=rfl
theorem wC(t:TypeId)(x:Operand):mB (.load t x)=true:=rfl
theorem nw(t:TypeId)(x:Operand)(f:Nat):mB (.fieldAddr t x f)=true:=rfl
theorem nh(t:TypeId)(x i:Operand):mB (.indexAddr t x i)=true:=rfl
theorem qE(x:Operand)(i:Nat):mB (.extract x i)=true:=rfl
theorem oE(x:Operand):mB (.nilCheck x)=true:=rfl
theorem vM(b:BinOp)(t:TypeId)(x y:Operand)(t':TypeId):mB (.binOp b t x y t')=true:=rfl
theorem wx(b:UnOp)(t:TypeId)(x:Operand):mB (.unOp b t x)=true:=rfl
theorem tT(t:TypeId)(parts:Array (Nat×Operand)):mB (.build t parts)=true:=rfl
theorem lX(t:TypeId)(len:Nat)(parts:Array (Nat×Operand)):mB (.buildSlice t len parts)=true:=rfl
theorem oV(fn:Fn)(a b:Array Operand):mB (.makeFunc fn a b)=true:=rfl
theorem uC(t:TypeId)(x:Operand)(lo hi mx:Option Operand):mB (.slice t x lo hi mx)=true:=rfl
theorem vA(t:TypeId)(x y:Operand):mB (.store t x y)=false:=rfl
theorem rG(t:TypeId)(x i:Operand)(ok:Bool):mB (.lookup t x i ok)=true:=rfl
theorem nk(t:TypeId)(m k v:Operand):mB (.mapUpdate t m k v)=false:=rfl
theorem Ah(x:Operand)(a:Array Operand)(ts:Array TypeId):mB (.call ⟨.value x,a,ts⟩)=true:=rfl
theorem uM(a:Array Operand)(ts:Array TypeId):mB (.call ⟨.builtin .len,a,ts⟩)=true:=rfl
theorem pd(a:Array Operand)(ts:Array TypeId):mB (.call ⟨.builtin .append,a,ts⟩)=false:=rfl
theorem qc(a:Array Operand)(ts:Array TypeId):mB (.call ⟨.builtin .delete,a,ts⟩)=false:=rfl
theorem C9(fr:List DV)(t:Nat):ev fr (.tmp t)=fr.getD t ud:=rfl
theorem vV(fr:List DV)(u:Value):ev fr (.const u)=cv u:=rfl
theorem Ar(fr:List DV)(f:FuncId):ev fr (.func f)= .v (.func (.func f) #[] #[]):=rfl
theorem Br(fr:List DV)(t:Nat)(d:DV):pt fr (some t) d=fr.set t d:=rfl
theorem zL(fr:List DV)(d:DV):pt fr none d=fr:=rfl
theorem ER(k:IntKind)(n:Int):cv (.int k n)= .v (.int k n):=rfl
theorem zq(b:Bool):cv (.bool b)= .v (.bool b):=rfl
theorem FT(s:ByteArray):cv (.string s)= .v (.string s):=rfl
theorem Ep:cv (.slice none 0 0)= .sl 0 true []:=rfl
theorem Ee(a:Option Addr):cv (.pointer a)= .v (.pointer a):=rfl
theorem Da(a:Option Nat):cv (.map a)= .v (.map a):=rfl
theorem EG:cv (.nilFunc)= .v .nilFunc:=rfl
theorem uV:mW (.str)=false:=rfl
theorem vz(k:IntKind):mW (.int k)=false:=rfl
theorem ye(k:IntKind):qC (.int k)=true:=rfl
theorem Bz(e s b:Nat)(i:Bool):qC (.sl e s b i)=false:=rfl
theorem tA(e s b:Nat)(i:Bool):oa (.sl e s b i)=true:=rfl
theorem EO(u:Value):qk (.v u)=true:=rfl
theorem B3(s:Nat)(f:Bool)(xs:List DV):qk (.sl s f xs)=true:=rfl
theorem AP(u:Value):dV (.v u)=true:=rfl
theorem wD(s:Nat)(f:Bool)(xs:List DV):dV (.sl s f xs)=true:=rfl
theorem tw(ds:List DV):dV (.agg ds)=ds.all qk:=rfl
theorem BH(t:Nat):uY (.tmp t)=false:=rfl
theorem uJ(u:Value):uY (.const u)=true:=rfl
theorem wU:cB []=some []:=rfl
theorem F0(u:Value)(ds:List DV):cB (.v u::ds)=(cB ds).map (u::·):=rfl
theorem vK(fs:List (Nat×Nat×Bool))(ds:List DV):gO fs ds []=some ds:=rfl
def Rj(p:Option (Nat×Nat×Bool))(fs:List (Nat×Nat×Bool))(d:DV)(ds:List DV)(rest:List (Nat×DV)):Option (List DV):=match p with
 |none=>none
 |some (off,sz,_)=>if dh d&&(cd d).length==sz&&decide (off+sz≤ds.length)then gO fs (ej ds off (cd d)) rest else none
theorem sf(fs:List (Nat×Nat×Bool))(ds:List DV)(i:Nat)(d:DV)(rest:List (Nat×DV)):gO fs ds ((i,d)::rest)=Rj (fs[i]?) fs d ds rest:=by rw[gO];unfold Rj;cases fs[i]? <;>rfl
theorem Pv(off sz:Nat)(ag:Bool)(fs:List (Nat×Nat×Bool))(d:DV)(ds:List DV)(rest:List (Nat×DV)):Rj (some (off,sz,ag)) fs d ds rest=if dh d&&(cd d).length==sz&&decide (off+sz≤ds.length)then gO fs (ej ds off (cd d)) rest else none:=rfl
theorem vL(s:Nat)(ds:List DV):jX s ds []=some ds:=rfl
theorem sG(s:Nat)(ds:List DV)(i:Nat)(d:DV)(rest:List (Nat×DV)):jX s ds ((i,d)::rest)=if dh d&&(cd d).length==s&&decide (i<ds.length)then jX s (ds.set i d) rest else none:=rfl
theorem tg(ds:List DV)(o:Nat):ej ds o []=ds:=rfl
theorem qB(ds:List DV)(o:Nat)(c:DV)(cs:List DV):ej ds o (c::cs)=ej (ds.set o c) (o+1) cs:=rfl
theorem vy(d:DV)(n:Nat)(y:DV):pC d 0 n n y=some y:=by simp[pC]
theorem xv(k:Nat)(x:Ob)(t:List (Nat×Ob))(p:Nat×Ob):Ho ((k,x)::t) k p=p::t:=by simp[Ho]
theorem wq(k:IntKind):sameKind .add k k=true:=by simp[sameKind]
theorem xC(k:IntKind):sameKind .sub k k=true:=by simp[sameKind]
theorem we(k:IntKind):sameKind .mul k k=true:=by simp[sameKind]
theorem wG(k:IntKind):sameKind .quo k k=true:=by simp[sameKind]
theorem x5(k:IntKind):sameKind .rem k k=true:=by simp[sameKind]
theorem wB(k:IntKind):sameKind .and k k=true:=by simp[sameKind]
theorem BI(k:IntKind):sameKind .or k k=true:=by simp[sameKind]
theorem xq(k:IntKind):sameKind .xor k k=true:=by simp[sameKind]
theorem xw(k:IntKind):sameKind .eql k k=true:=by simp[sameKind]
theorem wy(k:IntKind):sameKind .neq k k=true:=by simp[sameKind]
theorem vX(k:IntKind):sameKind .lss k k=true:=by simp[sameKind]
theorem wW(k:IntKind):sameKind .leq k k=true:=by simp[sameKind]
theorem v7(k:IntKind):sameKind .gtr k k=true:=by simp[sameKind]
theorem xF(k:IntKind):sameKind .geq k k=true:=by simp[sameKind]
theorem xe(k k':IntKind):sameKind .shl k k'=true:=rfl
theorem xA(k k':IntKind):sameKind .shr k k'=true:=rfl
theorem qD{α:Type}(a:α):List.replicate 0 a=[]:=rfl
theorem qm{α:Type}(n:Nat)(a:α):List.replicate (n+1) a=a::List.replicate n a:=rfl
theorem HV{α:Type}(a b:α)(l:List α):(a::l).set 0 b=b::l:=rfl
theorem Jd{α:Type}(a b:α)(l:List α)(n:Nat):(a::l).set (n+1) b=a::l.set n b:=rfl
theorem Sq(live:List Nat)(fr:List DV):wk live fr=cz (qR fr 0 live):=rfl
theorem Au(i:Nat)(js:List Nat):qR [] i js=[]:=rfl
theorem GP(d:DV)(ds:List DV)(i:Nat):qR (d::ds) i []= .any::qR ds (i+1) []:=rfl
theorem IB(d:DV)(ds:List DV)(i j:Nat)(js:List Nat):qR (d::ds) i (j::js)=if i=j then d::qR ds (i+1) js else .any::qR ds (i+1) (j::js):=rfl
theorem xx(fr:List DV):jT fr []=fr:=rfl
theorem u4(fr:List DV)(i:Nat)(d:DV)(us:List (Nat×DV)):jT fr ((i,d)::us)=jT (fr.set i d) us:=rfl
theorem Bc(w0:W0)(fr:List DV)(n:Nat)(F:DV→Prop):AZ w0 fr (.tmp n) F=F (ev fr (.tmp n)):=rfl
theorem xu(w0:W0)(fr:List DV)(b:Nat)(F:DV→Prop):AZ w0 fr (.global b) F=mT w0 b F:=rfl
theorem Mb{P:Program}{w0:W0}{fr:List DV}{S:St}{K:DV→St→Prop}(x:Operand):aE P w0 (.move x) fr S K=(K (ev fr x) S):=rfl
theorem DG{P:Program}{w0:W0}{fr:List DV}{S:St}{K:DV→St→Prop}(x:Operand):aE P w0 (.assign x) fr S K=(K (ev fr x) S):=rfl
theorem Lp{P:Program}{w0:W0}{fr:List DV}{S:St}{K:DV→St→Prop}(c a b:Operand):aE P w0 (.pick c a b) fr S K=(fI (ev fr c) (ev fr a) (ev fr b) (K · S)):=rfl
theorem LD{P:Program}{w0:W0}{fr:List DV}{S:St}{K:DV→St→Prop}(t:TypeId)(x:Operand):aE P w0 (.load t x) fr S K=(ca (tk P t) S (ev fr x) (K · S)):=rfl
theorem uz{P:Program}{w0:W0}{fr:List DV}{S:St}{K:DV→St→Prop}(t:TypeId)(x:Operand)(f:Nat):aE P w0 (.fieldAddr t x f) fr S K=(ee (tk P t) f (ev fr x) (K · S)):=rfl
theorem tz{P:Program}{w0:W0}{fr:List DV}{S:St}{K:DV→St→Prop}(t:TypeId)(x i:Operand):aE P w0 (.indexAddr t x i) fr S K=(AZ w0 fr x fun d=>aB (tk P t) d (ev fr i) (K · S)):=rfl
theorem Bo{P:Program}{w0:W0}{fr:List DV}{S:St}{K:DV→St→Prop}(x:Operand)(i:Nat):aE P w0 (.extract x i) fr S K=(bZ i (ev fr x) (K · S)):=rfl
theorem wj{P:Program}{w0:W0}{fr:List DV}{S:St}{K:DV→St→Prop}(x:Operand):aE P w0 (.nilCheck x) fr S K=(notNil (ev fr x)=true∧K (ev fr x) S):=rfl
theorem Jr{P:Program}{w0:W0}{fr:List DV}{S:St}{K:DV→St→Prop}(b:BinOp)(t:TypeId)(x y:Operand)(t':TypeId):aE P w0 (.binOp b t x y t') fr S K=(bV (eo y) (kz b (tk P t) (ev fr x) (K · S)) (gM P b t (uY x) (uY y) (ev fr x) (ev fr y) (K · S))):=by simp only[aE];unfold bV;cases eo y <;>rfl
theorem Nu{P:Program}{w0:W0}{fr:List DV}{S:St}{K:DV→St→Prop}(b:UnOp)(t:TypeId)(x:Operand):aE P w0 (.unOp b t x) fr S K=(yY b (ev fr x) (K · S)):=rfl
theorem Bh{P:Program}{w0:W0}{fr:List DV}{S:St}{K:DV→St→Prop}(s d:TypeId)(x:Operand):aE P w0 (.convert s d x) fr S K=(gu (tk P s) (tk P d) (tk P (cR P s)) (tk P (cR P d)) S (ev fr x) (K · S)):=rfl
theorem H7{P:Program}{w0:W0}{fr:List DV}{S:St}{K:DV→St→Prop}(t:TypeId)(x:Operand):aE P w0 (.makeInterface t x) fr S K=(mW (tk P t)=false∧shr S (ev fr x) fun d S=>K (.gz t d) S):=rfl
theorem Ha{P:Program}{w0:W0}{fr:List DV}{S:St}{K:DV→St→Prop}(t:TypeId)(parts:List (Nat×Operand)):aE P w0 (.build t parts.toArray) fr S K=(eG S (parts.map fun p=>ev fr p.2) fun ds S=>dq P t ((parts.map (·.1)).zip ds) (K · S)):=rfl
theorem sw{P:Program}{w0:W0}{fr:List DV}{S:St}{K:DV→St→Prop}(t:TypeId)(len:Nat)(parts:List (Nat×Operand)):aE P w0 (.buildSlice t len parts.toArray) fr S K=(eG S (parts.map fun p=>ev fr p.2) fun ds S=>aL (tk P t) (zD P (cR P t)) len ((parts.map (·.1)).zip ds) (K · S)):=rfl
theorem xB{P:Program}{w0:W0}{fr:List DV}{S:St}{K:DV→St→Prop}(fn:Fn)(a b:List Operand):aE P w0 (.makeFunc fn a.toArray b.toArray) fr S K=(jb fn (a.map (ev fr)) (b.map (ev fr)) (K · S)):=rfl
theorem IT{P:Program}{w0:W0}{fr:List DV}{S:St}{K:DV→St→Prop}(t:TypeId)(x:Operand)(lo hi mx:Option Operand):aE P w0 (.slice t x lo hi mx) fr S K=((mx.isSome=true→hi.isSome=true)∧eW (tk P t) S (ev fr x) (lo.map (ev fr)) (hi.map (ev fr)) (mx.map (ev fr)) K):=rfl
theorem P6{P:Program}{w0:W0}{fr:List DV}{S:St}{K:DV→St→Prop}(t:TypeId)(x:Operand):aE P w0 (.box t x) fr S K=(dh (ev fr x)=true∧GA S (ev fr x) K):=rfl
theorem HG{P:Program}{w0:W0}{fr:List DV}{S:St}{K:DV→St→Prop}(t:TypeId):aE P w0 (.alloc t) fr S K=(dh (zD P t)=true∧GA S (zD P t) K):=rfl
theorem It{P:Program}{w0:W0}{fr:List DV}{S:St}{K:DV→St→Prop}(t:TypeId)(x y:Operand):aE P w0 (.store t x y) fr S K=((P.info? t).isSome=true∧cN (P.cellsOf t) S (ev fr x) (ev fr y) (K ud)):=rfl
theorem tC{P:Program}{w0:W0}{fr:List DV}{S:St}{K:DV→St→Prop}(t:TypeId)(x y:Operand):aE P w0 (.makeSlice t x y) fr S K=(cW (tk P t) (zD P (cR P t)) (ev fr x) (ev fr y) S K):=rfl
theorem OY{P:Program}{w0:W0}{fr:List DV}{S:St}{K:DV→St→Prop}(x:Operand)(t:TypeId):aE P w0 (.call ⟨.builtin .len, #[x], #[t]⟩) fr S K=(lN (tk P t) (ev fr x) (K · S)):=rfl
theorem Ql{P:Program}{w0:W0}{fr:List DV}{S:St}{K:DV→St→Prop}(x:Operand)(t:TypeId):aE P w0 (.call ⟨.builtin .cap, #[x], #[t]⟩) fr S K=(pM (tk P t) (ev fr x) (K · S)):=rfl
theorem FH{P:Program}{w0:W0}{fr:List DV}{S:St}{K:DV→St→Prop}(x y:Operand)(t t':TypeId):aE P w0 (.call ⟨.builtin .append, #[x,y], #[t,t']⟩) fr S K=(bV (rn (ev fr x)) (bV (qC (tk P t')) (rp (tk P t) (zD P (cR P t)) S (ev fr x) (ev fr y) K) (qF (tk P t) (tk P t') S (ev fr x) (ev fr y) K)) (bV (qC (tk P t')) (ix (tk P t) (zD P (cR P t)) S (ev fr x) (ev fr y) K) (ie (tk P t) (tk P t') S (ev fr x) (ev fr y) K))):=by simp only[aE];unfold bV;cases rn (ev fr x) <;>cases qC (tk P t') <;>rfl
theorem HB{P:Program}{w0:W0}{fr:List DV}{S:St}{K:DV→St→Prop}(x:Operand)(t:TypeId):aE P w0 (.call ⟨.builtin .clear, #[x], #[t]⟩) fr S K=(jC (tk P t) (zD P (cR P t)) S (ev fr x) K):=rfl
theorem O2{P:Program}{w0:W0}{fr:List DV}{S:St}{K:DV→St→Prop}(x y:Operand)(ts:Array TypeId):aE P w0 (.call ⟨.builtin .min, #[x,y],ts⟩) fr S K=(pD (ev fr x) (ev fr y) (K · S)):=rfl
theorem OH{P:Program}{w0:W0}{fr:List DV}{S:St}{K:DV→St→Prop}(x y:Operand)(ts:Array TypeId):aE P w0 (.call ⟨.builtin .max, #[x,y],ts⟩) fr S K=(nY (ev fr x) (ev fr y) (K · S)):=rfl
theorem MM{P:Program}{w0:W0}{fr:List DV}{S:St}{K:DV→St→Prop}(cal:Operand)(a:List Operand)(ts:Array TypeId):aE P w0 (.call ⟨.value cal,a.toArray,ts⟩) fr S K=(lG P w0 (ev fr cal) (a.map (ev fr)) S K):=rfl
theorem EM{P:Program}{w0:W0}{fr:List DV}{S:St}{K:DV→St→Prop}(t:TypeId)(x y:Operand)(ok:Bool):aE P w0 (.lookup t x y ok) fr S K=(bC (kg P t) S (ev fr x) (ev fr y) ok (K · S)):=rfl
theorem Gd{P:Program}{w0:W0}{fr:List DV}{S:St}{K:DV→St→Prop}(t:TypeId)(x y z:Operand):aE P w0 (.insert t x y z) fr S K=(dO (kg P t) S (ev fr x) (ev fr y) (ev fr z) (K ud)):=rfl
theorem vc{P:Program}{w0:W0}{fr:List DV}{S:St}{K:DV→St→Prop}(t:TypeId)(x y z:Operand):aE P w0 (.mapUpdate t x y z) fr S K=(dO (kg P t) S (ev fr x) (ev fr y) (ev fr z) (K ud)):=rfl
theorem BZ{P:Program}{w0:W0}{fr:List DV}{S:St}{K:DV→St→Prop}(t:TypeId)(r:Option Operand):aE P w0 (.makeMap t r) fr S K=(fL (kg P t) r S K):=rfl
theorem Hx{P:Program}{w0:W0}{fr:List DV}{S:St}{K:DV→St→Prop}(t:TypeId)(x:Operand):aE P w0 (.range t x) fr S K=(JR (tk P t) (kg P t) S (ev fr x) K):=rfl
theorem M3{P:Program}{w0:W0}{fr:List DV}{S:St}{K:DV→St→Prop}(x:Operand)(s:Bool):aE P w0 (.next x s) fr S K=(Lk s S (ev fr x) K):=rfl
theorem Ie{P:Program}{w0:W0}{fr:List DV}{S:St}{K:DV→St→Prop}(x:Operand):aE P w0 (.entry x) fr S K=(ji S (ev fr x) (K · S)):=rfl
theorem Dw{P:Program}{w0:W0}{fr:List DV}{S:St}{K:DV→St→Prop}(x y:Operand)(t t':TypeId):aE P w0 (.call ⟨.builtin .delete, #[x,y], #[t,t']⟩) fr S K=(fR (kg P t) S (ev fr x) (ev fr y) (K ud)):=rfl
theorem Lb{P:Program}{w0:W0}{fr:List DV}{S:St}{K:DV→Prop}(x:Operand):aO P w0 (.move x) fr S K=(K (ev fr x)):=rfl
theorem C1{P:Program}{w0:W0}{fr:List DV}{S:St}{K:DV→Prop}(x:Operand):aO P w0 (.assign x) fr S K=(K (ev fr x)):=rfl
theorem No{P:Program}{w0:W0}{fr:List DV}{S:St}{K:DV→Prop}(c a b:Operand):aO P w0 (.pick c a b) fr S K=(fI (ev fr c) (ev fr a) (ev fr b) K):=rfl
theorem MA{P:Program}{w0:W0}{fr:List DV}{S:St}{K:DV→Prop}(t:TypeId)(x:Operand):aO P w0 (.load t x) fr S K=(ca (tk P t) S (ev fr x) K):=rfl
theorem uE{P:Program}{w0:W0}{fr:List DV}{S:St}{K:DV→Prop}(t:TypeId)(x:Operand)(f:Nat):aO P w0 (.fieldAddr t x f) fr S K=(ee (tk P t) f (ev fr x) K):=rfl
theorem vg{P:Program}{w0:W0}{fr:List DV}{S:St}{K:DV→Prop}(t:TypeId)(x i:Operand):aO P w0 (.indexAddr t x i) fr S K=(AZ w0 fr x fun d=>aB (tk P t) d (ev fr i) K):=rfl
theorem Hy{P:Program}{w0:W0}{fr:List DV}{S:St}{K:DV→Prop}(t:TypeId)(x:Operand)(f:Nat):aO P w0 (.field t x f) fr S K=(cO (tk P t) f (ev fr x) K):=rfl
theorem Av{P:Program}{w0:W0}{fr:List DV}{S:St}{K:DV→Prop}(x:Operand)(i:Nat):aO P w0 (.extract x i) fr S K=(bZ i (ev fr x) K):=rfl
theorem wF{P:Program}{w0:W0}{fr:List DV}{S:St}{K:DV→Prop}(x:Operand):aO P w0 (.nilCheck x) fr S K=(notNil (ev fr x)=true∧K (ev fr x)):=rfl
theorem I1{P:Program}{w0:W0}{fr:List DV}{S:St}{K:DV→Prop}(b:BinOp)(t:TypeId)(x y:Operand)(t':TypeId):aO P w0 (.binOp b t x y t') fr S K=(eo y=false∧gM P b t (uY x) (uY y) (ev fr x) (ev fr y) K):=rfl
theorem Lq{P:Program}{w0:W0}{fr:List DV}{S:St}{K:DV→Prop}(b:UnOp)(t:TypeId)(x:Operand):aO P w0 (.unOp b t x) fr S K=(yY b (ev fr x) K):=rfl
theorem xI{P:Program}{w0:W0}{fr:List DV}{S:St}{K:DV→Prop}(fn:Fn)(a b:List Operand):aO P w0 (.makeFunc fn a.toArray b.toArray) fr S K=(jb fn (a.map (ev fr)) (b.map (ev fr)) K):=rfl
theorem HY{P:Program}{w0:W0}{fr:List DV}{S:St}{K:DV→Prop}(t:TypeId)(x:Operand)(lo hi mx:Option Operand):aO P w0 (.slice t x lo hi mx) fr S K=((mx.isSome=true→hi.isSome=true)∧qk (ev fr x)=true∧eR (tk P t) (ev fr x) (lo.map (ev fr)) (hi.map (ev fr)) (mx.map (ev fr)) K):=rfl
theorem FJ{P:Program}{w0:W0}{fr:List DV}{S:St}{K:DV→Prop}(t:TypeId)(x y:Operand)(ok:Bool):aO P w0 (.lookup t x y ok) fr S K=(bC (kg P t) S (ev fr x) (ev fr y) ok K):=rfl
theorem HJ{P:Program}{w0:W0}{fr:List DV}{S:St}{K:DV→Prop}(t:TypeId)(parts:List (Nat×Operand)):aO P w0 (.build t parts.toArray) fr S K=((parts.map fun p=>ev fr p.2).all dV=true∧dq P t ((parts.map (·.1)).zip (parts.map fun p=>ev fr p.2)) K):=rfl
theorem tf{P:Program}{w0:W0}{fr:List DV}{S:St}{K:DV→Prop}(t:TypeId)(len:Nat)(parts:List (Nat×Operand)):aO P w0 (.buildSlice t len parts.toArray) fr S K=((parts.map fun p=>ev fr p.2).all dV=true∧aL (tk P t) (zD P (cR P t)) len ((parts.map (·.1)).zip (parts.map fun p=>ev fr p.2)) K):=rfl
theorem O8{P:Program}{w0:W0}{fr:List DV}{S:St}{K:DV→Prop}(x:Operand)(t:TypeId):aO P w0 (.call ⟨.builtin .len, #[x], #[t]⟩) fr S K=(lN (tk P t) (ev fr x) K):=rfl
theorem Lc{P:Program}{w0:W0}{fr:List DV}{S:St}{K:DV→Prop}(cal:Operand)(a:List Operand)(ts:Array TypeId):aO P w0 (.call ⟨.value cal,a.toArray,ts⟩) fr S K=(kq P w0 (ev fr cal) (a.map (ev fr)) S K):=rfl
attribute [go_sem ↓] Mb DG Lp LD uz tz Bo wj Jr Nu Bh H7 Ha sw xB IT P6 HG It tC OY Ql FH HB O2 OH MM EM Gd vc BZ Hx M3 Ie Dw
attribute [go_sem ↓] Lb C1 No MA uE vg Hy Av wF I1 Lq xI HY FJ HJ tf O8 Lc
attribute [go_sem] wm rK wH wC nw nh qE oE vM wx tT lX oV uC vA rG nk Ah uM pd qc
attribute [go_sem] C9 vV Ar Br zL ER zq FT Ep Ee Da EG uV vz ye Bz
attribute [go_sem] tA EO B3 AP wD tw BH uJ wU F0 vK sf Pv
attribute [go_sem] vL sG tg qB vy xv wq xC we wG x5 wB BI xq xw wy vX wW v7 xF xe xA qD qm HV Jd Sq Au GP IB xx u4 Bc
attribute [go_sem] xu
section
variable {P:Program} {w0:W0} {K:DV→Prop} {A B:Prop} {F G:List DV→Prop}
/- Tests:what is known is gone by;what can't be known parts the TW. -/
theorem Cu:cf (.v (.bool true)) A B=A:=by simp[cf]
theorem Gu:cf (.v (.bool false)) A B=B:=by simp[cf]
theorem CP(p:Prop)[Decidable p]:cf (.v (.bool (decide p))) A B=((p→A)∧(¬p→B)):=by simp[cf]
theorem Cm(b:Bool):cf (.v (.bool (!b))) A B=cf (.v (.bool b)) B A:=by
 simp only[cf,Bool.not_eq_eq_eq_not,Bool.not_true,Bool.not_false];exact propext ⟨fun h=>⟨h.2,h.1⟩,fun h=>⟨h.2,h.1⟩⟩
theorem C6(b:Bool):cf (.v (.bool b)) A B=((b=true→A)∧(b=false→B)):=rfl
theorem E3(a b:DV):fI (.v (.bool true)) a b K=K a:=by simp[fI]
theorem FL(a b:DV):fI (.v (.bool false)) a b K=K b:=by simp[fI]
/- A choice between what is known is the test itself. -/
theorem Ig(t:Nat)(fr:List DV):gD t (.v (.bool true)) fr true F G=F (fr.set t (.v (.bool true))):=by simp[gD]
theorem IX(t:Nat)(fr:List DV):gD t (.v (.bool true)) fr false F G=G (fr.set t (.v (.bool true))):=by simp[gD]
theorem Hr(t:Nat)(fr:List DV):gD t (.v (.bool false)) fr true F G=G (fr.set t (.v (.bool false))):=by simp[gD]
theorem HZ(t:Nat)(fr:List DV):gD t (.v (.bool false)) fr false F G=F (fr.set t (.v (.bool false))):=by simp[gD]
theorem G5(p:Prop)[Decidable p](t:Nat)(fr:List DV):gD t (.v (.bool (decide p))) fr true F G=((p→F (fr.set t (.v (.bool true))))∧(¬p→G (fr.set t (.v (.bool false))))):=by simp[gD]
theorem Ju(p:Prop)[Decidable p](t:Nat)(fr:List DV):gD t (.v (.bool (decide p))) fr false F G=((p→G (fr.set t (.v (.bool true))))∧(¬p→F (fr.set t (.v (.bool false))))):=by
 simp only[gD,decide_eq_false_iff_not,Bool.not_false,decide_eq_true_eq];exact propext ⟨fun h=>⟨h.2,h.1⟩,fun h=>⟨h.2,h.1⟩⟩
theorem zc(b:Bool)(t:Nat)(fr:List DV):gD t (.v (.bool b)) fr true F G=((b=true→F (fr.set t (.v (.bool true))))∧(b=false→G (fr.set t (.v (.bool false))))):=by simp[gD]
theorem yu(b:Bool)(t:Nat)(fr:List DV):gD t (.v (.bool b)) fr false F G=((b=true→G (fr.set t (.v (.bool true))))∧(b=false→F (fr.set t (.v (.bool false))))):=by
 simp only[gD,Bool.not_false];exact propext ⟨fun h=>⟨h.2,h.1⟩,fun h=>⟨h.2,h.1⟩⟩
end
attribute [go_sem ↓] Cu Gu CP Cm E3 FL Ig IX Hr HZ G5 Ju
attribute [go_sem ↓ low] C6 zc yu
attribute [go_sem] List.length_cons List.length_nil List.length_map List.cons_append List.nil_append List.map_cons List.map_nil List.zip_cons_cons List.zip_nil_right
section
variable {P:Program} {w0:W0} {ops:Array Oper} {K:List DV→St→Prop} {fr:List DV} {S:St} {rest:List Oper} {dst:Option Tmp} {op:Op} {ty:TypeId} {pos:String} {aft:Array Edge}
theorem BC:nB P w0 ops K [] fr S=K fr S:=rfl
theorem yj:nB P w0 ops K (⟨dst,op,ty,pos,aft,none⟩::rest) fr S=aE P w0 op fr S fun d S'=>nB P w0 ops K rest (pt fr dst d) S':=rfl
theorem yb(j:Nat)(want:Bool):nB P w0 ops K (⟨dst,op,ty,pos,aft,some (j,want)⟩::rest) fr S=gK ((ops[j]?).bind (·.dst)) fr want (fun fr=>aE P w0 op fr S fun d S'=>nB P w0 ops K rest (pt fr dst d) S') (fun fr=>nB P w0 ops K rest (pt fr dst ud) S):=nQ _ _ _ _ _ _
end
def QC(P:Program)(w0:W0)(f:FuncId)(ds:List DV)(S:St)[K:Cn (DV→Prop)]:Prop:=∃d,aa P w0 f ds S (fun d' S'=>d'=d∧S'=S)∧K.k d
theorem Hi{P:Program}{w0:W0}(f:FuncId)(a cap:Array Value)(ds:List DV)(S:St)(K:DV→Prop):kq P w0 (.v (.func (.func f) a cap)) ds S K=(a.size=0∧okF P f=true∧cap.toList.all (fun u=>u.oneCell')=true∧ds.all dV=true∧@QC P w0 f (ds++cap.toList.map .v) S ⟨K⟩):=rfl
attribute [go_sem ↓] BC yj yb Hi fH eg jY gi pc qV
attribute [go_sem] List.getD_cons_succ List.getD_cons_zero List.getElem?_cons_succ List.getElem?_cons_zero List.getElem?_toArray Option.bind_some List.all_cons List.all_nil Bool.and_self Bool.and_true
attribute [go_sem] Nat.zero_add true_and and_true List.drop_zero List.drop_succ_cons List.take_succ_cons List.take_zero Option.map_some Option.map_none Option.isSome_some Option.isSome_none Option.isNone_none Option.isNone_some
attribute [go_sem] Bool.false_eq_true if_true if_false or_true true_or false_or or_false forall_const false_implies imp_self Bool.not_true Bool.not_false beq_self_eq_true decide_eq_true_eq decide_eq_false_iff_not decide_true decide_false
attribute [go_sem] Int.toNat_natCast Int.natCast_nonneg Int.ofNat_lt Int.ofNat_le Int.natCast_inj List.getElem?_map Option.map_eq_some_iff forall_exists_index and_imp forall_apply_eq_imp_iff₂ forall_eq_apply_imp_iff ne_eq not_false_eq_true not_true_eq_false
attribute [go_sem] List.size_toArray List.append_nil Int.le_refl Nat.le_refl List.drop_nil List.take_nil Int.toNat_zero Int.natCast_zero Int.natCast_one Int.cast_ofNat_Int Bool.or_true Bool.or_false Bool.true_or Bool.false_or Bool.false_and Bool.and_false Bool.true_and List.isEmpty_nil List.isEmpty_cons
attribute [go_sem] dI dU dB dS Nat.lt_add_one forall_eq forall_eq' true_implies implies_true Option.some.injEq
structure FN{α:Type}(l:List (Nat×α)) where
 m:Nat
 h:gB l m
def FN.n{α:Type}{l:List (Nat×α)}(b:FN l):Nat:=b.m
theorem nJ{α:Type}(l:List (Nat×α))(F:Nat→Prop):(∀b,gB l b→F b)=∀b:FN l,F b.n:=propext ⟨fun h b=>h b.n b.h,fun h b hb=>h ⟨b,hb⟩⟩
theorem pU{α:Type}:∀{l:List (Nat×α)} {b:Nat},gB l b→lk l b=none
 |[],_,_=>rfl
 |(k,x)::t,b,h=>by
  simp only[gB]at h;unfold lk;rw[if_neg (by first|exact fun e=>h.1 e|exact fun e=>h.1 e.symm)];exact pU (by first|exact h.2|exact h.2.2)
theorem aj{α:Type}{l:List (Nat×α)}(b:FN l):lk l b.n=none:=pU b.h
theorem aG{α:Type}{l:List (Nat×α)}(b:FN l)(c:Nat)(h:(lk l c).isSome=true):(b.n=c)=False:=by
 refine eq_false fun e=>?_;subst e;rw[show lk l b.n=none from pU b.h]at h;cases h
theorem C7{α:Type}{l:List (Nat×α)}(b:FN l)(c:Nat)(h:(lk l c).isSome=true):(c=b.n)=False:=by
 refine eq_false fun e=>?_;subst e;rw[show lk l b.n=none from pU b.h]at h;cases h
section
variable {S:St} {K:DV→St→Prop}
theorem H6(d:DV):GA S d K=∀b:FN S.box,K (.v (.pointer (some ⟨b.n,0,none⟩))) ⟨(b.n,cd d)::S.box,S.acc⟩:=nJ S.box fun b=>K (.v (.pointer (some ⟨b,0,none⟩))) ⟨(b,cd d)::S.box,S.acc⟩
theorem DZ(ds:List DV):GA S (.agg ds) K=∀b:FN S.box,K (.v (.pointer (some ⟨b.n,0,none⟩))) ⟨(b.n,ds)::S.box,S.acc⟩:=H6 _
theorem Mg(u:Value):GA S (.v u) K=∀b:FN S.box,K (.v (.pointer (some ⟨b.n,0,none⟩))) ⟨(b.n,[.v u])::S.box,S.acc⟩:=H6 _
theorem Jm(s:Nat)(f:Bool)(xs:List DV):GA S (.sl s f xs) K=∀b:FN S.box,K (.v (.pointer (some ⟨b.n,0,none⟩))) ⟨(b.n,[.sl s f xs])::S.box,S.acc⟩:=H6 _
end
theorem Aq(kk:KK)(z:DV)(S:St)(K:DV→St→Prop):fL (some (kk,z)) none S K=∀l:FN S.acc,K (.mp l.n) ⟨S.box,(l.n,.xo (.mp kk [] 0))::S.acc⟩:=by
 unfold fL;simp only[oK,true_and];exact nJ S.acc fun l=>K (.mp l) ⟨S.box,(l,.xo (.mp kk [] 0))::S.acc⟩
def NY(S:St)(f:XO)(K:DV→St→Prop):Prop:=∀l,gB S.acc l→K (.it l) ⟨S.box,(l,.xo f)::S.acc⟩
theorem Pa(S:St)(f:XO)(K:DV→St→Prop):NY S f K=∀l:FN S.acc,K (.it l.n) ⟨S.box,(l.n,.xo f)::S.acc⟩:=nJ S.acc fun l=>K (.it l) ⟨S.box,(l,.xo f)::S.acc⟩
theorem Iv(p:KK×DV)(S:St)(l:Nat)(K:DV→St→Prop):iq (some p) S (.mp l) K=xK (lk S.acc l) fun kk es clk=>NY S (.it l clk [] clk) K:=by
 unfold iq NY;simp only[xK,Yo,true_and]
theorem DJ(p:KK×DV)(S:St)(K:DV→St→Prop):iq (some p) S (.v (.map none)) K=NY S .ni K:=by
 unfold iq NY;simp only[Yo,true_and]
theorem Em(s:ByteArray)(S:St)(K:DV→St→Prop):iA S (.v (.string s)) K=NY S (.si s 0) K:=rfl
theorem EB(m:Option (KK×DV))(S:St)(x:DV)(K:DV→St→Prop):JR .str m S x K=iA S x K:=rfl
theorem Fc(k e:TypeId)(m:Option (KK×DV))(S:St)(x:DV)(K:DV→St→Prop):JR (.map k e) m S x K=iq m S x K:=rfl
theorem MX(S:St)(x:DV)(K:DV→St→Prop):Lk true S x K=jl S x K:=rfl
theorem Ln(S:St)(x:DV)(K:DV→St→Prop):Lk false S x K=pF S x false K:=rfl
attribute [go_sem ↓] Aq Pa Iv DJ Em EB Fc MX Ln OC HR
attribute [go_sem ↓] nJ DZ Mg Jm
attribute [go_sem] aG C7 Option.isSome_some
noncomputable def pB(P:Prop):Bool:=@decide P (Classical.propDecidable P)
theorem ij{P:Prop}(h:P):pB P=true:=@decide_eq_true _ (Classical.propDecidable _) h
theorem jz{P:Prop}(h:¬P):pB P=false:=@decide_eq_false _ (Classical.propDecidable _) h
theorem qX(P:Prop):(pB P=true)=P:=propext ⟨fun h=>@of_decide_eq_true _ (Classical.propDecidable _) h,ij⟩
theorem um(P:Prop):(pB P=false)=¬P:=propext ⟨fun h=>@of_decide_eq_false _ (Classical.propDecidable _) h,jz⟩
theorem Pk(P:Prop):(true=pB P)=P:=(propext eq_comm).trans (qX P)
theorem OI(P:Prop):(false=pB P)=¬P:=(propext eq_comm).trans (um P)
theorem SO(P:Prop)[Decidable P]:(true=decide P)=P:=(propext eq_comm).trans decide_eq_true_eq
theorem Rt(P:Prop)[Decidable P]:(false=decide P)=¬P:=(propext eq_comm).trans (propext decide_eq_false_iff_not)
theorem Gn(P A B:Prop):cf (.v (.bool (pB P))) A B=((P→A)∧(¬P→B)):=by
 show((pB P=true→A)∧(pB P=false→B))=_;rw[qX,um]
theorem HC(P:Prop)(t:Nat)(fr:List DV)(F G:List DV→Prop):gD t (.v (.bool (pB P))) fr true F G=((P→F (fr.set t (.v (.bool true))))∧(¬P→G (fr.set t (.v (.bool false))))):=by
 rw[zc,qX,um]
theorem H8(P:Prop)(t:Nat)(fr:List DV)(F G:List DV→Prop):gD t (.v (.bool (pB P))) fr false F G=((P→G (fr.set t (.v (.bool true))))∧(¬P→F (fr.set t (.v (.bool false))))):=by
 rw[yu,qX,um]
theorem EA(P:Prop):(!pB P)=pB (¬P):=by
 by_cases h:P
 ·rw[ij h,jz (fun k=>k h)];rfl
 ·rw[jz h,ij h];rfl
attribute [go_sem ↓] Gn HC H8
attribute [go_sem] qX um Pk OI SO Rt EA
theorem xH{α β:Type}(f:α→β)(n:Nat)(l:List α):List.take n (List.map f l)=List.map f (List.take n l):=List.map_take.symm
theorem yn{α β:Type}(f:α→β)(n:Nat)(l:List α):List.drop n (List.map f l)=List.map f (List.drop n l):=List.map_drop.symm
theorem AE{α β:Type}(f:α→β)(a b:List α):List.map f a++List.map f b=List.map f (a++b):=WD.symm
attribute [go_sem] xH yn AE List.length_append List.length_take List.length_drop List.take_length List.drop_length Nat.min_self
theorem Rh(P Q:Prop)[Decidable P]:(decide P=pB Q)=(P↔Q):=propext ⟨fun h=>⟨fun p=>(qX Q).mp (h▸decide_eq_true p),fun q=>of_decide_eq_true (h.trans (ij q))⟩,fun h=>by
 by_cases p:P
 ·rw[ij (h.1 p),decide_eq_true p]
 ·rw[jz (fun q=>p (h.2 q)),decide_eq_false p]⟩
theorem Sp(P Q:Prop)[Decidable P][Decidable Q]:(decide P=decide Q)=(P↔Q):=propext decide_eq_decide
attribute [go_sem] Rh Sp
theorem GN(P:Prop)[Decidable P]:(!decide P)=decide (¬P):=(decide_not).symm
attribute [go_sem] GN Bool.not_eq_true' Bool.not_eq_false'
attribute [go_sem] Value.oneCell' false_and and_false and_self List.length_set
attribute [go_sem] Mh
attribute [go_sem ↓] EI w9 LP LC wP DN CI
attribute [go_sem] DY OO KM AR wL MT KN ya r7 qi uH Ny
attribute [go_sem ↓] PI Oy z8 A4 Gl Hl G0 R6 Rm OG LY xt xP D7 Eb EH KX IH
attribute [go_sem] uS ue Cs Ff
attribute [go_sem ↓] CF FI BB Ad Ck DL F6 Hc Ex Js CA ES Ip AV I5 zV Fo FR Dt B2 zm Cc EY Ef Gj EF E5 E9 BJ vb r6 G9 Fi AD Ax vS vG Cq BF v8 xE x0 wh w8 Dz A9 An P8 OP tH sd P3 wc Gt xM uL O1 AF FO AN Mo Ab BG zM xL xr wQ xD rj Cj HU yf B5 Co HE Ce Jz Gg KG BR yi GW uh zB nQ AI HW KA HQ Rx P2
attribute [go_sem] Je CK Ag B4 Lm H3 Cy Ek EX BW sC Bg Jf F7 Om Io xG xl xf vU xz sy sa xN tv rT xh uO
theorem FA(r:QW)(l:List DV)(n:Nat)(d:DV):(rc r l).getD (n+16) d=l.getD n d:=rfl
theorem El(r:QW)(l:List DV)(n:Nat)(d:DV):(rc r l).set (n+16) d=rc r (l.set n d):=rfl
theorem Gs(a0 a1 a2 a3 a4 a5 a6 a7 a8 a9 bl bq a12 bD bL bM:DV)(l:List DV)(d:DV):(rc ⟨a0,a1,a2,a3,a4,a5,a6,a7,a8,a9,bl,bq,a12,bD,bL,bM⟩ l).getD 0 d=a0:=rfl
theorem Gi(a0 a1 a2 a3 a4 a5 a6 a7 a8 a9 bl bq a12 bD bL bM:DV)(l:List DV)(d:DV):(rc ⟨a0,a1,a2,a3,a4,a5,a6,a7,a8,a9,bl,bq,a12,bD,bL,bM⟩ l).set 0 d=rc ⟨d,a1,a2,a3,a4,a5,a6,a7,a8,a9,bl,bq,a12,bD,bL,bM⟩ l:=rfl
theorem Eu(a0 a1 a2 a3 a4 a5 a6 a7 a8 a9 bl bq a12 bD bL bM:DV)(l:List DV)(d:DV):(rc ⟨a0,a1,a2,a3,a4,a5,a6,a7,a8,a9,bl,bq,a12,bD,bL,bM⟩ l).getD 1 d=a1:=rfl
theorem Dc(a0 a1 a2 a3 a4 a5 a6 a7 a8 a9 bl bq a12 bD bL bM:DV)(l:List DV)(d:DV):(rc ⟨a0,a1,a2,a3,a4,a5,a6,a7,a8,a9,bl,bq,a12,bD,bL,bM⟩ l).set 1 d=rc ⟨a0,d,a2,a3,a4,a5,a6,a7,a8,a9,bl,bq,a12,bD,bL,bM⟩ l:=rfl
theorem FX(a0 a1 a2 a3 a4 a5 a6 a7 a8 a9 bl bq a12 bD bL bM:DV)(l:List DV)(d:DV):(rc ⟨a0,a1,a2,a3,a4,a5,a6,a7,a8,a9,bl,bq,a12,bD,bL,bM⟩ l).getD 2 d=a2:=rfl
theorem En(a0 a1 a2 a3 a4 a5 a6 a7 a8 a9 bl bq a12 bD bL bM:DV)(l:List DV)(d:DV):(rc ⟨a0,a1,a2,a3,a4,a5,a6,a7,a8,a9,bl,bq,a12,bD,bL,bM⟩ l).set 2 d=rc ⟨a0,a1,d,a3,a4,a5,a6,a7,a8,a9,bl,bq,a12,bD,bL,bM⟩ l:=rfl
theorem Di(a0 a1 a2 a3 a4 a5 a6 a7 a8 a9 bl bq a12 bD bL bM:DV)(l:List DV)(d:DV):(rc ⟨a0,a1,a2,a3,a4,a5,a6,a7,a8,a9,bl,bq,a12,bD,bL,bM⟩ l).getD 3 d=a3:=rfl
theorem Ds(a0 a1 a2 a3 a4 a5 a6 a7 a8 a9 bl bq a12 bD bL bM:DV)(l:List DV)(d:DV):(rc ⟨a0,a1,a2,a3,a4,a5,a6,a7,a8,a9,bl,bq,a12,bD,bL,bM⟩ l).set 3 d=rc ⟨a0,a1,a2,d,a4,a5,a6,a7,a8,a9,bl,bq,a12,bD,bL,bM⟩ l:=rfl
theorem E8(a0 a1 a2 a3 a4 a5 a6 a7 a8 a9 bl bq a12 bD bL bM:DV)(l:List DV)(d:DV):(rc ⟨a0,a1,a2,a3,a4,a5,a6,a7,a8,a9,bl,bq,a12,bD,bL,bM⟩ l).getD 4 d=a4:=rfl
theorem Cv(a0 a1 a2 a3 a4 a5 a6 a7 a8 a9 bl bq a12 bD bL bM:DV)(l:List DV)(d:DV):(rc ⟨a0,a1,a2,a3,a4,a5,a6,a7,a8,a9,bl,bq,a12,bD,bL,bM⟩ l).set 4 d=rc ⟨a0,a1,a2,a3,d,a5,a6,a7,a8,a9,bl,bq,a12,bD,bL,bM⟩ l:=rfl
theorem CZ(a0 a1 a2 a3 a4 a5 a6 a7 a8 a9 bl bq a12 bD bL bM:DV)(l:List DV)(d:DV):(rc ⟨a0,a1,a2,a3,a4,a5,a6,a7,a8,a9,bl,bq,a12,bD,bL,bM⟩ l).getD 5 d=a5:=rfl
theorem FP(a0 a1 a2 a3 a4 a5 a6 a7 a8 a9 bl bq a12 bD bL bM:DV)(l:List DV)(d:DV):(rc ⟨a0,a1,a2,a3,a4,a5,a6,a7,a8,a9,bl,bq,a12,bD,bL,bM⟩ l).set 5 d=rc ⟨a0,a1,a2,a3,a4,d,a6,a7,a8,a9,bl,bq,a12,bD,bL,bM⟩ l:=rfl
theorem EE(a0 a1 a2 a3 a4 a5 a6 a7 a8 a9 bl bq a12 bD bL bM:DV)(l:List DV)(d:DV):(rc ⟨a0,a1,a2,a3,a4,a5,a6,a7,a8,a9,bl,bq,a12,bD,bL,bM⟩ l).getD 6 d=a6:=rfl
theorem CH(a0 a1 a2 a3 a4 a5 a6 a7 a8 a9 bl bq a12 bD bL bM:DV)(l:List DV)(d:DV):(rc ⟨a0,a1,a2,a3,a4,a5,a6,a7,a8,a9,bl,bq,a12,bD,bL,bM⟩ l).set 6 d=rc ⟨a0,a1,a2,a3,a4,a5,d,a7,a8,a9,bl,bq,a12,bD,bL,bM⟩ l:=rfl
theorem Et(a0 a1 a2 a3 a4 a5 a6 a7 a8 a9 bl bq a12 bD bL bM:DV)(l:List DV)(d:DV):(rc ⟨a0,a1,a2,a3,a4,a5,a6,a7,a8,a9,bl,bq,a12,bD,bL,bM⟩ l).getD 7 d=a7:=rfl
theorem FF(a0 a1 a2 a3 a4 a5 a6 a7 a8 a9 bl bq a12 bD bL bM:DV)(l:List DV)(d:DV):(rc ⟨a0,a1,a2,a3,a4,a5,a6,a7,a8,a9,bl,bq,a12,bD,bL,bM⟩ l).set 7 d=rc ⟨a0,a1,a2,a3,a4,a5,a6,d,a8,a9,bl,bq,a12,bD,bL,bM⟩ l:=rfl
theorem FV(a0 a1 a2 a3 a4 a5 a6 a7 a8 a9 bl bq a12 bD bL bM:DV)(l:List DV)(d:DV):(rc ⟨a0,a1,a2,a3,a4,a5,a6,a7,a8,a9,bl,bq,a12,bD,bL,bM⟩ l).getD 8 d=a8:=rfl
theorem CG(a0 a1 a2 a3 a4 a5 a6 a7 a8 a9 bl bq a12 bD bL bM:DV)(l:List DV)(d:DV):(rc ⟨a0,a1,a2,a3,a4,a5,a6,a7,a8,a9,bl,bq,a12,bD,bL,bM⟩ l).set 8 d=rc ⟨a0,a1,a2,a3,a4,a5,a6,a7,d,a9,bl,bq,a12,bD,bL,bM⟩ l:=rfl
theorem Gb(a0 a1 a2 a3 a4 a5 a6 a7 a8 a9 bl bq a12 bD bL bM:DV)(l:List DV)(d:DV):(rc ⟨a0,a1,a2,a3,a4,a5,a6,a7,a8,a9,bl,bq,a12,bD,bL,bM⟩ l).getD 9 d=a9:=rfl
theorem CX(a0 a1 a2 a3 a4 a5 a6 a7 a8 a9 bl bq a12 bD bL bM:DV)(l:List DV)(d:DV):(rc ⟨a0,a1,a2,a3,a4,a5,a6,a7,a8,a9,bl,bq,a12,bD,bL,bM⟩ l).set 9 d=rc ⟨a0,a1,a2,a3,a4,a5,a6,a7,a8,d,bl,bq,a12,bD,bL,bM⟩ l:=rfl
theorem zK(a0 a1 a2 a3 a4 a5 a6 a7 a8 a9 bl bq a12 bD bL bM:DV)(l:List DV)(d:DV):(rc ⟨a0,a1,a2,a3,a4,a5,a6,a7,a8,a9,bl,bq,a12,bD,bL,bM⟩ l).getD 10 d=bl:=rfl
theorem B7(a0 a1 a2 a3 a4 a5 a6 a7 a8 a9 bl bq a12 bD bL bM:DV)(l:List DV)(d:DV):(rc ⟨a0,a1,a2,a3,a4,a5,a6,a7,a8,a9,bl,bq,a12,bD,bL,bM⟩ l).set 10 d=rc ⟨a0,a1,a2,a3,a4,a5,a6,a7,a8,a9,d,bq,a12,bD,bL,bM⟩ l:=rfl
theorem Ap(a0 a1 a2 a3 a4 a5 a6 a7 a8 a9 bl bq a12 bD bL bM:DV)(l:List DV)(d:DV):(rc ⟨a0,a1,a2,a3,a4,a5,a6,a7,a8,a9,bl,bq,a12,bD,bL,bM⟩ l).getD 11 d=bq:=rfl
theorem Aa(a0 a1 a2 a3 a4 a5 a6 a7 a8 a9 bl bq a12 bD bL bM:DV)(l:List DV)(d:DV):(rc ⟨a0,a1,a2,a3,a4,a5,a6,a7,a8,a9,bl,bq,a12,bD,bL,bM⟩ l).set 11 d=rc ⟨a0,a1,a2,a3,a4,a5,a6,a7,a8,a9,bl,d,a12,bD,bL,bM⟩ l:=rfl
theorem Ci(a0 a1 a2 a3 a4 a5 a6 a7 a8 a9 bl bq a12 bD bL bM:DV)(l:List DV):(rc ⟨a0,a1,a2,a3,a4,a5,a6,a7,a8,a9,bl,bq,a12,bD,bL,bM⟩ l)[11]? =some bq:=rfl
theorem Ae(a0 a1 a2 a3 a4 a5 a6 a7 a8 a9 bl bq a12 bD bL bM:DV)(l:List DV)(d:DV):(rc ⟨a0,a1,a2,a3,a4,a5,a6,a7,a8,a9,bl,bq,a12,bD,bL,bM⟩ l).getD 12 d=a12:=rfl
theorem Bk(a0 a1 a2 a3 a4 a5 a6 a7 a8 a9 bl bq a12 bD bL bM:DV)(l:List DV)(d:DV):(rc ⟨a0,a1,a2,a3,a4,a5,a6,a7,a8,a9,bl,bq,a12,bD,bL,bM⟩ l).set 12 d=rc ⟨a0,a1,a2,a3,a4,a5,a6,a7,a8,a9,bl,bq,d,bD,bL,bM⟩ l:=rfl
theorem BP(a0 a1 a2 a3 a4 a5 a6 a7 a8 a9 bl bq a12 bD bL bM:DV)(l:List DV)(d:DV):(rc ⟨a0,a1,a2,a3,a4,a5,a6,a7,a8,a9,bl,bq,a12,bD,bL,bM⟩ l).getD 13 d=bD:=rfl
theorem AT(a0 a1 a2 a3 a4 a5 a6 a7 a8 a9 bl bq a12 bD bL bM:DV)(l:List DV)(d:DV):(rc ⟨a0,a1,a2,a3,a4,a5,a6,a7,a8,a9,bl,bq,a12,bD,bL,bM⟩ l).set 13 d=rc ⟨a0,a1,a2,a3,a4,a5,a6,a7,a8,a9,bl,bq,a12,d,bL,bM⟩ l:=rfl
theorem B8(a0 a1 a2 a3 a4 a5 a6 a7 a8 a9 bl bq a12 bD bL bM:DV)(l:List DV)(d:DV):(rc ⟨a0,a1,a2,a3,a4,a5,a6,a7,a8,a9,bl,bq,a12,bD,bL,bM⟩ l).getD 14 d=bL:=rfl
theorem zw(a0 a1 a2 a3 a4 a5 a6 a7 a8 a9 bl bq a12 bD bL bM:DV)(l:List DV)(d:DV):(rc ⟨a0,a1,a2,a3,a4,a5,a6,a7,a8,a9,bl,bq,a12,bD,bL,bM⟩ l).set 14 d=rc ⟨a0,a1,a2,a3,a4,a5,a6,a7,a8,a9,bl,bq,a12,bD,d,bM⟩ l:=rfl
theorem zA(a0 a1 a2 a3 a4 a5 a6 a7 a8 a9 bl bq a12 bD bL bM:DV)(l:List DV)(d:DV):(rc ⟨a0,a1,a2,a3,a4,a5,a6,a7,a8,a9,bl,bq,a12,bD,bL,bM⟩ l).getD 15 d=bM:=rfl
theorem AQ(a0 a1 a2 a3 a4 a5 a6 a7 a8 a9 bl bq a12 bD bL bM:DV)(l:List DV)(d:DV):(rc ⟨a0,a1,a2,a3,a4,a5,a6,a7,a8,a9,bl,bq,a12,bD,bL,bM⟩ l).set 15 d=rc ⟨a0,a1,a2,a3,a4,a5,a6,a7,a8,a9,bl,bq,a12,bD,bL,d⟩ l:=rfl
theorem MR(a0 a1 a2 a3 a4 a5 a6 a7 a8 a9 bl bq a12 bD bL bM:DV)(l:List DV)(i:Nat)(js:List Nat):qR (rc ⟨a0,a1,a2,a3,a4,a5,a6,a7,a8,a9,bl,bq,a12,bD,bL,bM⟩ l) i js=qR (a0::a1::a2::a3::a4::a5::a6::a7::a8::a9::bl::bq::a12::bD::bL::bM::l) i js:=rfl
theorem MJ(a0 a1 a2 a3 a4 a5 a6 a7 a8 a9 bl bq a12 bD bL bM:DV)(l:List DV):cz (a0::a1::a2::a3::a4::a5::a6::a7::a8::a9::bl::bq::a12::bD::bL::bM::l)=rc ⟨a0,a1,a2,a3,a4,a5,a6,a7,a8,a9,bl,bq,a12,bD,bL,bM⟩ (cz l):=rfl
theorem L5:cz []=[]:=rfl
theorem Mx(a0:DV):cz [a0]=[a0]:=rfl
theorem Lo(a0 a1:DV):cz [a0,a1]=[a0,a1]:=rfl
theorem KO(a0 a1 a2:DV):cz [a0,a1,a2]=[a0,a1,a2]:=rfl
theorem KS(a0 a1 a2 a3:DV):cz [a0,a1,a2,a3]=[a0,a1,a2,a3]:=rfl
theorem L6(a0 a1 a2 a3 a4:DV):cz [a0,a1,a2,a3,a4]=[a0,a1,a2,a3,a4]:=rfl
theorem Kr(a0 a1 a2 a3 a4 a5:DV):cz [a0,a1,a2,a3,a4,a5]=[a0,a1,a2,a3,a4,a5]:=rfl
theorem LM(a0 a1 a2 a3 a4 a5 a6:DV):cz [a0,a1,a2,a3,a4,a5,a6]=[a0,a1,a2,a3,a4,a5,a6]:=rfl
theorem Ni(a0 a1 a2 a3 a4 a5 a6 a7:DV):cz [a0,a1,a2,a3,a4,a5,a6,a7]=[a0,a1,a2,a3,a4,a5,a6,a7]:=rfl
theorem Nt(a0 a1 a2 a3 a4 a5 a6 a7 a8:DV):cz [a0,a1,a2,a3,a4,a5,a6,a7,a8]=[a0,a1,a2,a3,a4,a5,a6,a7,a8]:=rfl
theorem II(a0 a1 a2 a3 a4 a5 a6 a7 a8 a9:DV):cz [a0,a1,a2,a3,a4,a5,a6,a7,a8,a9]=[a0,a1,a2,a3,a4,a5,a6,a7,a8,a9]:=rfl
theorem Jh(a0 a1 a2 a3 a4 a5 a6 a7 a8 a9 bl:DV):cz [a0,a1,a2,a3,a4,a5,a6,a7,a8,a9,bl]=[a0,a1,a2,a3,a4,a5,a6,a7,a8,a9,bl]:=rfl
theorem IK(a0 a1 a2 a3 a4 a5 a6 a7 a8 a9 bl bq:DV):cz [a0,a1,a2,a3,a4,a5,a6,a7,a8,a9,bl,bq]=[a0,a1,a2,a3,a4,a5,a6,a7,a8,a9,bl,bq]:=rfl
theorem HK(a0 a1 a2 a3 a4 a5 a6 a7 a8 a9 bl bq a12:DV):cz [a0,a1,a2,a3,a4,a5,a6,a7,a8,a9,bl,bq,a12]=[a0,a1,a2,a3,a4,a5,a6,a7,a8,a9,bl,bq,a12]:=rfl
theorem G7(a0 a1 a2 a3 a4 a5 a6 a7 a8 a9 bl bq a12 bD:DV):cz [a0,a1,a2,a3,a4,a5,a6,a7,a8,a9,bl,bq,a12,bD]=[a0,a1,a2,a3,a4,a5,a6,a7,a8,a9,bl,bq,a12,bD]:=rfl
theorem Iw(a0 a1 a2 a3 a4 a5 a6 a7 a8 a9 bl bq a12 bD bL:DV):cz [a0,a1,a2,a3,a4,a5,a6,a7,a8,a9,bl,bq,a12,bD,bL]=[a0,a1,a2,a3,a4,a5,a6,a7,a8,a9,bl,bq,a12,bD,bL]:=rfl
attribute [go_sem] FA El Gs Gi Eu Dc FX En Di Ds E8 Cv CZ FP EE CH Et FF FV CG Gb CX zK B7 Ap Aa Ci Ae Bk BP AT B8 zw zA AQ MR MJ L5 Mx Lo KO KS L6 Kr LM Ni Nt II Jh IK HK G7 Iw
end Aml
namespace Aml
open Go Go.RowKit
def kx(P:Program)(w0:W0)(S:St)(ops:Array Oper)(K:List DV→St→Prop):List Oper→List DV→Prop
 |[],fr=>K fr S
 |o::rest,fr=>bV (mB o.op)
  (bz ops fr o.guard (fun fr=>aO P w0 o.op fr S fun d=>kx P w0 S ops K rest (pt fr o.dst d)) (fun fr=>kx P w0 S ops K rest (pt fr o.dst ud)))
  (nB P w0 ops K (o::rest) fr S)
section
variable {P:Program} {w0:W0}
theorem kv{S:St}{ops:Array Oper}{K:List DV→St→Prop}:∀{l:List Oper} {fr:List DV},l.all (fun o=>eP o.op)=true→kx P w0 S ops K l fr→LQ P w0 S ops (fun fr=>nB P w0 ops K (l.drop (jU l)) fr S) (l.take (jU l)) fr
 |[],fr,_,h=>h
 |o::rest,fr,hs,h=>by
  simp only[Yl,We]at hs;unfold kx bV at h
  cases hq:mB o.op with
  |true=>
   rw[hq]at h;simp only at h;have e:jU (o::rest)=jU rest+1:=by simp[jU,List.takeWhile_cons,hq]
   rw[e,List.take_succ_cons,List.drop_succ_cons];refine gk (fun fr h=>?_) (fun fr h=>kv hs.2 h) h;obtain⟨d,q1,q2⟩:=iU hs.1 h;exact⟨d,q1,kv hs.2 q2⟩
  |false=>
   rw[hq]at h;have e:jU (o::rest)=0:=by simp[jU,List.takeWhile_cons,hq]
   rw[e];exact h
theorem wS{S:St}{a b:Array Oper}{K:List DV→Prop}:∀{l:List Oper} {fr:List DV},(∀o,o∈l→∀j want,o.guard=some (j,want)→a[j]? =b[j]?)→LQ P w0 S a K l fr→LQ P w0 S b K l fr
 |[],fr,_,h=>h
 |o::rest,fr,hg,h=>by
  have h':bz a fr o.guard (fun fr=>∃d,QY P w0 S o fr d∧LQ P w0 S b K rest (pt fr o.dst d)) (fun fr=>LQ P w0 S b K rest (pt fr o.dst ud)):=
   gk (fun fr ⟨d,q1,q2⟩=>⟨d,q1,wS (fun o ho=>hg o (Wj _ ho)) q2⟩) (fun fr h=>wS (fun o ho=>hg o (Wj _ ho)) h) h
  unfold bz at h';show bz b fr o.guard _ _;unfold bz
  cases hgo:o.guard with
  |none=>rw[hgo]at h';exact h'
  |some p=>
   obtain⟨j,want⟩:=p;rw[hgo]at h';simp only at h' ⊢;rw[←hg o Wm j want hgo];exact h'
theorem By{id:Nat}{l:List Oper}{fr:List DV}{S:St}{Q:Exit→List DV→St→Prop}(hm:P.follows .mixedOrders=true)(hB:Region.lexB .any (l.take (jU l)).toArray=true)(hT:mO .any l.toArray (jU l)=true)(hs:l.all (fun o=>eP o.op)=true)
 (h:kx P w0 S l.toArray (fun fr S=>Q .normal fr S) l fr):fc P w0 (.region id l.toArray true) fr S Q:=by
 have hn:jU l≤l.length:=by
  unfold jU;exact List.Sublist.length_le (List.takeWhile_sublist _)
 refine BD (jU l) hn hm hB hT hs (wS ?_ (kv hs h));intro o ho j want hg;simp only[mO,We]at hT;have:=Ww.1 hT.2 o (by simpa using ho);simp only[hg,decide_eq_true_eq]at this;simp[WZ,this]
def AL(P:Program)(w0:W0)(fr:List DV)(S:St)[c:Cn (Code×(Exit→List DV→St→Prop))]:Prop:=fc P w0 c.k.1 fr S c.k.2
def vw(P:Program)(w0:W0)(ss:List Nat):Code→List DV→St→(Exit→List DV→St→Prop)→Prop
 | .skip,fr,S,Q=>Q .normal fr S
 | .seq x y,fr,S,Q=>vw P w0 ss x fr S (fH (fun fr S=>vw P w0 ss y fr S Q) Q)
 | .cond c x y,fr,S,Q=>cf (ev fr c) (vw P w0 ss x fr S Q) (vw P w0 ss y fr S Q)
 | .block n c,fr,S,Q=>bV (ss.contains (n+1000)) (@AL P w0 fr S ⟨((.block n c),Q)⟩) (vw P w0 ss c fr S (eg n Q))
 | .exit n,fr,S,Q=>Q (.exit n) fr S
 | .ret,fr,S,Q=>Q .ret fr S
 | .region n ops dr,fr,S,Q=>bV (ss.contains n) (@AL P w0 fr S ⟨((.region n ops dr),Q)⟩)
  (bV dr (kx P w0 S ops (fun fr S=>Q .normal fr S) ops.toList fr) (nB P w0 ops (fun fr S=>Q .normal fr S) ops.toList fr S))
 |c,fr,S,Q=>@AL P w0 fr S ⟨(c,Q)⟩
/- How it goes. -/
section
variable {P:Program} {w0:W0} {ss:List Nat} {fr:List DV} {S:St} {Q:Exit→List DV→St→Prop}
theorem AX:vw P w0 ss .skip fr S Q=Q .normal fr S:=rfl
theorem Cx(x y:Code):vw P w0 ss (.seq x y) fr S Q=vw P w0 ss x fr S (fH (fun fr S=>vw P w0 ss y fr S Q) Q):=rfl
theorem Al(c:Operand)(x y:Code):vw P w0 ss (.cond c x y) fr S Q=cf (ev fr c) (vw P w0 ss x fr S Q) (vw P w0 ss y fr S Q):=rfl
theorem yg(n:Nat)(c:Code):vw P w0 ss (.block n c) fr S Q=bV (ss.contains (n+1000)) (@AL P w0 fr S ⟨((.block n c),Q)⟩) (vw P w0 ss c fr S (eg n Q)):=rfl
theorem AS(n:Nat):vw P w0 ss (.exit n) fr S Q=Q (.exit n) fr S:=rfl
theorem Df:vw P w0 ss .ret fr S Q=Q .ret fr S:=rfl
def gl(fr:List DV)(F:List DV→Prop):Prop:=F fr
@[congr] theorem Qw {fr fr':List DV} {F:List DV→Prop} (h:fr=fr'):gl fr F=gl fr' F:=by cases h;rfl
theorem HD(d:DV)(fr:List DV)(F:List DV→Prop):gl (d::fr) F=F (d::fr):=rfl
theorem vY(r:QW)(fr:List DV)(F:List DV→Prop):gl (rc r fr) F=F (rc r fr):=rfl
attribute [go_sem ↓] HD vY
theorem Bf(n:Nat)(l:List Oper):vw P w0 ss (.region n l.toArray false) fr S Q=bV (ss.contains n) (@AL P w0 fr S ⟨((.region n l.toArray false),Q)⟩) (nB P w0 l.toArray (fun fr S=>gl fr fun fr=>Q .normal fr S) l fr S):=by simp[vw,bV,gl]
theorem AA(n:Nat)(l:List Oper):vw P w0 ss (.region n l.toArray true) fr S Q=bV (ss.contains n) (@AL P w0 fr S ⟨((.region n l.toArray true),Q)⟩) (kx P w0 S l.toArray (fun fr S=>gl fr fun fr=>Q .normal fr S) l fr):=by simp[vw,bV,gl]
section
variable {ops:Array Oper} {K:List DV→St→Prop} {rest:List Oper} {dst:Option Tmp} {op:Op} {ty:TypeId} {pos:String} {aft:Array Edge}
theorem Gk:kx P w0 S ops K [] fr=K fr S:=rfl
theorem Bi:kx P w0 S ops K (⟨dst,op,ty,pos,aft,none⟩::rest) fr=bV (mB op) (aO P w0 op fr S fun d=>kx P w0 S ops K rest (pt fr dst d)) (nB P w0 ops K (⟨dst,op,ty,pos,aft,none⟩::rest) fr S):=rfl
theorem Bq(j:Nat)(want:Bool):kx P w0 S ops K (⟨dst,op,ty,pos,aft,some (j,want)⟩::rest) fr=bV (mB op) (gK ((ops[j]?).bind (·.dst)) fr want (fun fr=>aO P w0 op fr S fun d=>kx P w0 S ops K rest (pt fr dst d)) (fun fr=>kx P w0 S ops K rest (pt fr dst ud))) (nB P w0 ops K (⟨dst,op,ty,pos,aft,some (j,want)⟩::rest) fr S):=by
 rw[←nQ];rfl
end
def JG(l:List Oper)(F:List Oper→Prop):Prop:=F l
@[congr] theorem QN {l l':List Oper} {F:List Oper→Prop} (h:l=l'):JG l F=JG l' F:=by cases h;rfl
theorem Ak(c:Code):vw P w0 ss (.loop c) fr S Q= @AL P w0 fr S ⟨((.loop c),Q)⟩:=rfl
@[congr] theorem Ud {c:Code} {fr':List DV} {S':St} (h1:fr=fr') (h2:S=S'):vw P w0 ss c fr S Q=vw P w0 ss c fr' S' Q:=by cases h1;cases h2;rfl
@[congr] theorem SQ {ops:Array Oper} {K:List DV→St→Prop} {l:List Oper} {fr':List DV} {S':St} (h1:fr=fr') (h2:S=S'):kx P w0 S ops K l fr=kx P w0 S' ops K l fr':=by cases h1;cases h2;rfl
@[congr] theorem Tn {c:Code} {fr':List DV} {S':St} (h1:fr=fr') (h2:S=S'):fc P w0 c fr S Q=fc P w0 c fr' S' Q:=by cases h1;cases h2;rfl
end
attribute [go_sem] List.contains_nil List.contains_cons
attribute [go_sem ↓] Gk Bi Bq AX Cx Al yg AS Df Bf AA Ak
section
variable {md:Region.Mode} {ops:Array Oper}
def DH(md:Region.Mode)(ops:Array Oper):Nat→List Oper→Bool
 |_,[]=>true
 |k,o::l=>o.after.toList.all (fun e=>!Region.binds md e||decide (e.on<k))&&l.all (fun oj=>oj.after.toList.any (fun e=>Region.binds md e&&e.on==k)||o.apart ops oj)&&DH md ops (k+1) l
theorem oD:∀(l:List Oper) (k:Nat) (listed:Array Bool),(∀j,l[j]? =ops[k+j]?)→listed.size=ops.size→(∀i,i<k→listed[i]? =some true)→(∀i,k≤i→i<ops.size→listed[i]? =some false)→DH md ops k l=true→Region.lexFrom md ops l.length k listed=true
 |[],k,listed,hl,hs,h1,h2,_=>by
  simp only[WR,Region.lexFrom]
  have:Region.ready md ops listed=[]:=List.eq_nil_iff_forall_not_mem.2 fun i hi=>by
   obtain⟨hun,o,ho,_⟩:=mem_ready.1 hi;rw[bX]at hun;rcases WN i k with h|h
   ·rw[h1 i h]at hun;cases hun
   ·have:=hl (i-k);rw[show k+(i-k)=i by omega,ho]at this;simp at this
  rw[this];rfl
 |o::l,k,listed,hl,hs,h1,h2,hG=>by
  have h0:ops[k]? =some o:=by simpa using(hl 0).symm
  have hk:k<ops.size:=(Wf.1 h0).1;simp only[DH,We]at hG;obtain⟨⟨ha,hb⟩,hc⟩:=hG;simp only[Wq,Region.lexFrom,We]
  have hr:k∈Region.ready md ops listed:=mem_ready.2 ⟨bX.2 (h2 k (Wg _) hk),o,h0,fun e he hbind=>by
   have:=Ww.1 ha e (Array.mem_toList_iff.2 he);rw[hbind]at this;simp at this;exact bU.2 (h1 _ this)⟩
  refine⟨⟨by simpa using hr,?_⟩,?_⟩
  ·unfold Region.free;rw[h0];simp only[Ww,Xh];intro j hj;rcases Xt j k with h|h|h
   ·have:listed.getD j true=true:=by rw[Wz,h1 j h];rfl
    simp[this]
   ·simp[h]
   ·have hj2:=hl (j-k);rw[show k+(j-k)=j by omega,show j-k=(j-k-1)+1 by omega,Yk]at hj2;rw[←hj2]
    cases hq:l[j-k-1]? with
    |none=>simp
    |some oj=>
     have:=Ww.1 hb oj (Wc hq);simp only[Xy]at this ⊢;refine .inr ?_;rcases this with h|h
     ·refine .inl ?_;obtain⟨e,he,h⟩:=List.any_eq_true.1 h;exact Array.any_eq_true'.2 ⟨e,Array.mem_toList_iff.1 he,h⟩
     ·exact .inr h
  ·refine oD l (k+1) _ (fun j=>?_) (by simpa using hs) (fun i hi=>?_) (fun i hi hi2=>?_) hc
   ·have:=hl (j+1);simpa[Xi,XQ 1 j]using this
   ·rw[WB];by_cases h:k=i
    ·subst h;rw[if_pos rfl,if_pos (by omega)]
    ·rw[if_neg h];exact h1 i (by omega)
   ·rw[WB,if_neg (by omega)];exact h2 i (by omega) hi2
theorem vW{l:List Oper}(hs:Region.noSelect l.toArray=true)(h:DH md l.toArray 0 l=true):Region.lexB md l.toArray=true:=by
 unfold Region.lexB;rw[hs,XE];have:=oD (md:=md) (ops:=l.toArray) l 0 (Array.replicate l.toArray.size false) (fun j=>by simp) (by simp) (fun i hi=>absurd hi (by omega)) (fun i _ hi=>by rw[Yh,if_pos hi]) h;simpa using this
end
def pG(ss:List Nat):Code→Bool
 | .seq x y=>pG ss x&&pG ss y
 | .cond _ x y=>pG ss x&&pG ss y
 | .block n c=>ss.contains (n+1000)||pG ss c
 | .region n ops false=>ss.contains n||ops.toList.all (fun o=>eP o.op)
 | .region n ops true=>ss.contains n||(ops.toList.all (fun o=>eP o.op)&&Region.noSelect (ops.toList.take (jU ops.toList)).toArray&&DH .any (ops.toList.take (jU ops.toList)).toArray 0 (ops.toList.take (jU ops.toList))&&mO .any ops (jU ops.toList))
 |_=>true
theorem aU{ss:List Nat}(hm:P.follows .mixedOrders=true):∀(c:Code) {fr:List DV} {S:St} {Q:Exit→List DV→St→Prop},pG ss c=true→vw P w0 ss c fr S Q→fc P w0 c fr S Q
 | .skip,fr,S,Q,_,h=>Es h
 | .seq x y,fr,S,Q,ho,h=>by
  simp only[pG,We]at ho;exact Is ((aU hm x ho.1 h).mono fun e fr S hq=>by cases e <;>first|exact aU hm y ho.2 hq|exact hq)
 | .cond c x y,fr,S,Q,ho,h=>by
  simp only[pG,We]at ho;exact E7 (w5 (fun h=>aU hm x ho.1 h) (fun h=>aU hm y ho.2 h) h)
 | .block n c,fr,S,Q,ho,h=>by
  unfold vw bV at h;unfold pG at ho;split at h
  ·exact h
  ·rename_i hn;rw[hn,XU]at ho;exact Ba (aU hm c ho h)
 | .exit n,fr,S,Q,_,h=>Ev h
 | .ret,fr,S,Q,_,h=>GV h
 | .region n ops false,fr,S,Q,ho,h=>by
  unfold vw at h;unfold bV at h;unfold pG at ho;split at h
  ·exact h
  rename_i hn;rw[hn,XU]at ho;simp only at h;have:=fe _ ho h;have:=yk (id:=n) (l:=ops.toList) this;simpa using this
 | .region n ops true,fr,S,Q,ho,h=>by
  unfold vw at h;unfold bV at h;unfold pG at ho;split at h
  ·exact h
  rename_i hn;rw[hn,XU]at ho;simp only[We]at ho;simp only at h;have:=By (id:=n) (l:=ops.toList) (fr:=fr) (S:=S) (Q:=Q) hm (vW ho.1.1.2 ho.1.2) ho.2 ho.1.1.1 h;simpa using this
 | .loop c,fr,S,Q,_,h=>h
 | .rangeFunc f ps a b,fr,S,Q,_,h=>h
 | .scope c,fr,S,Q,_,h=>h
 | .label l,fr,S,Q,_,h=>h
 | .goto l,fr,S,Q,_,h=>h
 | .refuse w,fr,S,Q,_,h=>h
theorem jn(ss:List Nat){f:FuncId}{fn:Func}{c:Code}{rs:List ResultVar}{args:List DV}{S:St}{K:DV→St→Prop}(hm:P.follows .mixedOrders=true)(hf:P.funcs[f]? =some fn)(hb:fn.body=some c)(hrs:fn.results=rs.toArray)(hc:pG ss c=true)
 (h:vw P w0 ss c (cz (args++List.replicate (fn.ntmps-args.length) ud)) S fun e fr S'=>(e= .normal∨e= .ret)∧jP P fr S' rs fun d=>K d S'):aa P w0 f args S K:=
 pk hf hb hrs (aU hm c hc h)
end
end Aml
namespace Aml
open Go Go.RowKit
def Wk(d e:DV):Prop:=∀g u,ay g d u→ay g e u
def eK:List DV→List DV→Prop
 |[],[]=>True
 |d::ds,e::es=>Wk d e∧eK ds es
 |_,_=>False
theorem Wk.refl(d:DV):Wk d d:=fun _ _ h=>h
theorem Wk.trans{a b c:DV}(h:Wk a b)(k:Wk b c):Wk a c:=fun g u r=>k g u (h g u r)
theorem Wk.any(d:DV):Wk d .any:=fun g u _=> .any u
theorem Wk.nil(s s':Nat)(f:Bool):Wk (.sl s true []) (.sl s' f []):=fun g u r=>by
 obtain⟨o,h⟩:=ck r;rw[h];exact .nil _ _ _ _ fun _=>rfl
theorem Wk.RM(s s':Nat)(f:Bool):Wk (.sl s f []) (.sl s' false []):=fun g u r=>by
 rcases eO r with⟨_,o',c,hv,hf⟩|⟨b,o',c',us,hv',hl,_⟩
 ·rw[hv];exact .nil _ _ _ _ (by simp)
 ·have:us=[]:=Wu (by have:=hl.len;simpa using this.symm);rw[hv'];exact .nil _ _ _ _ (by simp)
theorem Wk.full(s:Nat)(f:Bool)(xs:List DV):Wk (.sl s f xs) (.sl s false xs):=fun g u r=>by
 cases r with
 |nil _ _ o c hc=>exact .nil _ _ _ _ (by simp)
 |sl _ _ _ b o c us hl hf hc hm hr hz h1 hi=>exact .sl _ _ _ _ _ _ us hl (by simp) hc hm hr hz h1 hi
theorem eK.refl:∀ds,eK ds ds
 |[]=>trivial
 |d::ds=>⟨.refl d,eK.refl ds⟩
theorem eK.spec:∀{ds es:List DV},eK ds es→∀{g:Gh} {us:List Value},ae g ds us→ae g es us
 |[],[],_,_,_,r=>r
 |d::ds,e::es,h,g,us,r=>by
  obtain⟨u,us',rfl,r1,r2⟩:=r.cC;exact ae.cons (h.1 _ _ r1) (eK.spec h.2 r2)
theorem eK.length:∀{ds es:List DV},eK ds es→ds.length=es.length
 |[],[],_=>rfl
 |d::ds,e::es,h=>by simp[eK.length h.2]
theorem eK.trans:∀{a b c:List DV},eK a b→eK b c→eK a c
 |[],[],[],_,_=>trivial
 |_::_,_::_,_::_,h,k=>⟨h.1.trans k.1,h.2.trans k.2⟩
theorem Wk.agg{ds es:List DV}(h:eK ds es):Wk (.agg ds) (.agg es):=fun g u r=>by
 cases r with
 |agg _ us hl hr h1=>
  have:=h.spec (g:=g) (us:=us) ⟨hl,hr⟩;exact .agg _ _ this.len this.at_ h1
theorem Wk.cE{ds es:List DV}(h:eK ds es):Wk (.cE ds) (.cE es):=fun g u r=>by
 cases r with
 |cE _ us hl hr=>
  have:=h.spec (g:=g) (us:=us) ⟨hl,hr⟩;exact .cE _ _ this.len this.at_
theorem Wk.gz{t:TypeId}{d e:DV}(h:Wk d e):Wk (.gz t d) (.gz t e):=fun g u r=>by
 cases r with
 |gz _ _ u r=>exact .gz _ _ _ (h _ _ r)
theorem Wk.sl{s:Nat}{f:Bool}{xs ys:List DV}(h:eK xs ys):Wk (.sl s f xs) (.sl s f ys):=fun g u r=>by
 cases r with
 |nil _ _ o c hc=>
  cases ys with
  |nil=>exact .nil _ _ _ _ hc
  |cons y ys=>exact h.elim
 |sl _ _ _ b o c us hl hf hc hm hr hz h1 hi=>
  have:=h.spec (g:=g) (us:=us) ⟨hl,hr⟩;exact .sl _ _ _ _ _ _ us this.len hf hc hm this.at_ hz h1 hi
theorem eK.map{α:Type}{f g:α→DV}(h:∀a,Wk (f a) (g a)):∀(l:List α),eK (l.map f) (l.map g)
 |[]=>trivial
 |a::l=>⟨h a,eK.map h l⟩
theorem eK.nil:eK [] []:=trivial
theorem eK.cons{d e:DV}{ds es:List DV}(h:Wk d e)(k:eK ds es):eK (d::ds) (e::es):=⟨h,k⟩
theorem Ey(d e:DV)(ds es:List DV):eK (d::ds) (e::es)=(Wk d e∧eK ds es):=rfl
theorem HS:eK [] []=True:=rfl
theorem M0(a0 a1 a2 a3 a4 a5 a6 a7 a8 a9 bl bq a12 bD bL bM:DV)(b0 b1 b2 b3 b4 b5 b6 b7 b8 b9 b10 b11 b12 b13 b14 b15:DV)(l m:List DV):eK (rc ⟨a0,a1,a2,a3,a4,a5,a6,a7,a8,a9,bl,bq,a12,bD,bL,bM⟩ l) (rc ⟨b0,b1,b2,b3,b4,b5,b6,b7,b8,b9,b10,b11,b12,b13,b14,b15⟩ m)=(Wk a0 b0∧Wk a1 b1∧Wk a2 b2∧Wk a3 b3∧Wk a4 b4∧Wk a5 b5∧Wk a6 b6∧Wk a7 b7∧Wk a8 b8∧Wk a9 b9∧Wk bl b10∧Wk bq b11∧Wk a12 b12∧Wk bD b13∧Wk bL b14∧Wk bM b15∧eK l m):=rfl
theorem HT(d:DV):Wk d d=True:=eq_true (.refl d)
theorem Kz{u u':Value}(h:u.oneCell'=true):Wk (.v u) (.v u')↔u=u':=
 ⟨fun k=>by have:=k ⟨fun _ _=>none,fun _ _=>none,fun _=>none,[]⟩ u (.v u h);cases this;rfl,fun e=>e▸ .refl _⟩
theorem MH(k:IntKind)(a b:Int):Wk (.v (.int k a)) (.v (.int k b))=(a=b):=propext ((Kz rfl).trans ⟨fun h=>(Value.int.inj h).2,fun h=>by rw[h]⟩)
theorem IP(a b:Bool):Wk (.v (.bool a)) (.v (.bool b))=(a=b):=propext ((Kz rfl).trans ⟨fun h=>Value.bool.inj h,fun h=>by rw[h]⟩)
theorem Mk(a b:ByteArray):Wk (.v (.string a)) (.v (.string b))=(a=b):=propext ((Kz rfl).trans ⟨fun h=>Value.string.inj h,fun h=>by rw[h]⟩)
theorem MQ(s s':Nat)(f:Bool):Wk (.sl s true []) (.sl s' f [])=True:=eq_true (.nil s s' f)
section
variable {P:Program} {w0:W0}
theorem gP{f:FuncId}{args args':List DV}{S:St}{K K':DV→St→Prop}(h:aa P w0 f args' S K')(ha:eK args args')(hk:∀d S',K' d S'→∃e,Wk d e∧K e S'):aa P w0 f args S K:=
 fun g vs w h1 h2=>(h g vs w h1 (ha.spec h2)).mono fun e w' k=>k.imp (.refl _) fun r g' d S' q2 q3 q4 q5=>
  let⟨e',k1,k2⟩:=hk _ _ q5
  ⟨g',e',S',q2,q3,k1 _ _ q4,k2⟩
theorem mg{f:FuncId}{args args':List DV}{S:St}{K:DV→St→Prop}{r:DV}(h:aa P w0 f args' S (fun d S'=>d=r∧S'=S))(ha:eK args args')(hk:K r S):aa P w0 f args S K:=
 gP h ha fun d S' ⟨h1,h2⟩=>⟨d,.refl d,by rw[h1,h2];exact hk⟩
theorem aw{f:FuncId}{args args':List DV}{S:St}{K:DV→St→Prop}{r:DV}(h:aa P w0 f args' S (fun d S'=>d=r∧S'=S))(hk:K r S)(ha:eK args args':=by exact eK.refl _):@AC P w0 f args S ⟨K⟩:=mg h ha hk
theorem an{f:FuncId}{args args':List DV}{S:St}{K K':DV→St→Prop}(h:aa P w0 f args' S K')(hk:∀d S',K' d S'→K d S')(ha:eK args args':=by exact eK.refl _):@AC P w0 f args S ⟨K⟩:=gP h ha fun d S' q=>⟨d,.refl d,hk d S' q⟩
theorem dn{f:FuncId}{args args':List DV}{S:St}{K:DV→Prop}{r:DV}(h:aa P w0 f args' S (fun d S'=>d=r∧S'=S))(hk:K r)(ha:eK args args':=by exact eK.refl _):@QC P w0 f args S ⟨K⟩:=
 ⟨r,mg h ha ⟨rfl,rfl⟩,hk⟩
structure Sub(S S':St):Prop where
 box:S.box.Sublist S'.box
 acc:S.acc.Sublist S'.acc
theorem Sub.refl(S:St):Sub S S:=⟨List.Sublist.refl _,List.Sublist.refl _⟩
theorem Sub.aP{S:St}{B:List (Nat×List DV)}{A:List (Nat×Ob)}{x:Nat×List DV}(h:Sub S ⟨B,A⟩):Sub S ⟨x::B,A⟩:=⟨h.box.cons _,h.acc⟩
theorem Sub.qe{S:St}{B:List (Nat×List DV)}{A:List (Nat×Ob)}{x:Nat×Ob}(h:Sub S ⟨B,A⟩):Sub S ⟨B,x::A⟩:=⟨h.box,h.acc.cons _⟩
theorem Sub.Pj{B B':List (Nat×List DV)}{A A':List (Nat×Ob)}{x:Nat×Ob}(h:Sub ⟨B,A⟩ ⟨B',A'⟩):Sub ⟨B,x::A⟩ ⟨B',x::A'⟩:=⟨h.box,h.acc.cons_cons _⟩
theorem ET(S:St):Sub S S=True:=eq_true (.refl S)
theorem LF{B B':List (Nat×List DV)}{A A':List (Nat×Ob)}(x:Nat×Ob)(h:Sub ⟨B,A⟩ ⟨B',A'⟩):Sub ⟨B,x::A⟩ ⟨B',x::A'⟩=True:=eq_true h.Pj
theorem LU(S:St){B:List (Nat×List DV)}{A:List (Nat×Ob)}(x:Nat×List DV)(h:Sub S ⟨B,A⟩):Sub S ⟨x::B,A⟩=True:=eq_true h.aP
theorem KT(S:St){B:List (Nat×List DV)}{A:List (Nat×Ob)}(x:Nat×Ob)(h:Sub S ⟨B,A⟩):Sub S ⟨B,x::A⟩=True:=eq_true h.qe
def oN:List Nat→List DV→St→(List DV→St→Prop)→Prop
 |[],fr,S,K=>K fr S
 |i::is,fr,S,K=>oK (fr[i]?) fun d=>shr S d fun d S=>oN is (fr.set i d) S K
theorem Ao(fr:List DV)(S:St)(K:List DV→St→Prop):oN [] fr S K=K fr S:=rfl
theorem xp(i:Nat)(is:List Nat)(fr:List DV)(S:St)(K:List DV→St→Prop):oN (i::is) fr S K=oK (fr[i]?) fun d=>shr S d fun d S=>oN is (fr.set i d) S K:=rfl
theorem tJ{K:List DV→St→Prop}:∀(is:List Nat) {fr:List DV} {S:St} {g:Gh} {w:World} {us:List Value},Rel w0 g S w→ae g fr us→oN is fr S K→∃g' fr' S',g.le g'∧Rel w0 g' S' w∧ae g' fr' us∧K fr' S'
 |[],fr,S,g,w,us,h1,h2,h=>⟨g,fr,S,.refl g,h1,h2,h⟩
 |i::is,fr,S,g,w,us,h1,h2,h=>by
  unfold oN at h
  cases hi:fr[i]? with
  |none=>rw[hi]at h;exact h.elim
  |some d=>
   rw[hi,rj]at h;have hlt:i<us.length:=by rw[←h2.len];exact(Wd.1 hi).1
   have hr:=h2.at_ i _ _ hi (Wb hlt);obtain⟨g1,d',S1,k1,k2,k3,k4⟩:=jd h1 hr h;obtain⟨g2,fr2,S2,q1,q2,q3,q4⟩:=tJ is k2 (fu (h2.mono k1) (Wb hlt) k3) k4;exact⟨g2,fr2,S2,k1.trans q1,q2,q3,q4⟩
theorem Kh{σ:Type}(live:List Nat)(cB:σ→List (Nat×DV))(st:σ→St)(inv:σ→Prop)(meas:σ→Nat)(s0:σ){c:Code}{fr:List DV}{S:St}{Q:Exit→List DV→St→Prop}
 (h0:inv s0∧eK (wk live fr) (jT (wk live fr) (cB s0))∧Sub (st s0) S)
 (round:∀s,inv s→fc P w0 c (jT (wk live fr) (cB s)) (st s) (fH (fun fr' S'=>∃s',inv s'∧meas s'<meas s∧eK (wk live fr') (jT (wk live fr) (cB s'))∧Sub (st s') S') Q)):
 fc P w0 (.loop c) fr S Q:=by
 intro g a w h1 h2 h3;refine lh (fun m a w=>Dk w0 g a w∧∃g' s,g.le g'∧Rel w0 g' (st s) w∧ae g' (jT (wk live fr) (cB s)) a.tmps.toList∧inv s∧meas s=m) (m:=meas s0) ⟨h3,g,s0,.refl g,h1.forget h0.2.2.box h0.2.2.acc,h0.2.1.spec (fY live h2),h0.1,rfl⟩ ?_;rintro m a w ⟨hd,g',s,k1,k2,k3,k4,rfl⟩;refine aS (round s k4 g' a w k2 k3 (k1.dk hd)) ?_;rintro e a' w' ⟨hd',g'',fr'',S'',q1,q2,q3,q4⟩
 cases e with
 |normal=>
  obtain⟨s',hi,hm,hf,hS⟩:=q4;exact⟨meas s',hm,k1.kd hd',g'',s',k1.trans q1,q2.forget hS.box hS.acc,hf.spec (fY live q3),hi,rfl⟩
 |exit n=>exact⟨k1.kd hd',g'',fr'',S'',k1.trans q1,q2,q3,q4⟩
 |goto n=>exact⟨k1.kd hd',g'',fr'',S'',k1.trans q1,q2,q3,q4⟩
 |ret=>exact⟨k1.kd hd',g'',fr'',S'',k1.trans q1,q2,q3,q4⟩
 |panic ch=>exact⟨k1.kd hd',g'',fr'',S'',k1.trans q1,q2,q3,q4⟩
 |outgrown=>exact⟨k1.kd hd',g'',fr'',S'',k1.trans q1,q2,q3,q4⟩
theorem dK{σ:Type}(ss:List Nat:=[])(live:List Nat)(cB:σ→List (Nat×DV))(st:σ→St)(inv:σ→Prop)(meas:σ→Nat)(s0:σ){c:Code}{fr:List DV}{S:St}{Q:Exit→List DV→St→Prop}(hm:P.follows .mixedOrders=true)(hc:pG ss c=true)
 (h0:inv s0∧eK (wk live fr) (jT (wk live fr) (cB s0))∧Sub (st s0) S)
 (round:∀s,inv s→vw P w0 ss c (jT (wk live fr) (cB s)) (st s) (fH (fun fr' S'=>∃s',inv s'∧meas s'<meas s∧eK (wk live fr') (jT (wk live fr) (cB s'))∧Sub (st s') S') Q)):
 fc P w0 (.loop c) fr S Q:=Kh live cB st inv meas s0 h0 fun s hs=>aU hm c hc (round s hs)
theorem wi{σ:Type}(ss:List Nat:=[])(live:List Nat)(cB:σ→List (Nat×DV))(st:σ→St)(inv:σ→Prop){c:Code}{fr:List DV}{S:St}{Q:Exit→List DV→St→Prop}(hm:P.follows .mixedOrders=true)(hc:pG ss c=true)
 (h1:vw P w0 ss c fr S (fH (fun fr' S'=>∃s,inv s∧eK (wk live fr') (jT (wk live fr) (cB s))∧Sub (st s) S') Q))
 (h2:∀s,inv s→Q .normal (jT (wk live fr) (cB s)) (st s)):fc P w0 c fr S Q:=by
 intro g a w q1 q2 q3;refine aS (aU hm c hc h1 g a w q1 q2 q3) ?_;rintro e a' w' ⟨hd,g',fr',S',k1,k2,k3,k4⟩
 cases e with
 |normal=>
  obtain⟨s,hi,hw,hS⟩:=k4;exact⟨hd,g',_,_,k1,k2.forget hS.box hS.acc,hw.spec (fY live k3),h2 s hi⟩
 |exit n=>exact⟨hd,g',fr',S',k1,k2,k3,k4⟩
 |goto n=>exact⟨hd,g',fr',S',k1,k2,k3,k4⟩
 |ret=>exact⟨hd,g',fr',S',k1,k2,k3,k4⟩
 |panic ch=>exact⟨hd,g',fr',S',k1,k2,k3,k4⟩
 |outgrown=>exact⟨hd,g',fr',S',k1,k2,k3,k4⟩
theorem LL(ss:List Nat:=[]){c:Code}{fr:List DV}{S:St}{Q:Exit→List DV→St→Prop}(hm:P.follows .mixedOrders=true)(hc:pG ss c=true)(h:vw P w0 ss c fr S Q):fc P w0 c fr S Q:=aU hm c hc h
theorem aY(ss:List Nat:=[])(n:Nat)(live:List Nat)(cB:Nat→List (Nat×DV))(st:Nat→St)(inv:Nat→Prop){c:Code}{fr:List DV}{S:St}{Q:Exit→List DV→St→Prop}(hm:P.follows .mixedOrders=true)(hc:pG ss c=true)
 (h0:inv 0∧eK (wk live fr) (jT (wk live fr) (cB 0))∧Sub (st 0) S)
 (round:∀k,k≤n→inv k→vw P w0 ss c (jT (wk live fr) (cB k)) (st k) (fH (fun fr' S'=>k<n∧inv (k+1)∧eK (wk live fr') (jT (wk live fr) (cB (k+1)))∧Sub (st (k+1)) S') Q)):
 fc P w0 (.loop c) fr S Q:=by
 refine Kh live cB st (fun k=>k≤n∧inv k) (fun k=>n-k) 0 ⟨⟨W4 _,h0.1⟩,h0.2⟩ ?_;rintro k ⟨h1,h2⟩;refine(aU hm c hc (round k h1 h2)).mono ?_;intro e fr' S' q
 cases e with
 |normal=>
  obtain⟨q1,q2,q3,q4⟩:=q;exact⟨k+1,⟨q1,q2⟩,by omega,q3,q4⟩
 |exit n=>exact q
 |goto n=>exact q
 |ret=>exact q
 |panic ch=>exact q
 |outgrown=>exact q
theorem cc(ss:List Nat:=[]){f:FuncId}{fn:Func}{c:Code}{rs:List ResultVar}{args:List DV}{S:St}{r:DV}(hm:P.follows .mixedOrders=true)(hf:P.funcs[f]? =some fn)(hb:fn.body=some c)(hrs:fn.results=rs.toArray)(hc:pG ss c=true)
 (h:vw P w0 ss c (cz (args++List.replicate (fn.ntmps-args.length) ud)) S fun e fr S'=>(e= .normal∨e= .ret)∧jP P fr S' rs fun d=>nj S' d fun d S''=>Wk d r∧Sub S S''):aa P w0 f args S (fun d S'=>d=r∧S'=S):=by
 have h1:aa P w0 f args S (fun d S'=>nj S' d fun d S''=>Wk d r∧Sub S S''):=pk hf hb hrs (aU hm c hc h);intro g vs w k1 k2;refine(h1 g vs w k1 k2).mono ?_;intro e w' k;refine k.imp (.refl _) ?_;rintro v g' d S' q2 q3 q4 q5;obtain⟨g2,d',S2,p1,p2,p3,p4,p5⟩:=y9 q3 q4 q5;exact⟨g2,r,S,q2.trans p1,p2.forget p5.box p5.acc,p4 _ _ p3,rfl,rfl⟩
theorem _root_.Aml.Rel.J9{g:Gh}{S:St}{w:World}(h:Rel w0 g S w){b:Nat}{ds ds':List DV}(hl:lk S.box b=some ds)(hw:∀us e,w.heap[b]? =some (.cells us e (0,0))→ae g ds us.toList→ae g ds' us.toList):Rel w0 g ⟨up S.box b ds',S.acc⟩ w:=by
 refine⟨h.below,h.aN,by rw[kR];exact h.nb,h.na,h.dc,h.fresh,h.top,?_⟩;obtain⟨ow,o1,o2⟩:=h.own;refine⟨ow,fun b' e hm=>?_,o2⟩;rcases eQ h.nb hm with he|⟨hm,_⟩
 ·cases he;obtain⟨q1,q2,q3,us,e,q4,q5,q6⟩:=o1 _ _ (bN hl);exact⟨q1,q2,q3,us,e,q4,hw _ _ q4 q5,q6⟩
 ·exact o1 _ _ hm
theorem fw(b j s:Nat)(hs:0<s){c:Code}{fr:List DV}{S:St}{Q:Exit→List DV→St→Prop}{ds:List DV}{s0:Nat}(hb:lk S.box b=some ds)(hi:ds[j]? =some (.sl s0 true []))
 (h:∀l:FN S.acc,fc P w0 c fr ⟨up S.box b (ds.set j (.acc l.n 0)),(l.n,.arr s [])::S.acc⟩ Q):fc P w0 c fr S Q:=by
 intro g a w h1 h2 h3;obtain⟨ow,o1,o2⟩:=h1.own;obtain⟨q1,q2,q3,us,e,q4,q5,q6⟩:=o1 _ _ (bN hb);have hlt:j<us.toList.length:=by rw[←q5.len];exact(Wd.1 hi).1
 have hr:=q5.at_ j _ _ hi (Wb hlt);have hr':ay g (.sl s true []) us.toList[j]:=by obtain⟨o',ho'⟩:=ck hr;rw[ho'];exact .nil _ _ _ _ fun _=>rfl
 obtain⟨l,g',hle,hne,hR,hA⟩:=h1.pv hs hr' (.arr s []) (.inr ⟨rfl,rfl⟩);have hR':=hR.J9 (ds':=ds.set j (.acc l 0)) (b:=b) hb ?_
 ·exact aS (h ⟨l,bT hne⟩ g' a w hR' (h2.mono hle) (hle.dk h3)) fun _ _ _ k=>k.of_le hle
 ·intro us' e' hh hr2;rw[hh]at q4;cases q4;exact fu hr2 (Wb hlt) hA
theorem mU(i s:Nat){c:Code}{fr:List DV}{S:St}{Q:Exit→List DV→St→Prop}{s0:Nat}(hi:fr[i]? =some (.sl s0 true []))(hs:0<s)
 (h:∀l:FN S.acc,fc P w0 c (fr.set i (.acc l.n 0)) ⟨S.box,(l.n,.arr s [])::S.acc⟩ Q):fc P w0 c fr S Q:=DI i s hs hi fun l hl=>h ⟨l,hl⟩
theorem Pc(ss:List Nat:=[])(is:List Nat){c:Code}{fr:List DV}{S:St}{Q:Exit→List DV→St→Prop}(hm:P.follows .mixedOrders=true)(hc:pG ss c=true)(h:oN is fr S fun fr S=>vw P w0 ss c fr S Q):fc P w0 c fr S Q:=by
 intro g a w h1 h2 h3;obtain⟨g',f',S',k1,k2,k3,k4⟩:=tJ is h1 h2 h;exact aS (aU hm c hc k4 g' a w k2 k3 (k1.dk h3)) fun _ _ _ k=>k.of_le k1
theorem ry{f:FuncId}{args:List DV}{S:St}{K K':DV→St→Prop}(h:aa P w0 f args S K')(s:Nat)(hs:0<s)
 (hk:∀d S',K' d S'→K d S'∨((∃s0,d= .sl s0 true [])∧∀l,gB S'.acc l→K (.acc l 0) ⟨S'.box,(l,.arr s [])::S'.acc⟩)):aa P w0 f args S K:=by
 intro g vs w h1 h2;refine(h g vs w h1 h2).mono ?_;intro e w' k;refine k.imp (.refl _) ?_;rintro r g' d S' q2 q3 q4 q5;rcases hk d S' q5 with h|⟨⟨s0,rfl⟩,h⟩
 ·exact⟨g',d,S',q2,q3,q4,h⟩
 ·have hr':ay g' (.sl s true []) r:=by obtain⟨o',ho'⟩:=ck q4;rw[ho'];exact .nil _ _ _ _ fun _=>rfl
  obtain⟨l,g2,hle,hne,hR,hA⟩:=q3.pv hs hr' (.arr s []) (.inr ⟨rfl,rfl⟩);exact⟨g2,_,_,q2.trans hle,hR,hA,h l (bT hne)⟩
theorem zH{f:FuncId}{args:List DV}{S:St}{xs:List DV}(s:Nat)(hs:0<s)(h:aa P w0 f args S fun d S'=>(xs=[]∧(∃s0,d= .sl s0 true [])∧S'=S)∨∃l:FN S.acc,d= .acc l.n xs.length∧S'=⟨S.box,(l.n,.arr s xs)::S.acc⟩):
 aa P w0 f args S fun d S'=>∃l:FN S.acc,d= .acc l.n xs.length∧S'=⟨S.box,(l.n,.arr s xs)::S.acc⟩:=by
 refine ry h s hs ?_;rintro d S' (⟨rfl,⟨s0,rfl⟩,rfl⟩|h)
 ·exact .inr ⟨⟨s0,rfl⟩,fun l hl=>⟨⟨l,hl⟩,rfl,rfl⟩⟩
 ·exact .inl h
end
attribute [go_sem high] ET LF
attribute [go_sem] M0 LU KT Ey HS HT MH IP Mk MQ
attribute [go_sem ↓] Ao xp
structure Wr(P:Prop):Prop where
 h:P
end Aml
namespace Aml
open Go Go.RowKit
section
variable {P:Program} {w0:W0}
theorem G6{fr:List DV}{S:St}{K:DV→St→Prop}(x:Operand):aE P w0 (.panic x) fr S K=ph w0 (ev fr x) S:=rfl
theorem uX(t:TypeId)(d:DV)(S:St):ph w0 (.gz t d) S=w0.pq (.gz t d) S:=rfl
attribute [go_sem ↓] G6 uX
theorem lU(ss:List Nat:=[]){f:FuncId}{fn:Func}{c:Code}{rs:List ResultVar}{args:List DV}{S:St}{K:DV→St→Prop}(hm:P.follows .mixedOrders=true)(hf:P.funcs[f]? =some fn)(hb:fn.body=some c)(hrs:fn.results=rs.toArray)(hc:pG ss c=true)
 (h:vw P w0 ss c (cz (args++List.replicate (fn.ntmps-args.length) ud)) S fun e fr S'=>(e= .normal∨e= .ret)∧jP P fr S' rs fun d=>∃d' S'',Wk d d'∧Sub S'' S'∧K d' S''):aa P w0 f args S K:=by
 have h1:aa P w0 f args S (fun d S'=>∃d' S'',Wk d d'∧Sub S'' S'∧K d' S''):=pk hf hb hrs (aU hm c hc h);intro g vs w k1 k2;refine(h1 g vs w k1 k2).mono ?_;intro e w' k;refine k.imp (.refl _) ?_;rintro v g' d S' q2 q3 q4 ⟨d',S'',p1,p2,p3⟩;exact⟨g',d',S'',q2,q3.forget p2.box p2.acc,p1 _ _ q4,p3⟩
end
end Aml
