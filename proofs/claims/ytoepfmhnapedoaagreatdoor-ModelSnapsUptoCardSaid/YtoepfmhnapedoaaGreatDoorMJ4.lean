/-
  Part 4 of the proof that the last text ends: from 'Reckoning over statements whose order is open' to 'More forms of functions'. By an AI agent.
-/
import Derived.Test.YtoepfmhnapedoaaGreatDoorMJ3
set_option linter.unusedVariables false
set_option linter.unusedSimpArgs false
set_option maxRecDepth 100000
set_option maxHeartbeats 16000000
namespace Aml
open Go Go.RowKit
section
variable {P:Program} {w0:W0} {S:St} {K:DV→Prop}
theorem pH{c a b:DV}(h:gn c a b K):∃d,gn c a b (·=d)∧K d:=by
 unfold gn at*;split at h
 ·rename_i t;cases t
  ·exact⟨b,⟨by simp,fun _=>rfl⟩,h.2 rfl⟩
  ·exact⟨a,⟨fun _=>rfl,by simp⟩,h.1 rfl⟩
 ·exact h.elim
theorem N4{ds:List DV}(h:M9 ds K):∃d,M9 ds (·=d)∧K d:=by
 unfold M9 at*;split at h
 ·exact⟨_,rfl,h⟩
 ·exact h.elim
theorem sT{k:TK}{ds:List DV}(h:nh k ds K):∃d,nh k ds (·=d)∧K d:=by
 unfold nh at*;split at h
 ·exact⟨_,⟨h.1,rfl⟩,h.2⟩
 ·exact⟨_,⟨h.1,rfl⟩,h.2⟩
 ·exact h.elim
 ·exact N4 h
theorem uu{k:TK}{x:DV}(h:cg k S x K):∃d,cg k S x (·=d)∧K d:=by
 unfold cg at*;split at h
 ·split at h
  ·rename_i hb;(try simp only[hb]);exact sT h
  ·exact h.elim
 ·exact sT h
 ·split at h
  ·rename_i hb;obtain⟨h1,h2,d,h3,h4,h5⟩:=h;obtain⟨e,q1,q2⟩:=sT h5;exact⟨e,by first|exact⟨h1,h2,d,h3,h4,q1⟩|(simp only[hb];exact⟨h1,h2,d,h3,h4,q1⟩),q2⟩
  ·rename_i hb;obtain⟨h1,h2,d,h3,h4,h5⟩:=h;obtain⟨e,q1,q2⟩:=sT h5;exact⟨e,by first|exact⟨h1,h2,d,h3,h4,q1⟩|(simp only[hb];exact⟨h1,h2,d,h3,h4,q1⟩),q2⟩
  ·exact h.elim
 ·exact h.elim
theorem mM{k:TK}{f:Nat}{x:DV}(h:eA k f x K):∃d,eA k f x (·=d)∧K d:=by
 unfold eA at*;split at h
 ·split at h
  ·rename_i hf
   try simp only[hf]
   obtain⟨h1,h⟩:=h;split at h
   ·exact⟨_,⟨h1,rfl⟩,h⟩
   ·exact⟨_,⟨h1,h.1,rfl⟩,h.2⟩
   ·exact⟨_,⟨h1,rfl⟩,h⟩
   ·exact h.elim
  ·exact h.elim
 ·exact h.elim
theorem bM{k:TK}{x i:DV}(h:aD k x i K):∃d,aD k x i (·=d)∧K d:=by
 unfold aD at*;split at h
 ·split at h
  ·obtain⟨h1,h2,h3,h4⟩:=h;rename_i z _ _ _ xs;have hlt:z.toNat<xs.length:=by omega
   obtain⟨h5,h6⟩:=h4 _ (Xb hlt);exact⟨_,⟨h1,h2,h3,fun d hd=>by rw[Xb hlt]at hd;cases hd;exact⟨h5,rfl⟩⟩,h6⟩
  ·exact⟨_,⟨h.1,h.2.1,rfl⟩,h.2.2⟩
  ·exact⟨_,⟨h.1,h.2.1,rfl⟩,h.2.2⟩
  ·exact h.elim
 ·obtain⟨h1,h2,h3,h4⟩:=h;split at h4
  ·exact⟨_,⟨h1,h2,h3,rfl⟩,h4⟩
  ·exact⟨_,⟨h1,h2,h3,h4.1,rfl⟩,h4.2⟩
  ·exact h4.elim
 ·exact h.elim
theorem Ad{w0:W0}{fr:List DV}{x:Operand}{k:TK}{i:DV}(h:A4 w0 fr x fun d=>aD k d i K):∃d,(A4 w0 fr x fun d'=>aD k d' i (·=d))∧K d:=by
 cases x with
 |global b=>
  obtain⟨us,hg,h⟩:=h;obtain⟨d,q1,q2⟩:=bM h;exact⟨d,⟨us,hg,q1⟩,q2⟩
 |tmp n=>exact bM (x:=ev fr (.tmp n)) h
 |const u=>exact bM (x:=ev fr (.const u)) h
 |func f=>exact bM (x:=ev fr (.func f)) h
theorem mV{k:TK}{x i:DV}(h:iO k x i K):∃d,iO k x i (·=d)∧K d:=by
 unfold iO at*;split at h
 ·obtain⟨h1,h2,h3⟩:=h;rename_i s _ z;have hlt:z.toNat<s.data.toList.length:=by simp;have:s.data.size=s.size:=rfl;omega
  exact⟨_,⟨h1,h2,fun d hd=>by rw[Xb hlt]at hd;cases hd;rfl⟩,h3 _ (Xb hlt)⟩
 ·exact h.elim
theorem kZ{k:TK}{f:Nat}{x:DV}(h:cV k f x K):∃d,cV k f x (·=d)∧K d:=by
 unfold cV at*;split at h
 ·split at h
  ·rename_i hf
   try simp only[hf]
   split at h
   ·obtain⟨h1,h⟩:=h;split at h
    ·exact⟨_,⟨h1,rfl⟩,h⟩
    ·split at h
     ·rename_i hd;(try simp only[hd]);exact⟨_,⟨h1,rfl⟩,h⟩
     ·exact h.elim
   ·exact h.elim
  ·exact h.elim
 ·exact h.elim
theorem ju{i:Nat}{x:DV}(h:cj i x K):∃d,cj i x (·=d)∧K d:=by
 unfold cj at*;split at h
 ·split at h
  ·rename_i hd;(try simp only[hd]);exact⟨_,rfl,h⟩
  ·exact h.elim
 ·exact h.elim
theorem Gv{op:BinOp}{k:IntKind}{m n:Int}(h:kG op k m n K):∃d,kG op k m n (·=d)∧K d:=by
 cases op <;>simp only[kG]at h ⊢ <;>first|exact⟨_,rfl,h⟩|exact⟨_,⟨h.1,rfl⟩,h.2⟩
theorem G1{op:BinOp}{x y:ByteArray}(h:fZ op x y K):∃d,fZ op x y (·=d)∧K d:=by
 cases op <;>simp only[fZ]at h ⊢ <;>first|exact⟨_,rfl,h⟩|exact⟨_,⟨h.1,rfl⟩,h.2⟩
theorem Jy{op:BinOp}{t:TK}{cx cy:Bool}{x y:DV}(h:jT op t cx cy x y K):∃d,jT op t cx cy x y (·=d)∧K d:=by
 unfold jT at*;split at h
 ·obtain⟨d,q1,q2⟩:=Gv h.2;exact⟨d,⟨h.1,q1⟩,q2⟩
 ·exact G1 h
 ·split at h <;>first|exact⟨_,rfl,h⟩|exact h.elim
 ·split at h <;>first|exact⟨_,⟨h.1,rfl⟩,h.2⟩|exact h.elim
 ·split at h <;>first|exact⟨_,rfl,h⟩|exact h.elim
 ·split at h <;>first|exact⟨_,rfl,h⟩|exact h.elim
 ·split at h <;>first|exact⟨_,⟨h.1,rfl⟩,h.2⟩|exact h.elim
 ·exact h.elim
theorem qb{op:BinOp}{t:TypeId}{cx cy:Bool}{x y:DV}(h:ix P op t cx cy x y K):∃d,ix P op t cx cy x y (·=d)∧K d:=by
 unfold ix at*;split at h
 ·unfold jC at*;split at h
  ·rename_i he;obtain⟨q,q1,q2⟩:=jy h;exact⟨_,fS (fun r e=>by rw[e]) q1,q2⟩
  ·rename_i he;obtain⟨q,q1,q2⟩:=jy h;exact⟨_,fS (fun r e=>by rw[e]) q1,q2⟩
  ·exact h.elim
 ·exact Jy h
theorem yG{op:UnOp}{x:DV}(h:zW op x K):∃d,zW op x (·=d)∧K d:=by
 unfold zW at*;split at h <;>first|exact⟨_,rfl,h⟩|exact h.elim
theorem pL{a b:TK}{x:DV}(h:gp a b x K):∃d,gp a b x (·=d)∧K d:=by
 unfold gp at*;split at h <;>first|exact⟨_,rfl,h⟩|exact h.elim
theorem qi{fn:Fn}{a b:List DV}(h:jr fn a b K):∃d,jr fn a b (·=d)∧K d:=by
 unfold jr at*;split at h <;>first|exact⟨_,rfl,h⟩|exact h.elim
theorem dM{x:Option DV}{z:Int}{F:(DV→Prop)→Int→Prop}(hF:∀n,F K n→∃d,F (·=d) n∧K d)(h:kx x z (F K)):∃d,kx x z (F (·=d))∧K d:=by
 unfold kx at*;split at h <;>first|exact hF _ h|exact h.elim
theorem mr{k:TK}{x:DV}{lo hi mx:Option DV}(h:fi k x lo hi mx K):∃d,fi k x lo hi mx (·=d)∧K d:=by
 unfold fi at*;split at h
 ·obtain⟨h1,h⟩:=h;rename_i e s b s' f xs
  obtain⟨d,q1,q2⟩:=dM (F:=fun K l=>kx hi xs.length fun h=>kx mx h fun m=>0≤l∧l≤h∧h≤m∧m≤xs.length∧
   K (.sl s (if mx.isSome then decide (m=h)else(f&&(hi.isNone||xs.isEmpty))) ((xs.take h.toNat).drop l.toNat))) (fun l h=>dM (F:=fun K h=>kx mx h fun m=>0≤l∧l≤h∧h≤m∧m≤xs.length∧
   K (.sl s (if mx.isSome then decide (m=h)else(f&&(hi.isNone||xs.isEmpty))) ((xs.take h.toNat).drop l.toNat))) (fun hh h=>dM (F:=fun K m=>0≤l∧l≤hh∧hh≤m∧m≤xs.length∧
   K (.sl s (if mx.isSome then decide (m=hh)else(f&&(hi.isNone||xs.isEmpty))) ((xs.take hh.toNat).drop l.toNat))) (fun m h=>⟨_,⟨h.1,h.2.1,h.2.2.1,h.2.2.2.1,rfl⟩,h.2.2.2.2⟩) h) h) h
  exact⟨d,⟨h1,q1⟩,q2⟩
 ·obtain⟨h1,h⟩:=h;rename_i s
  obtain⟨d,q1,q2⟩:=dM (F:=fun K l=>kx hi s.size fun h=>0≤l∧l≤h∧h≤s.size∧K (.v (.string (s.extract l.toNat h.toNat)))) (fun l h=>dM (F:=fun K h=>0≤l∧l≤h∧h≤s.size∧K (.v (.string (s.extract l.toNat h.toNat))))
   (fun hh h=>⟨_,⟨h.1,h.2.1,h.2.2.1,rfl⟩,h.2.2.2⟩) h) h
  exact⟨d,⟨h1,q1⟩,q2⟩
 ·rename_i e s by' b o n c
  exact dM (F:=fun K l=>kx hi n fun h=>kx mx c fun m=>0≤l∧l≤h∧h≤m∧m≤c∧
   K (.v (.slice (some ⟨b,if m.toNat=l.toNat then o else o+l.toNat*s,none⟩) (h.toNat-l.toNat) (m.toNat-l.toNat)))) (fun l h=>dM (F:=fun K h=>kx mx c fun m=>0≤l∧l≤h∧h≤m∧m≤c∧
   K (.v (.slice (some ⟨b,if m.toNat=l.toNat then o else o+l.toNat*s,none⟩) (h.toNat-l.toNat) (m.toNat-l.toNat)))) (fun hh h=>dM (F:=fun K m=>0≤l∧l≤hh∧hh≤m∧m≤c∧
   K (.v (.slice (some ⟨b,if m.toNat=l.toNat then o else o+l.toNat*s,none⟩) (hh.toNat-l.toNat) (m.toNat-l.toNat)))) (fun m h=>⟨_,⟨h.1,h.2.1,h.2.2.1,h.2.2.2.1,rfl⟩,h.2.2.2.2⟩) h) h) h
 ·obtain⟨h1,h⟩:=h;rename_i n e s ag nn b o
  obtain⟨d,q1,q2⟩:=dM (F:=fun K l=>kx hi n fun h=>kx mx n fun m=>0≤l∧l≤h∧h≤m∧m≤n∧
   K (.v (.slice (some ⟨b,if m.toNat=l.toNat then o else o+l.toNat*s,none⟩) (h.toNat-l.toNat) (m.toNat-l.toNat)))) (fun l h=>dM (F:=fun K h=>kx mx n fun m=>0≤l∧l≤h∧h≤m∧m≤n∧
   K (.v (.slice (some ⟨b,if m.toNat=l.toNat then o else o+l.toNat*s,none⟩) (h.toNat-l.toNat) (m.toNat-l.toNat)))) (fun hh h=>dM (F:=fun K m=>0≤l∧l≤hh∧hh≤m∧m≤n∧
   K (.v (.slice (some ⟨b,if m.toNat=l.toNat then o else o+l.toNat*s,none⟩) (hh.toNat-l.toNat) (m.toNat-l.toNat)))) (fun m h=>⟨_,⟨h.1,h.2.1,h.2.2.1,h.2.2.2.1,rfl⟩,h.2.2.2.2⟩) h) h) h
  exact⟨d,⟨h1,q1⟩,q2⟩
 ·exact h.elim
theorem tU{k:TK}{x:DV}(h:lZ k x K):∃d,lZ k x (·=d)∧K d:=by
 unfold lZ at*;split at h <;>first|exact⟨_,rfl,h⟩|exact h.elim
theorem tH{k:TK}{x:DV}(h:qU k x K):∃d,qU k x (·=d)∧K d:=by
 unfold qU at*;split at h <;>first|exact⟨_,rfl,h⟩|exact h.elim
theorem sY{x y:DV}(h:pj x y K):∃d,pj x y (·=d)∧K d:=by
 unfold pj at*;split at h <;>first|exact⟨_,rfl,h⟩|exact h.elim
theorem tP{x y:DV}(h:pM x y K):∃d,pM x y (·=d)∧K d:=by
 unfold pM at*;split at h <;>first|exact⟨_,rfl,h⟩|exact h.elim
theorem nj{t:TypeId}{parts:List (Nat×DV)}(h:dV P t parts K):∃d,dV P t parts (·=d)∧K d:=by
 unfold dV at*;split at h
 ·split at h
  ·rename_i hf;(try simp only[hf]);exact⟨_,rfl,h⟩
  ·exact h.elim
 ·exact h.elim
theorem gj{k:TK}{z:DV}{len:Nat}{parts:List (Nat×DV)}(h:aM k z len parts K):∃d,aM k z len parts (·=d)∧K d:=by
 unfold aM at*;split at h
 ·obtain⟨h1,h2,h3,h⟩:=h;split at h
  ·rename_i hf;(try simp only[hf]);exact⟨_,⟨h1,h2,h3,rfl⟩,h⟩
  ·exact h.elim
 ·exact h.elim
def ri:DV→Bool
 | .acc _ _=>false
 |_=>true
def eg:DV→Bool
 | .agg ds=>ds.all ri
 |d=>ri d
theorem zS{K:DV→St→Prop}{d:DV}(hd:ri d=true)(h:K d S):jZ S d K:=by
 cases d <;>first|(cases hd;done)|exact h
theorem AO{K:DV→St→Prop}{k:TK}{x:DV}{lo hi mx:Option DV}(hx:ri x=true)(h:gQ k S x lo hi mx K):fH k S x lo hi mx K:=by
 cases x <;>first|(cases hx;done)|exact h
theorem wa:∀{ds:List DV} {K:List DV→St→Prop},ds.all ri=true→K ds S→jN S ds K
 |[],K,_,h=>h
 |d::ds,K,hd,h=>by
  simp only[Zh,Xe]at hd;exact zS hd.1 (wa hd.2 h)
theorem E8{K:DV→St→Prop}{d:DV}(hd:eg d=true)(h:K d S):shr S d K:=by
 cases d with
 |agg ds=>exact wa hd h
 |acc l n=>cases hd
 |_=>exact h
theorem om:∀{ds:List DV} {K:List DV→St→Prop},ds.all eg=true→K ds S→eO S ds K
 |[],K,_,h=>h
 |d::ds,K,hd,h=>by
  simp only[Zh,Xe]at hd;exact E8 hd.1 (om hd.2 h)
theorem pG{ds:List DV}{F:List DV→St→Prop}(hd:ds.all eg=true)(h:F ds S):fq S ds F:=by
 unfold fq;split
 ·exact .inl h
 ·exact om hd h
def kP(P:Program)(w0:W0)(cal:DV)(ds:List DV)(S:St)(K:DV→Prop):Prop:=match cal with
 | .v (.func (.func f) a cap)=>a.size=0∧okF P f=true∧cap.toList.all (fun u=>u.oneCell')=true∧ds.all eg=true∧∃d,aa P w0 f (ds++cap.toList.map .v) S (fun d' S'=>d'=d∧S'=S)∧K d
 |_=>False
theorem pf{m:Option (KK×DV)}{S:St}{x y:DV}{ok:Bool}{K:DV→Prop}(h:bH m S x y ok K):∃d,bH m S x y ok (·=d)∧K d:=by
 unfold bH at*
 cases m with
 |none=>exact h.elim
 |some p=>
  simp only[oK]at h ⊢;obtain⟨h0,h⟩:=h
  cases hk:ld y with
  |none=>rw[hk]at h;exact h.elim
  |some k=>
   rw[hk]at h;simp only at h ⊢;obtain⟨h1,h⟩:=h;split at h
   ·exact⟨_,⟨h0,h1,rfl⟩,h⟩
   ·split at h
    ·obtain⟨h2,h⟩:=h
     cases hg:aJ _ k with
     |none=>rw[hg]at h;exact⟨_,⟨h0,h1,h2,rfl⟩,h⟩
     |some d=>rw[hg]at h;exact⟨_,⟨h0,h1,h2,rfl⟩,h⟩
    ·exact h.elim
   ·exact h.elim
def aV(P:Program)(w0:W0)(op:Op)(fr:List DV)(S:St)(K:DV→Prop):Prop:=match op with
 | .move x=>K (ev fr x)
 | .assign x=>K (ev fr x)
 | .pick c a b=>gn (ev fr c) (ev fr a) (ev fr b) K
 | .load t x=>cg (tk P t) S (ev fr x) K
 | .fieldAddr t x f=>eA (tk P t) f (ev fr x) K
 | .indexAddr t x i=>A4 w0 fr x fun d=>aD (tk P t) d (ev fr i) K
 | .index t x i=>iO (tk P t) (ev fr x) (ev fr i) K
 | .field t x f=>cV (tk P t) f (ev fr x) K
 | .extract x i=>cj i (ev fr x) K
 | .nilCheck x=>notNil (ev fr x)=true∧K (ev fr x)
 | .binOp b t x y _=>eE y=false∧ix P b t (u9 x) (u9 y) (ev fr x) (ev fr y) K
 | .unOp b _ x=>zW b (ev fr x) K
 | .convert s d x=>gp (tk P s) (tk P d) (ev fr x) K
 | .makeInterface t x=>nO (tk P t)=false∧eg (ev fr x)=true∧K (.ij t (ev fr x))
 | .makeFunc fn a b=>jr fn (a.toList.map (ev fr)) (b.toList.map (ev fr)) K
 | .slice t x lo hi mx=>(mx.isSome=true→hi.isSome=true)∧ri (ev fr x)=true∧fi (tk P t) (ev fr x) (lo.map (ev fr)) (hi.map (ev fr)) (mx.map (ev fr)) K
 | .build t parts=>(parts.toList.map fun p=>ev fr p.2).all eg=true∧dV P t ((parts.toList.map (·.1)).zip (parts.toList.map fun p=>ev fr p.2)) K
 | .buildSlice t len parts=>(parts.toList.map fun p=>ev fr p.2).all eg=true∧aM (tk P t) (zD P (cW P t)) len ((parts.toList.map (·.1)).zip (parts.toList.map fun p=>ev fr p.2)) K
 | .lookup t x y ok=>bH (kE P t) S (ev fr x) (ev fr y) ok K
 | .call c=>match c.callee with
  | .builtin .len=>(match c.args.toList,c.argTypes.toList with
   |[x],[t]=>lZ (tk P t) (ev fr x) K
   |_,_=>False)
  | .builtin .cap=>(match c.args.toList,c.argTypes.toList with
   |[x],[t]=>qU (tk P t) (ev fr x) K
   |_,_=>False)
  | .builtin .min=>(match c.args.toList with
   |[x,y]=>pj (ev fr x) (ev fr y) K
   |_=>False)
  | .builtin .max=>(match c.args.toList with
   |[x,y]=>pM (ev fr x) (ev fr y) K
   |_=>False)
  | .value cal=>kP P w0 (ev fr cal) (c.args.toList.map (ev fr)) S K
  | .invoke r name=>x5 P (ev fr r) name fun f d=>kP P w0 (.v (.func (.func f) #[] #[])) (d::c.args.toList.map (ev fr)) S K
  |_=>False
 |_=>False
theorem jo{o:Oper}{fr:List DV}(hs:eY o.op=true)(h:aV P w0 o.op fr S K):∃d,QY P w0 S o fr d∧K d:=by
 have fin:∀{d:DV},aF P w0 o.op fr S (fun d' S'=>d'=d∧S'=S)→K d→∃d,QY P w0 S o fr d∧K d:=fun h1 h2=>⟨_,cQ hs h1,h2⟩
 cases hop:o.op with
 |move x=>rw[hop]at h;exact fin (by rw[hop];exact⟨rfl,rfl⟩) h
 |assign x=>rw[hop]at h;exact fin (by rw[hop];exact⟨rfl,rfl⟩) h
 |pick c a b=>rw[hop]at h;obtain⟨d,q1,q2⟩:=pH h;exact fin (by rw[hop];simpa[aF]using q1) q2
 |load t x=>rw[hop]at h;obtain⟨d,q1,q2⟩:=uu h;exact fin (by rw[hop];simpa[aF]using q1) q2
 |fieldAddr t x f=>rw[hop]at h;obtain⟨d,q1,q2⟩:=mM h;exact fin (by rw[hop];simpa[aF]using q1) q2
 |indexAddr t x i=>
  rw[hop]at h
  cases x with
  |global b=>
   obtain⟨us,hg,h⟩:=(show ny w0 b fun d=>aD (tk P t) d (ev fr i) K from h);obtain⟨d,q1,q2⟩:=bM h;exact fin (by rw[hop];exact⟨us,hg,by simpa using q1⟩) q2
  |tmp n=>obtain⟨d,q1,q2⟩:=bM (show aD (tk P t) (ev fr (.tmp n)) (ev fr i) K from h);exact fin (by rw[hop];simpa[aF,A4]using q1) q2
  |const u=>obtain⟨d,q1,q2⟩:=bM (show aD (tk P t) (ev fr (.const u)) (ev fr i) K from h);exact fin (by rw[hop];simpa[aF,A4]using q1) q2
  |func f=>obtain⟨d,q1,q2⟩:=bM (show aD (tk P t) (ev fr (.func f)) (ev fr i) K from h);exact fin (by rw[hop];simpa[aF,A4]using q1) q2
 |index t x i=>rw[hop]at h;obtain⟨d,q1,q2⟩:=mV h;exact fin (by rw[hop];simpa[aF]using q1) q2
 |field t x f=>rw[hop]at h;obtain⟨d,q1,q2⟩:=kZ h;exact fin (by rw[hop];simpa[aF]using q1) q2
 |extract x i=>rw[hop]at h;obtain⟨d,q1,q2⟩:=ju h;exact fin (by rw[hop];simpa[aF]using q1) q2
 |nilCheck x=>rw[hop]at h;exact fin (by rw[hop];exact⟨h.1,rfl,rfl⟩) h.2
 |binOp b t x y t'=>rw[hop]at h;obtain⟨d,q1,q2⟩:=qb h.2;exact fin (by rw[hop];simp only[aF,h.1];simpa using q1) q2
 |unOp b t x=>rw[hop]at h;obtain⟨d,q1,q2⟩:=yG h;exact fin (by rw[hop];simpa[aF]using q1) q2
 |convert s d x=>rw[hop]at h;obtain⟨d',q1,q2⟩:=pL h;exact fin (by rw[hop];simpa[aF]using B8 (ke:=tk P (cW P s)) (kb:=tk P (cW P d)) (S:=S) q1) q2
 |makeInterface t x=>rw[hop]at h;exact fin (by rw[hop];exact⟨h.1,E8 h.2.1 ⟨rfl,rfl⟩⟩) h.2.2
 |makeFunc fn a b=>rw[hop]at h;obtain⟨d,q1,q2⟩:=qi h;exact fin (by rw[hop];simpa[aF]using q1) q2
 |slice t x lo hi mx=>rw[hop]at h;obtain⟨d,q1,q2⟩:=mr h.2.2;exact fin (by rw[hop];exact⟨h.1,AO h.2.1 (zS h.2.1 (by simpa using q1))⟩) q2
 |lookup t x y ok=>rw[hop]at h;obtain⟨d,q1,q2⟩:=pf h;exact fin (by rw[hop];simpa[aF]using q1) q2
 |build t parts=>rw[hop]at h;obtain⟨d,q1,q2⟩:=nj h.2;exact fin (by rw[hop];exact om h.1 (by simpa using q1)) q2
 |buildSlice t len parts=>rw[hop]at h;obtain⟨d,q1,q2⟩:=gj h.2;exact fin (by rw[hop];exact om h.1 (by simpa using q1)) q2
 |call c=>
  rw[hop]at h;obtain⟨callee,args,ts⟩:=c;simp only[aV]at h;split at h
  ·split at h
   ·rename_i x t e1 e2;obtain⟨d,q1,q2⟩:=tU h;exact fin (by rw[hop];simp only[aF,e1,e2];simpa using q1) q2
   ·exact h.elim
  ·split at h
   ·rename_i x t e1 e2;obtain⟨d,q1,q2⟩:=tH h;exact fin (by rw[hop];simp only[aF,e1,e2];simpa using q1) q2
   ·exact h.elim
  ·split at h
   ·rename_i x y e1;obtain⟨d,q1,q2⟩:=sY h;exact fin (by rw[hop];simp only[aF,e1];simpa using q1) q2
   ·exact h.elim
  ·split at h
   ·rename_i x y e1;obtain⟨d,q1,q2⟩:=tP h;exact fin (by rw[hop];simp only[aF,e1];simpa using q1) q2
   ·exact h.elim
  ·rename_i cal;unfold kP at h;split at h
   ·rename_i f a cap hcal;obtain⟨h1,h2,h3,h4,d,h5,h6⟩:=h;exact fin (by rw[hop];simp only[aF,hcal];exact uX h1 h3 (by rw[h2,On];exact pG h4 h5)) h6
   ·exact h.elim
  ·rename_i r name;unfold x5 at h;split at h
   ·rename_i t hx;split at h
    ·rename_i f hi;obtain⟨hf,_,h2,h3,h4,d,h5,h6⟩:=h;have h5':aa P w0 f (.agg []::args.toList.map (ev fr)) S (fun d' S'=>d'=d∧S'=S):=by simpa using h5
     exact fin (by rw[hop];simp only[aF,x5,hx,hi];exact⟨hf,pG h4 h5'⟩) h6
    ·exact h.elim
   ·exact h.elim
  ·exact h.elim
 |_=>rw[hop]at h;exact h.elim
end
end Aml
namespace Aml
open Go Go.RowKit
def dI(n:Int):DV:= .v (.int .i64 n)
def dU(n:Int):DV:= .v (.int .u64 n)
def dB(b:Bool):DV:= .v (.bool b)
def dS(s:ByteArray):DV:= .v (.string s)
theorem Tw{n:Int}(h0:0≤n)(h1:n≤18446744073709551615):IntKind.u64.wrap n=n:=by
 show n%18446744073709551616=n;omega
section
variable {P:Program} {w0:W0}
end
end Aml
namespace Aml
open Go Go.RowKit
def mD:Op→Bool
 | .store ..| .box ..| .alloc ..| .makeSlice ..| .mapUpdate ..| .insert ..| .makeMap ..=>false
 | .call c=>match c.callee with
  | .builtin .append| .builtin .clear| .builtin .delete| .builtin .copy=>false
  |_=>true
 |_=>true
def qm(md:Region.Mode)(ops:Array Oper):Nat→Nat→Nat→Bool
 |0,_,_=>false
 |n+1,k,i=>match ops[k]? with
  |none=>false
  |some o=>o.after.any fun e=>Region.binds md e&&(e.on==i||qm md ops n e.on i)
def Lb(md:Region.Mode)(ops:Array Oper):Bool:=(List.range ops.size).all fun k=>match ops[k]? with
 |none=>true
 |some o=>o.after.all fun e=>!Region.binds md e||decide (e.on<k)
def nz(md:Region.Mode)(ops:Array Oper)(n:Nat):Bool:=Lb md ops&&
 ((List.range ops.size).all fun k=>decide (k<n)||(List.range k).all fun i=>qm md ops ops.size k i)&&
 (ops.toList.take n).all fun o=>match o.guard with|none=>true|some (j,_)=>decide (j<n)
section
variable {P:Program} {w0:W0} {ops:Array Oper} {md:Region.Mode}
theorem iu(h:Lb md ops=true){k:Nat}{o:Oper}(hk:ops[k]? =some o):∀e∈o.after,Region.binds md e=true→e.on<k:=by
 intro e he hb;have hlt:k<ops.size:=(Xf.1 hk).1;have:=Xv.1 h k (Yf.2 hlt);simp only[hk]at this;have:=Array.all_eq_true'.1 this e he;simpa[hb]using this
def J6(md:Region.Mode)(ops:Array Oper)(L:Array Bool):Prop:=∀(j:Nat) (o:Oper),ops[j]? =some o→L[j]? =some true→∀e∈o.after,Region.binds md e=true→L[e.on]? =some true
theorem jb{L:Array Bool}(hc:J6 md ops L):∀(n k i:Nat) (o:Oper),ops[k]? =some o→(∀e∈o.after,Region.binds md e=true→L[e.on]? =some true)→qm md ops n k i=true→L[i]? =some true
 |0,_,_,_,_,_,h=>by cases h
 |n+1,k,i,o,hk,ha,h=>by
  simp only[qm,hk]at h;obtain⟨e,he,h⟩:=Array.any_eq_true'.1 h;simp only[Xe,Yw,beq_iff_eq]at h;rcases h.2 with h'|h'
  ·rw[←h'];exact ha e he h.1
  ·have hl:=ha e he h.1
   cases ho:ops[e.on]? with
   |none=>cases n <;>simp[qm,ho]at h'
   |some o'=>exact jb hc n e.on i o' ho (hc e.on o' ho hl) h'
theorem bZ{L:Array Bool}{i:Nat}:L.getD i false=true↔L[i]? =some true:=by
 rw[Xx];cases L[i]? <;>simp
theorem cf{L:Array Bool}{i:Nat}:L.getD i true=false↔L[i]? =some false:=by
 rw[Xx];cases L[i]? <;>simp
theorem J2{ro:Option Nat}{g0 g:Gh}{Q:Exit→List DV→St→Prop}{o:Oper}{fr:List DV}{S:St}{a:Act}{w:World}{K:List DV→St→Prop}{K':Act→World→Prop}(k:g0.le g)(h1:Rel w0 g S w)(h2:ae g fr a.tmps.toList)(h3:Dk w0 g a w)
 (hK:∀fr S g a w,g0.le g→Rel w0 g S w→ae g fr a.tmps.toList→Dk w0 g a w→K fr S→K' a w)
 (h:bE ops fr o.guard (fun fr=>ah P w0 o (ev fr) S fun d S'=>K (pt fr o.dst d) S') (fun fr=>K (pt fr o.dst ud) S)) {i:Nat} (hi:ops[i]? =some o):
 wpOpIn (fz ro) 0 P ops (Good w0 g0 Q) i K' a w:=by
 unfold wpOpIn;simp only[hi];rcases gH h2 h with⟨hw,fr',h2',hA⟩|⟨hw,fr',h2',hB⟩
 ·rw[if_pos hw];refine dA hA h1 (fun x _=>dR h2' x) h3 k h2' fun g' d u S' w' k1 k2 k3 k4 k5=>?_;exact hK _ _ g' _ _ (k.trans k1) k2 (bz (h2'.mono k1) _ k3) (k1.dk k5) k4
 ·rw[if_neg (by simp[hw])];exact⟨fun _ _=>trivial,hK _ _ g _ _ k h1 (bz h2' _ (ga g)) (h3.bY (put_defers _ _ _) fun _ _ h _=>h) hB⟩
theorem tN{S:St}{K K':List DV→Prop}(hk:∀fr,K fr→K' fr):∀{l:List Oper} {fr:List DV},LQ P w0 S ops K l fr→LQ P w0 S ops K' l fr
 |[],fr,h=>hk _ h
 |o::rest,fr,h=>gM (fun fr ⟨d,q1,q2⟩=>⟨d,q1,tN hk q2⟩) (fun fr h=>tN hk h) h
theorem xQ{ro:Option Nat}{g0:Gh}{Q:Exit→List DV→St→Prop}{n:Nat}(hB:nz md ops n=true):∀(l:List Oper) (k fuel:Nat) (L:Array Bool) (fr:List DV) (S:St) (g:Gh) (a:Act) (w:World),
 (∀j,l[j]? =ops[k+j]?)→n≤k→k≤ops.size→l.length≤fuel→L.size=ops.size→(∀i,i<k→L[i]? =some true)→(∀i,k≤i→i<ops.size→L[i]? =some false)→g0.le g→Rel w0 g S w→ae g fr a.tmps.toList→Dk w0 g a w→
 Ab P w0 ops (fun fr S=>Q .normal fr S) l fr S→wpAnyIn (fz ro) 0 P md ops (Good w0 g0 Q) fuel L a w:=by
 simp only[nz,Xe]at hB;obtain⟨⟨hb,ha⟩, -⟩:=hB
 have none_ready:∀(k:Nat) (L:Array Bool),ops.size≤k→L.size=ops.size→(∀i,i<k→L[i]? =some true∨ops.size≤i)→∀i,i∉Region.ready md ops L:=by
  intro k L hk hs hl i hi;obtain⟨h1,o,ho,_⟩:=mem_ready.1 hi;rw[cf]at h1;have hlt:i<ops.size:=(Xf.1 ho).1;rcases hl i (by omega)with h|h
  ·rw[h]at h1;cases h1
  ·omega
 intro l
 induction l with
 |nil=>
  intro k fuel L fr S g a w hl hn hk hf hs ht hu k1 h1 h2 h3 h
  have hk':ops.size≤k:=by
   have:=hl 0;simp only[List.getElem?_nil,YN]at this;exact Array.getElem?_eq_none_iff.1 this.symm
  have hno:=none_ready k L hk' hs (fun i hi=> .inl (ht i hi));have hemp:Region.ready md ops L=[]:=List.eq_nil_iff_forall_not_mem.2 hno
  cases fuel with
  |zero=>exact⟨hemp,k1.kd h3,g,fr,S,k1,h1,h2,h⟩
  |succ fuel=>exact⟨fun _=>⟨k1.kd h3,g,fr,S,k1,h1,h2,h⟩,fun i hi=>absurd hi (hno i)⟩
 |cons o rest ih=>
  intro k fuel L fr S g a w hl hn hk hf hs ht hu k1 h1 h2 h3 h;have h0:ops[k]? =some o:=by simpa using(hl 0).symm
  have hklt:k<ops.size:=(Xf.1 h0).1;have hready:k∈Region.ready md ops L:=mem_ready.2 ⟨cf.2 (hu k (Xg _) hklt),o,h0,fun e he hbe=>bZ.2 (ht _ (iu hb h0 e he hbe))⟩
  cases fuel with
  |zero=>simp at hf
  |succ fuel=>
   refine⟨fun h=>(by rw[h]at hready;cases hready),fun i hi=>?_⟩;obtain⟨hi1,oi,hoi,hia⟩:=mem_ready.1 hi;rw[cf]at hi1;have hilt:i<ops.size:=(Xf.1 hoi).1
   have hclo:J6 md ops L:=fun j oj hj hlj e he hbe=>by
    have hjk:j<k:=by
     rcases XM j k with h|h
     ·exact h
     ·rw[hu j h (Xf.1 hj).1]at hlj;cases hlj
    exact ht _ (Nat.lt_trans (iu hb hj e he hbe) hjk)
   have hik:i=k:=by
    rcases Yr i k with h|h|h
    ·rw[ht i h]at hi1;cases hi1
    ·exact h
    ·have hr:=Xv.1 ha i (Yf.2 hilt);rw[Yw]at hr;rcases hr with hr|hr
     ·have:=of_decide_eq_true hr;omega
     ·have hr:=Xv.1 hr k (Yf.2 h);have:=jb hclo _ i k oi hoi (fun e he hbe=>bZ.1 (hia e he hbe)) hr;rw[hu k (Xg _) hklt]at this;cases this
   subst hik;refine J2 (o:=o) k1 h1 h2 h3 (K:=Ab P w0 ops (fun fr S=>Q .normal fr S) rest) ?_ h h0;intro fr' S' g' a' w' q1 q2 q3 q4 q5;refine ih (i+1) fuel (L.setIfInBounds i true) fr' S' g' a' w' (fun j=>by have:=hl (j+1);simpa[Yg,YP 1 j]using this) (by omega) (by omega) (by simpa using hf) (by simpa using hs) ?_ ?_ q1 q2 q3 q4 q5
   ·intro j hj;rw[Xz];split
    ·rename_i e;rw[if_pos (by omega)]
    ·exact ht j (by omega)
   ·intro j hj hj';rw[Xz,if_neg (by omega)];exact hu j (by omega) hj'
theorem Bq{ro:Option Nat}{g0:Gh}{Q:Exit→List DV→St→Prop}{S:St}{n:Nat}(hB:nz md ops n=true)(hn:n≤ops.size):∀(fuel F:Nat) (L M:Array Bool) (fr:List DV) (g:Gh) (a:Act) (w:World),
 L.size=n→M.size=ops.size→(∀i,i<n→M[i]? =L[i]?)→(∀i,n≤i→i<ops.size→M[i]? =some false)→J6 md ops M→fuel+(ops.size-n)≤F→g0.le g→Rel w0 g S w→ae g fr a.tmps.toList→Dk w0 g a w→
 mz P w0 S md (ops.toList.take n).toArray (fun fr=>Ab P w0 ops (fun fr S=>Q .normal fr S) (ops.toList.drop n) fr S) fuel L fr→wpAnyIn (fz ro) 0 P md ops (Good w0 g0 Q) F M a w:=by
 have hB':=hB;simp only[nz,Xe]at hB';obtain⟨⟨hb,ha⟩,hg⟩:=hB';have hpre:∀i,i<n→(ops.toList.take n).toArray[i]? =ops[i]? :=fun i hi=>by simp[XY,hi]
 have full:∀(L M:Array Bool),L.size=n→M.size=ops.size→(∀i,i<n→M[i]? =L[i]?)→Region.ready md (ops.toList.take n).toArray L=[]→∀i,i<n→M[i]? =some true:=by
  intro L M hs hM hLM hr i
  induction i using Nat.strongRecOn with
  |_ i ih=>
   intro hi;have hlt:i<M.size:=by omega
   have hsome:∃o,ops[i]? =some o:=⟨_,Ym (by omega)⟩;obtain⟨o,ho⟩:=hsome
   cases hx:M[i]? with
   |none=>rw[Ym hlt]at hx;cases hx
   |some x=>
    cases x with
    |true=>rfl
    |false=>
     have:i∈Region.ready md (ops.toList.take n).toArray L:=mem_ready.2 ⟨cf.2 (by rw[←hLM i hi];exact hx),o,by rw[hpre i hi];exact ho,fun e he hbe=>by
      have hlt':=iu hb ho e he hbe;rw[bZ,←hLM _ (by omega)];exact ih _ hlt' (by omega)⟩
     rw[hr]at this;cases this
 have tail:∀(F:Nat) (L M:Array Bool) (fr:List DV) (g:Gh) (a:Act) (w:World),L.size=n→M.size=ops.size→(∀i,i<n→M[i]? =L[i]?)→(∀i,n≤i→i<ops.size→M[i]? =some false)→ops.size-n≤F→g0.le g→Rel w0 g S w→ae g fr a.tmps.toList→Dk w0 g a w→
  Region.ready md (ops.toList.take n).toArray L=[]→Ab P w0 ops (fun fr S=>Q .normal fr S) (ops.toList.drop n) fr S→wpAnyIn (fz ro) 0 P md ops (Good w0 g0 Q) F M a w:=by
  intro F L M fr g a w hs hM hLM hM0 hF q1 q2 q3 q4 hr h;exact xQ hB (ops.toList.drop n) n F M fr S g a w (fun j=>by simp[XZ]) (Xg _) hn (by simp;omega) hM (full L M hs hM hLM hr) hM0 q1 q2 q3 q4 h
 intro fuel
 induction fuel with
 |zero=>
  intro F L M fr g a w hs hM hLM hM0 hc hF q1 q2 q3 q4 h;exact tail F L M fr g a w hs hM hLM hM0 (by omega) q1 q2 q3 q4 h.1 h.2
 |succ fuel ih=>
  intro F L M fr g a w hs hM hLM hM0 hc hF q1 q2 q3 q4 h;by_cases hr:Region.ready md (ops.toList.take n).toArray L=[]
  ·exact tail F L M fr g a w hs hM hLM hM0 (by omega) q1 q2 q3 q4 hr (h.1 hr)
  ·obtain⟨F,rfl⟩:∃F',F=F'+1:=⟨F-1,by omega⟩
   have up:∀i,i∈Region.ready md (ops.toList.take n).toArray L→i∈Region.ready md ops M:=by
    intro i hi;obtain⟨h1,o,ho,h2⟩:=mem_ready.1 hi;have hi':i<n:=by have:=(Xf.1 ho).1;simp at this;omega
    rw[hpre i hi']at ho;refine mem_ready.2 ⟨cf.2 (by rw[hLM i hi'];exact cf.1 h1),o,ho,fun e he hbe=>?_⟩;have hlt:=iu hb ho e he hbe;rw[bZ,hLM _ (by omega)];exact bZ.1 (h2 e he hbe)
   refine⟨fun h0=>?_,fun i hi=>?_⟩
   ·exfalso
    obtain⟨x,xs,hx⟩:∃x xs,Region.ready md (ops.toList.take n).toArray L=x::xs:=by
     cases he:Region.ready md (ops.toList.take n).toArray L with
     |nil=>exact absurd he hr
     |cons x xs=>exact⟨x,xs,rfl⟩
    have:=up x (by rw[hx];exact Xm);rw[h0]at this;cases this
   ·obtain⟨hi1,oi,hoi,hia⟩:=mem_ready.1 hi;rw[cf]at hi1;have hilt:i<ops.size:=(Xf.1 hoi).1;by_cases hin:i<n
    ·have hiL:i∈Region.ready md (ops.toList.take n).toArray L:=mem_ready.2 ⟨cf.2 (by rw[←hLM i hin];exact hi1),oi,by rw[hpre i hin];exact hoi,fun e he hbe=>by
      have hlt:=iu hb hoi e he hbe;rw[bZ,←hLM _ (by omega)];exact bZ.1 (hia e he hbe)⟩
     have hq:=h.2 i hiL
     have hgi:∀j want,oi.guard=some (j,want)→j<n:=by
      intro j want hgj
      have hmem:oi∈ops.toList.take n:=by
       have:(ops.toList.take n)[i]? =some oi:=by rw[XY,if_pos hin];simpa using hoi
       exact Xd this
      have:=Xv.1 hg oi hmem;simpa[hgj]using this
     have hwant:∀fr,cE (ops.toList.take n).toArray fr oi.guard=cE ops fr oi.guard:=by
      intro fr
      cases hgo:oi.guard with
      |none=>rfl
      |some p=>
       obtain⟨j,want⟩:=p;simp only[cE,hpre j (hgi j want hgo)]
     have hLs:(L.setIfInBounds i true).size=n:=by simpa using hs
     have hMs:(M.setIfInBounds i true).size=ops.size:=by simpa using hM
     have hLM':∀j,j<n→(M.setIfInBounds i true)[j]? =(L.setIfInBounds i true)[j]? :=by
      intro j hj;rw[Xz,Xz,hLM j hj];split
      ·rw[if_pos (by omega),if_pos (by omega)]
      ·rfl
     have hM0':∀j,n≤j→j<ops.size→(M.setIfInBounds i true)[j]? =some false:=by
      intro j hj hj';rw[Xz,if_neg (by omega)];exact hM0 j hj hj'
     have hc':J6 md ops (M.setIfInBounds i true):=by
      intro j oj hj hlj e he hbe;rw[Xz];split
      ·rw[if_pos (by omega)]
      ·rw[Xz]at hlj;split at hlj
       ·rename_i hij;subst hij;rw[hoi]at hj;cases hj;exact bZ.1 (hia e he hbe)
       ·exact hc j oj hj hlj e he hbe
     have cont:∀fr' g' a' w',g0.le g'→Rel w0 g' S w'→ae g' fr' a'.tmps.toList→Dk w0 g' a' w'→mz P w0 S md (ops.toList.take n).toArray (fun fr=>Ab P w0 ops (fun fr S=>Q .normal fr S) (ops.toList.drop n) fr S) fuel (L.setIfInBounds i true) fr'→
      wpAnyIn (fz ro) 0 P md ops (Good w0 g0 Q) F (M.setIfInBounds i true) a' w':=fun fr' g' a' w' p1 p2 p3 p4 p5=>
      ih F _ _ fr' g' a' w' hLs hMs hLM' hM0' hc' (by omega) p1 p2 p3 p4 p5
     unfold qOp at hq;rw[hpre i hin]at hq;unfold wpOpIn;simp only[hoi]at hq ⊢;rcases hq with⟨hw,d,hy,hk⟩|⟨hw,hk⟩
     ·rw[hwant]at hw;have hw':=dm (o:=oi) q3 hw;rw[if_pos hw'];refine dA hy q2 (fun x _=>dR q3 x) q4 q1 q3 fun g' d' u S' w' k1 k2 k3 k4 k5=>?_;obtain⟨hd,hS⟩:=k4;rw[hS]at k2;rw[hd]at k3;exact cont _ g' _ _ (q1.trans k1) k2 (bz (q3.mono k1) _ k3) (k1.dk k5) hk
     ·rw[hwant]at hw;have hw':=dm (o:=oi) q3 hw;rw[if_neg (by simp[hw'])];exact⟨fun _ _=>trivial,cont _ g _ _ q1 q2 (bz q3 _ (ga g)) (q4.bY (put_defers _ _ _) fun _ _ h _=>h) hk⟩
    ·exfalso
     have hall:∀j,j<n→M[j]? =some true:=by
      intro j hj;have hr':=Xv.1 ha i (Yf.2 hilt);rw[Yw]at hr';rcases hr' with hr'|hr'
      ·exact absurd (of_decide_eq_true hr') hin
      ·have hr':=Xv.1 hr' j (Yf.2 (by omega));exact jb hc _ i j oi hoi (fun e he hbe=>bZ.1 (hia e he hbe)) hr'
     refine hr (List.eq_nil_iff_forall_not_mem.2 fun j hj=>?_);obtain⟨h1,o,ho,_⟩:=mem_ready.1 hj;have hj':j<n:=by have:=(Xf.1 ho).1;simp at this;omega
     rw[cf,←hLM j hj',hall j hj']at h1;cases h1
def kv(l:List Oper):Nat:=(l.takeWhile fun o=>mD o.op).length
theorem CT{id:Nat}{l:List Oper}{fr:List DV}{S:St}{Q:Exit→List DV→St→Prop}(n:Nat)(hn:n≤l.length)(hm:P.follows .mixedOrders=true)(hB:Region.lexB .any (l.take n).toArray=true)(hT:nz .any l.toArray n=true)(hs:l.all (fun o=>eY o.op)=true)
 (h:LQ P w0 S (l.take n).toArray (fun fr=>oG P w0 l.toArray (fun fr S=>Q .normal fr S) (l.drop n) fr S) (l.take n) fr):fF P w0 (.region id l.toArray true) fr S Q:=by
 intro g a w h1 h2 h3;simp only[Region.lexB,Xe]at hB;refine dF hm fun ro=>?_;have hR:Rel w0 g S {w with drawn:=w.drawn+1}:=h1.grow (iW w);have hs1:(l.take n).all (fun o=>eY o.op)=true:=Xv.2 fun o ho=>Xv.1 hs o (Yb ho);have hs2:(l.drop n).all (fun o=>eY o.op)=true:=Xv.2 fun o ho=>Xv.1 hs o (XU ho)
 have hLQ:LQ P w0 S (l.take n).toArray (fun fr=>Ab P w0 l.toArray (fun fr S=>Q .normal fr S) (l.drop n) fr S) (l.take n) fr:=by
  exact tN (fun fr h=>fN _ hs2 h) h
 have:=pv (P:=P) (w0:=w0) (S:=S) (md:= .any) (ops:=(l.take n).toArray) (l.take n) 0 (Array.replicate (l.take n).toArray.size false) fr (by simp) (by simpa using hB.2) hLQ;refine Bq (n:=n) (S:=S) hT (by simpa using hn) (l.take n).length _ (Array.replicate (l.take n).toArray.size false) _ fr g a _ (by simp;omega) (by simp) ?_ ?_ ?_ (by simp;omega) (.refl g) hR h2 (h3.bY rfl fun _ _ h _=>h) (by simpa using this)
 ·intro i hi;simp only[Zd,Zn,X3];rw[if_pos (by omega),if_pos (by omega)]
 ·intro i hi hi';simp only[Zd];rw[if_pos hi']
 ·intro j o hj hl;simp[Zd]at hl
end
end Aml
namespace Aml
open Go Go.RowKit
@[congr] theorem Se {d:DV} {d':DV} {A:Prop} {B:Prop} (hd:d=d'):cn d A B=cn d' A B:=by cases hd;rfl
@[congr] theorem UH {ds:List DV} {ds':List DV} {K:DV→Prop} (hds:ds=ds'):M9 ds K=M9 ds' K:=by cases hds;rfl
@[congr] theorem Uq {k:TK} {k':TK} {ds:List DV} {ds':List DV} {K:DV→Prop} (hk:k=k') (hds:ds=ds'):nh k ds K=nh k' ds' K:=by cases hk;cases hds;rfl
@[congr] theorem RZ {c:DV} {c':DV} {a:DV} {a':DV} {b:DV} {b':DV} {K:DV→Prop} (hc:c=c') (ha:a=a') (hb:b=b'):gn c a b K=gn c' a' b' K:=by cases hc;cases ha;cases hb;rfl
@[congr] theorem RG {k:TK} {k':TK} {S:St} {S':St} {x:DV} {x':DV} {K:DV→Prop} (hk:k=k') (hS:S=S') (hx:x=x'):cg k S x K=cg k' S' x' K:=by cases hk;cases hS;cases hx;rfl
@[congr] theorem Q0 {k:TK} {k':TK} {f:Nat} {f':Nat} {x:DV} {x':DV} {K:DV→Prop} (hk:k=k') (hf:f=f') (hx:x=x'):eA k f x K=eA k' f' x' K:=by cases hk;cases hf;cases hx;rfl
@[congr] theorem I9 {k:TK} {k':TK} {x:DV} {x':DV} {i:DV} {i':DV} {K:DV→Prop} (hk:k=k') (hx:x=x') (hi:i=i'):aD k x i K=aD k' x' i' K:=by cases hk;cases hx;cases hi;rfl
@[congr] theorem Nn {i:Nat} {i':Nat} {x:DV} {x':DV} {K:DV→Prop} (hi:i=i') (hx:x=x'):cj i x K=cj i' x' K:=by cases hi;cases hx;rfl
@[congr] theorem OV {k:TK} {k':TK} {f:Nat} {f':Nat} {x:DV} {x':DV} {K:DV→Prop} (hk:k=k') (hf:f=f') (hx:x=x'):cV k f x K=cV k' f' x' K:=by cases hk;cases hf;cases hx;rfl
@[congr] theorem RI {op:BinOp} {k:IntKind} {m:Int} {m':Int} {n:Int} {n':Int} {K:DV→Prop} (hm:m=m') (hn:n=n'):kG op k m n K=kG op k m' n' K:=by cases hm;cases hn;rfl
@[congr] theorem RA {op:BinOp} {x:ByteArray} {x':ByteArray} {y:ByteArray} {y':ByteArray} {K:DV→Prop} (hx:x=x') (hy:y=y'):fZ op x y K=fZ op x' y' K:=by cases hx;cases hy;rfl
@[congr] theorem TE {op:BinOp} {t:TK} {t':TK} {cx:Bool} {cx':Bool} {cy:Bool} {cy':Bool} {x:DV} {x':DV} {y:DV} {y':DV} {K:DV→Prop} (ht:t=t') (hcx:cx=cx') (hcy:cy=cy') (hx:x=x') (hy:y=y'):jT op t cx cy x y K=jT op t' cx' cy' x' y' K:=by cases ht;cases hcx;cases hcy;cases hx;cases hy;rfl
@[congr] theorem Pb {o:Option (List FK)} {o':Option (List FK)} {op:BinOp} {al:List DV} {al':List DV} {y:DV} {y':DV} {K:DV→Prop} (ho:o=o') (hal:al=al') (hy:y=y'):jC o op al y K=jC o' op al' y' K:=by cases ho;cases hal;cases hy;rfl
@[congr] theorem TL {ks:List FK} {al:List DV} {al':List DV} {bs:List DV} {bs':List DV} {r:Bool} {r':Bool} {F:Bool→Prop} (hal:al=al') (hbs:bs=bs') (hr:r=r'):ee ks al bs r F=ee ks al' bs' r' F:=by cases hal;cases hbs;cases hr;rfl
@[congr] theorem Uz {op:UnOp} {x:DV} {x':DV} {K:DV→Prop} (hx:x=x'):zW op x K=zW op x' K:=by cases hx;rfl
@[congr] theorem R6 {a:TK} {a':TK} {b:TK} {b':TK} {x:DV} {x':DV} {K:DV→Prop} (ha:a=a') (hb:b=b') (hx:x=x'):gp a b x K=gp a' b' x' K:=by cases ha;cases hb;cases hx;rfl
@[congr] theorem PY {a:TK} {a':TK} {b:TK} {b':TK} {ke:TK} {ke':TK} {kb:TK} {kb':TK} {S:St} {S':St} {x:DV} {x':DV} {K:DV→Prop} (ha:a=a') (hb:b=b') (hke:ke=ke') (hkb:kb=kb') (hS:S=S') (hx:x=x'):ie a b ke kb S x K=ie a' b' ke' kb' S' x' K:=by cases ha;cases hb;cases hke;cases hkb;cases hS;cases hx;rfl
@[congr] theorem QK {k:TK} {k':TK} {x:DV} {x':DV} {i:DV} {i':DV} {K:DV→Prop} (hk:k=k') (hx:x=x') (hi:i=i'):iO k x i K=iO k' x' i' K:=by cases hk;cases hx;cases hi;rfl
@[congr] theorem UO {d:Option DV} {d':Option DV} {z:Int} {z':Int} {K:Int→Prop} (hd:d=d') (hz:z=z'):kx d z K=kx d' z' K:=by cases hd;cases hz;rfl
@[congr] theorem Pf {k:TK} {k':TK} {x:DV} {x':DV} {lo:Option DV} {lo':Option DV} {hi:Option DV} {hi':Option DV} {mx:Option DV} {mx':Option DV} {K:DV→Prop} (hk:k=k') (hx:x=x') (hlo:lo=lo') (hhi:hi=hi') (hmx:mx=mx'):fi k x lo hi mx K=fi k' x' lo' hi' mx' K:=by cases hk;cases hx;cases hlo;cases hhi;cases hmx;rfl
@[congr] theorem Ti {k:TK} {k':TK} {x:DV} {x':DV} {K:DV→Prop} (hk:k=k') (hx:x=x'):lZ k x K=lZ k' x' K:=by cases hk;cases hx;rfl
@[congr] theorem SN {k:TK} {k':TK} {x:DV} {x':DV} {K:DV→Prop} (hk:k=k') (hx:x=x'):qU k x K=qU k' x' K:=by cases hk;cases hx;rfl
@[congr] theorem TO {x:DV} {x':DV} {y:DV} {y':DV} {K:DV→Prop} (hx:x=x') (hy:y=y'):pj x y K=pj x' y' K:=by cases hx;cases hy;rfl
@[congr] theorem Tm {x:DV} {x':DV} {y:DV} {y':DV} {K:DV→Prop} (hx:x=x') (hy:y=y'):pM x y K=pM x' y' K:=by cases hx;cases hy;rfl
@[congr] theorem Rq {n:Nat} {n':Nat} {S:St} {S':St} {x:DV} {x':DV} {y:DV} {y':DV} {K:St→Prop} (hn:n=n') (hS:S=S') (hx:x=x') (hy:y=y'):lq n S x y K=lq n' S' x' y' K:=by cases hn;cases hS;cases hx;cases hy;rfl
@[congr] theorem OR {n:Nat} {n':Nat} {S:St} {S':St} {x:DV} {x':DV} {y:DV} {y':DV} {K:St→Prop} (hn:n=n') (hS:S=S') (hx:x=x') (hy:y=y'):cS n S x y K=cS n' S' x' y' K:=by cases hn;cases hS;cases hx;cases hy;rfl
@[congr] theorem HG {k:TK} {k':TK} {z:DV} {z':DV} {len:Nat} {len':Nat} {parts:List (Nat×DV)} {parts':List (Nat×DV)} {K:DV→Prop} (hk:k=k') (hz:z=z') (hlen:len=len') (hparts:parts=parts'):aM k z len parts K=aM k' z' len' parts' K:=by cases hk;cases hz;cases hlen;cases hparts;rfl
@[congr] theorem RL {S:St} {S':St} {d:DV} {d':DV} {K:Nat→List DV→Prop} (hS:S=S') (hd:d=d'):iG S d K=iG S' d' K:=by cases hS;cases hd;rfl
@[congr] theorem TT {s:Nat} {s':Nat} {b:Nat} {b':Nat} {S:St} {S':St} {x:DV} {x':DV} {ys:List DV} {ys':List DV} {K:DV→St→Prop} (hs:s=s') (hb:b=b') (hS:S=S') (hx:x=x') (hys:ys=ys'):tf s b S x ys K=tf s' b' S' x' ys' K:=by cases hs;cases hb;cases hS;cases hx;cases hys;rfl
@[congr] theorem OD {k:TK} {k':TK} {k2:TK} {k2':TK} {S:St} {S':St} {x:DV} {x':DV} {y:DV} {y':DV} {K:DV→St→Prop} (hk:k=k') (hk2:k2=k2') (hS:S=S') (hx:x=x') (hy:y=y'):iU k k2 S x y K=iU k' k2' S' x' y' K:=by cases hk;cases hk2;cases hS;cases hx;cases hy;rfl
@[congr] theorem OQ {k:TK} {k':TK} {z:DV} {z':DV} {S:St} {S':St} {x:DV} {x':DV} {y:DV} {y':DV} {K:DV→St→Prop} (hk:k=k') (hz:z=z') (hS:S=S') (hx:x=x') (hy:y=y'):iS k z S x y K=iS k' z' S' x' y' K:=by cases hk;cases hz;cases hS;cases hx;cases hy;rfl
@[congr] theorem Sf {k:TK} {k':TK} {k2:TK} {k2':TK} {S:St} {S':St} {x:DV} {x':DV} {y:DV} {y':DV} {K:DV→St→Prop} (hk:k=k') (hk2:k2=k2') (hS:S=S') (hx:x=x') (hy:y=y'):rK k k2 S x y K=rK k' k2' S' x' y' K:=by cases hk;cases hk2;cases hS;cases hx;cases hy;rfl
@[congr] theorem RD {k:TK} {k':TK} {z:DV} {z':DV} {S:St} {S':St} {x:DV} {x':DV} {y:DV} {y':DV} {K:DV→St→Prop} (hk:k=k') (hz:z=z') (hS:S=S') (hx:x=x') (hy:y=y'):rO k z S x y K=rO k' z' S' x' y' K:=by cases hk;cases hz;cases hS;cases hx;cases hy;rfl
@[congr] theorem Rz {k:TK} {k':TK} {S:St} {S':St} {x:DV} {x':DV} {y:DV} {y':DV} {K:DV→St→Prop} (hk:k=k') (hS:S=S') (hx:x=x') (hy:y=y'):uA k S x y K=uA k' S' x' y' K:=by cases hk;cases hS;cases hx;cases hy;rfl
@[congr] theorem Ps {k:TK} {k':TK} {z:DV} {z':DV} {S:St} {S':St} {x:DV} {x':DV} {K:DV→St→Prop} (hk:k=k') (hz:z=z') (hS:S=S') (hx:x=x'):jE k z S x K=jE k' z' S' x' K:=by cases hk;cases hz;cases hS;cases hx;rfl
@[congr] theorem R0 {S:St} {S':St} {s:Nat} {s':Nat} {ds:List DV} {ds':List DV} {o:Nat} {o':Nat} {b:Nat} {n:Nat} {n':Nat} {y:DV} {y':DV} {K:DV→St→Prop} (hS:S=S') (hs:s=s') (hds:ds=ds') (ho:o=o') (hn:n=n') (hy:y=y'):Lm S s ds o b n y K=Lm S' s' ds' o' b n' y' K:=by cases hS;cases hs;cases hds;cases ho;cases hn;cases hy;rfl
@[congr] theorem RO {S:St} {S':St} {s:Nat} {s':Nat} {y:DV} {y':DV} {F:Nat→List DV→Prop} (hS:S=S') (hs:s=s') (hy:y=y'):uK S s y F=uK S' s' y' F:=by cases hS;cases hs;cases hy;rfl
@[congr] theorem O9 {op:BinOp} {k:TK} {k':TK} {x:DV} {x':DV} {K:DV→Prop} (hk:k=k') (hx:x=x'):kR op k x K=kR op k' x' K:=by cases hk;cases hx;rfl
@[congr] theorem R8 {S:St} {S':St} {x:DV} {x':DV} {z:Nat} {z':Nat} {K:DV→St→Prop} (hS:S=S') (hx:x=x') (hz:z=z'):rZ S x z K=rZ S' x' z' K:=by cases hS;cases hx;cases hz;rfl
@[congr] theorem OH {k:TK} {k':TK} {S:St} {S':St} {x:DV} {x':DV} {lo:Option DV} {lo':Option DV} {hi:Option DV} {hi':Option DV} {mx:Option DV} {mx':Option DV} {K:DV→St→Prop} (hk:k=k') (hS:S=S') (hx:x=x') (hlo:lo=lo') (hhi:hi=hi') (hmx:mx=mx'):fH k S x lo hi mx K=fH k' S' x' lo' hi' mx' K:=by cases hk;cases hS;cases hx;cases hlo;cases hhi;cases hmx;rfl
@[congr] theorem OW {k:TK} {k':TK} {S:St} {S':St} {x:DV} {x':DV} {lo:Option DV} {lo':Option DV} {hi:Option DV} {hi':Option DV} {mx:Option DV} {mx':Option DV} {K:DV→St→Prop} (hk:k=k') (hS:S=S') (hx:x=x') (hlo:lo=lo') (hhi:hi=hi') (hmx:mx=mx'):gQ k S x lo hi mx K=gQ k' S' x' lo' hi' mx' K:=by cases hk;cases hS;cases hx;cases hlo;cases hhi;cases hmx;rfl
@[congr] theorem Im {k:TK} {k':TK} {z:DV} {z':DV} {x:DV} {x':DV} {y:DV} {y':DV} {S:St} {S':St} {K:DV→St→Prop} (hk:k=k') (hz:z=z') (hx:x=x') (hy:y=y') (hS:S=S'):de k z x y S K=de k' z' x' y' S' K:=by cases hk;cases hz;cases hx;cases hy;cases hS;rfl
@[congr] theorem Tz {S:St} {S':St} {d:DV} {d':DV} {K:DV→St→Prop} (hS:S=S') (hd:d=d'):jZ S d K=jZ S' d' K:=by cases hS;cases hd;rfl
@[congr] theorem Rw {S:St} {S':St} {d:List DV} {d':List DV} {K:List DV→St→Prop} (hS:S=S') (hd:d=d'):jN S d K=jN S' d' K:=by cases hS;cases hd;rfl
@[congr] theorem UK {S:St} {S':St} {d:DV} {d':DV} {K:DV→St→Prop} (hS:S=S') (hd:d=d'):shr S d K=shr S' d' K:=by cases hS;cases hd;rfl
@[congr] theorem TQ {S:St} {S':St} {d:List DV} {d':List DV} {K:List DV→St→Prop} (hS:S=S') (hd:d=d'):eO S d K=eO S' d' K:=by cases hS;cases hd;rfl
@[congr] theorem SC {S:St} {S':St} {d:DV} {d':DV} {K:DV→St→Prop} (hS:S=S') (hd:d=d'):oc S d K=oc S' d' K:=by cases hS;cases hd;rfl
@[congr] theorem RM {S:St} {S':St} {d:List DV} {d':List DV} {F:List DV→St→Prop} (hS:S=S') (hd:d=d'):fq S d F=fq S' d' F:=by cases hS;cases hd;rfl
@[congr] theorem Ui {p:Option (Nat×Nat×Bool)} {p':Option (Nat×Nat×Bool)} {x:DV} {x':DV} {K:DV→Prop} (hp:p=p') (hx:x=x'):ON p x K=ON p' x' K:=by cases hp;cases hx;rfl
@[congr] theorem Ur {p:Option (Nat×Nat×Bool)} {p':Option (Nat×Nat×Bool)} {ds:List DV} {ds':List DV} {K:DV→Prop} (hp:p=p') (hds:ds=ds'):OS p ds K=OS p' ds' K:=by cases hp;cases hds;rfl
@[congr] theorem Vh {t:Nat} {t':Nat} {d:DV} {d':DV} {fr:List DV} {fr':List DV} {want:Bool} {want':Bool} {A:List DV→Prop} {B:List DV→Prop} (ht:t=t') (hd:d=d') (hfr:fr=fr') (hwant:want=want'):gD t d fr want A B=gD t' d' fr' want' A B:=by cases ht;cases hd;cases hfr;cases hwant;rfl
@[congr] theorem Vq {t:Option Tmp} {t':Option Tmp} {fr:List DV} {fr':List DV} {want:Bool} {want':Bool} {A:List DV→Prop} {B:List DV→Prop} (ht:t=t') (hfr:fr=fr') (hwant:want=want'):gK t fr want A B=gK t' fr' want' A B:=by cases ht;cases hfr;cases hwant;rfl
@[congr] theorem Q3 {ops:Array Oper} {fr:List DV} {fr':List DV} {gd:Option (Nat×Bool)} {gd':Option (Nat×Bool)} {A:List DV→Prop} {B:List DV→Prop} (hfr:fr=fr') (hgd:gd=gd'):bE ops fr gd A B=bE ops fr' gd' A B:=by cases hfr;cases hgd;rfl
@[congr] theorem TW {k:TK} {k':TK} {z:DV} {z':DV} {parts:List (Nat×DV)} {parts':List (Nat×DV)} {K:DV→Prop} (hk:k=k') (hz:z=z') (hparts:parts=parts'):Pm k z parts K=Pm k' z' parts' K:=by cases hk;cases hz;cases hparts;rfl
@[congr] theorem Um {xs:List DV} {xs':List DV} {i:Nat} {i':Nat} {F:DV→Prop} (hxs:xs=xs') (hi:i=i'):C3 xs i F=C3 xs' i' F:=by cases hxs;cases hi;rfl
@[congr] theorem UP {xs:List DV} {xs':List DV} {i:Nat} {i':Nat} {F:DV→Prop} (hxs:xs=xs') (hi:i=i'):I6 xs i F=I6 xs' i' F:=by cases hxs;cases hi;rfl
@[congr] theorem VK {o:Option Ob} {o':Option Ob} {F:Nat→List DV→Prop} {G:Nat→List DV→Prop} (ho:o=o'):bK o F G=bK o' F G:=by cases ho;rfl
@[congr] theorem Vl {o:Option Ob} {o':Option Ob} {F:KK→List (Value×DV×Nat)→Nat→Prop} (ho:o=o'):xK o F=xK o' F:=by cases ho;rfl
@[congr] theorem VQ {o:Option Ob} {o':Option Ob} {F:Nat→Nat→List Nat→Nat→Prop} (ho:o=o'):iK o F=iK o' F:=by cases ho;rfl
@[congr] theorem Un {o:Option Ob} {o':Option Ob} {G:Prop} {F:Nat→Nat→List Nat→Nat→Prop} (ho:o=o'):OY o G F=OY o' G F:=by cases ho;rfl
@[congr] theorem Uu {o:Option DV} {o':Option DV} {F:DV→Prop} {G:Prop} (ho:o=o'):NP o F G=NP o' F G:=by cases ho;rfl
@[congr] theorem OM {m:Option (KK×DV)} {m':Option (KK×DV)} {S:St} {S':St} {x:DV} {x':DV} {y:DV} {y':DV} {ok:Bool} {ok':Bool} {K:DV→Prop} (hm:m=m') (hS:S=S') (hx:x=x') (hy:y=y') (hok:ok=ok'):bH m S x y ok K=bH m' S' x' y' ok' K:=by cases hm;cases hS;cases hx;cases hy;cases hok;rfl
@[congr] theorem OG {m:Option (KK×DV)} {m':Option (KK×DV)} {S:St} {S':St} {x:DV} {x':DV} {y:DV} {y':DV} {d:DV} {d':DV} {K:St→Prop} (hm:m=m') (hS:S=S') (hx:x=x') (hy:y=y') (hd:d=d'):dH m S x y d K=dH m' S' x' y' d' K:=by cases hm;cases hS;cases hx;cases hy;cases hd;rfl
@[congr] theorem O0 {m:Option (KK×DV)} {m':Option (KK×DV)} {S:St} {S':St} {x:DV} {x':DV} {y:DV} {y':DV} {K:St→Prop} (hm:m=m') (hS:S=S') (hx:x=x') (hy:y=y'):gG m S x y K=gG m' S' x' y' K:=by cases hm;cases hS;cases hx;cases hy;rfl
@[congr] theorem UN {k:TK} {k':TK} {m:Option (KK×DV)} {m':Option (KK×DV)} {S:St} {S':St} {x:DV} {x':DV} {K:DV→St→Prop} (hk:k=k') (hm:m=m') (hS:S=S') (hx:x=x'):KP k m S x K=KP k' m' S' x' K:=by cases hk;cases hm;cases hS;cases hx;rfl
@[congr] theorem O1 {S:St} {S':St} {x:DV} {x':DV} {K:DV→St→Prop} (hS:S=S') (hx:x=x'):iY S x K=iY S' x' K:=by cases hS;cases hx;rfl
@[congr] theorem UC {b:Bool} {b':Bool} {S:St} {S':St} {x:DV} {x':DV} {K:DV→St→Prop} (hb:b=b') (hS:S=S') (hx:x=x'):Ls b S x K=Ls b' S' x' K:=by cases hb;cases hS;cases hx;rfl
@[congr] theorem Qg {S:St} {S':St} {x:DV} {x':DV} {K:DV→St→Prop} (hS:S=S') (hx:x=x'):jX S x K=jX S' x' K:=by cases hS;cases hx;rfl
@[congr] theorem TZ {o:Option Ob} {o':Option Ob} {F:ByteArray→Nat→Prop} (ho:o=o'):PS o F=PS o' F:=by cases ho;rfl
@[congr] theorem QG {m:Option (KK×DV)} {m':Option (KK×DV)} {S:St} {S':St} {x:DV} {x':DV} {K:DV→St→Prop} (hm:m=m') (hS:S=S') (hx:x=x'):iR m S x K=iR m' S' x' K:=by cases hm;cases hS;cases hx;rfl
@[congr] theorem LI {m:Option (KK×DV)} {m':Option (KK×DV)} {r:Option Operand} {S:St} {S':St} {K:DV→St→Prop} (hm:m=m') (hS:S=S'):fW m r S K=fW m' r S' K:=by cases hm;cases hS;rfl
@[congr] theorem Sb {S:St} {S':St} {x:DV} {x':DV} {s:Bool} {s':Bool} {K:DV→St→Prop} (hS:S=S') (hx:x=x') (hs:s=s'):ql S x s K=ql S' x' s' K:=by cases hS;cases hx;cases hs;rfl
@[congr] theorem Pu {S:St} {S':St} {x:DV} {x':DV} {K:DV→Prop} (hS:S=S') (hx:x=x'):jG S x K=jG S' x' K:=by cases hS;cases hx;rfl
@[congr] theorem UY {α:Type} {o o':Option α} {F:α→Prop} (h:o=o'):oK o F=oK o' F:=by cases h;rfl
@[congr] theorem SD {P:Program} {w0:W0} {op:Op} {fr:List DV} {fr':List DV} {S:St} {S':St} {K:DV→St→Prop} (hfr:fr=fr') (hS:S=S'):aF P w0 op fr S K=aF P w0 op fr' S' K:=by cases hfr;cases hS;rfl
@[congr] theorem RR {P:Program} {w0:W0} {op:Op} {fr:List DV} {fr':List DV} {S:St} {S':St} {K:DV→Prop} (hfr:fr=fr') (hS:S=S'):aV P w0 op fr S K=aV P w0 op fr' S' K:=by cases hfr;cases hS;rfl
@[congr] theorem RT {P:Program} {w0:W0} {cal:DV} {cal':DV} {ds:List DV} {ds':List DV} {S:St} {S':St} {K:DV→St→Prop} (hcal:cal=cal') (hds:ds=ds') (hS:S=S'):lT P w0 cal ds S K=lT P w0 cal' ds' S' K:=by cases hcal;cases hds;cases hS;rfl
@[congr] theorem Q4 {P:Program} {w0:W0} {cal:DV} {cal':DV} {ds:List DV} {ds':List DV} {S:St} {S':St} {K:DV→Prop} (hcal:cal=cal') (hds:ds=ds') (hS:S=S'):kP P w0 cal ds S K=kP P w0 cal' ds' S' K:=by cases hcal;cases hds;cases hS;rfl
@[congr] theorem Uh {P:Program} {w0:W0} {ops:Array Oper} {K:List DV→St→Prop} {l:List Oper} {fr:List DV} {fr':List DV} {S:St} {S':St} (hfr:fr=fr') (hS:S=S'):oG P w0 ops K l fr S=oG P w0 ops K l fr' S':=by cases hfr;cases hS;rfl
@[congr] theorem RN {P:Program} {op:BinOp} {t:TypeId} {cx:Bool} {cx':Bool} {cy:Bool} {cy':Bool} {x:DV} {x':DV} {y:DV} {y':DV} {K:DV→Prop} (hcx:cx=cx') (hcy:cy=cy') (hx:x=x') (hy:y=y'):ix P op t cx cy x y K=ix P op t cx' cy' x' y' K:=by cases hcx;cases hcy;cases hx;cases hy;rfl
@[congr] theorem P3 {P:Program} {t:TypeId} {parts:List (Nat×DV)} {parts':List (Nat×DV)} {K:DV→Prop} (hparts:parts=parts'):dV P t parts K=dV P t parts' K:=by cases hparts;rfl
@[congr] theorem OU {P:Program} {t:TypeId} {ok:Bool} {ok':Bool} {x:DV} {x':DV} {K:DV→Prop} (hok:ok=ok') (hx:x=x'):ot P t ok x K=ot P t ok' x' K:=by cases hok;cases hx;rfl
@[congr] theorem Sd {P:Program} {fr:List DV} {fr':List DV} {S:St} {S':St} {K:DV→Prop} {r:ResultVar} (hfr:fr=fr') (hS:S=S'):nF P fr S K r=nF P fr' S' K r:=by cases hfr;cases hS;rfl
@[congr] theorem RX {P:Program} {fr:List DV} {fr':List DV} {S:St} {S':St} {r:List ResultVar} {K:List DV→Prop} (hfr:fr=fr') (hS:S=S'):pY P fr S r K=pY P fr' S' r K:=by cases hfr;cases hS;rfl
@[congr] theorem SH {P:Program} {fr:List DV} {fr':List DV} {S:St} {S':St} {r:List ResultVar} {K:DV→Prop} (hfr:fr=fr') (hS:S=S'):ky P fr S r K=ky P fr' S' r K:=by cases hfr;cases hS;rfl
def cc(b:Bool)(A B:Prop):Prop:=match b with
 |true=>A
 |false=>B
theorem Jx(A B:Prop):cc true A B=A:=rfl
theorem H7(A B:Prop):cc false A B=B:=rfl
@[congr] theorem TP {b b':Bool} {A B:Prop} (h:b=b'):cc b A B=cc b' A B:=by cases h;rfl
theorem JJ(S:St)(ds:List DV)(F:List DV→St→Prop):fq S ds F=cc (dW ds) (F ds S∨eO S ds F) (eO S ds F):=by
 unfold fq cc;cases dW ds <;>rfl
attribute [go_sem ↓] Jx H7 JJ
def HL(S:St)(d:DV)(K:DV→St→Prop):Prop:=∀b,il S.box b→K (.v (.pointer (some ⟨b,0,none⟩))) ⟨(b,cd d)::S.box,S.acc⟩
@[congr] theorem TY {S S':St} {d d':DV} {K:DV→St→Prop} (h1:S=S') (h2:d=d'):HL S d K=HL S' d' K:=by cases h1;cases h2;rfl
theorem xr(x:Operand):mD (.move x)=true:=rfl
theorem sJ(x:Operand):mD (.assign x)=true:=rfl
theorem xd(c a b:Operand):mD (.pick c a b)=true:=rfl
theorem yF(t:TypeId)(x:Operand):mD (.load t x)=true:=rfl
theorem nV(t:TypeId)(x:Operand)(f:Nat):mD (.fieldAddr t x f)=true:=rfl
theorem nW(t:TypeId)(x i:Operand):mD (.indexAddr t x i)=true:=rfl
theorem ru(x:Operand)(i:Nat):mD (.extract x i)=true:=rfl
theorem qc(x:Operand):mD (.nilCheck x)=true:=rfl
theorem uW(b:BinOp)(t:TypeId)(x y:Operand)(t':TypeId):mD (.binOp b t x y t')=true:=rfl
theorem wY(b:UnOp)(t:TypeId)(x:Operand):mD (.unOp b t x)=true:=rfl
theorem wi(t:TypeId)(parts:Array (Nat×Operand)):mD (.build t parts)=true:=rfl
theorem mC(t:TypeId)(len:Nat)(parts:Array (Nat×Operand)):mD (.buildSlice t len parts)=true:=rfl
theorem qO(fn:Fn)(a b:Array Operand):mD (.makeFunc fn a b)=true:=rfl
theorem vE(t:TypeId)(x:Operand)(lo hi mx:Option Operand):mD (.slice t x lo hi mx)=true:=rfl
theorem vN(t:TypeId)(x y:Operand):mD (.store t x y)=false:=rfl
theorem th(t:TypeId)(x i:Operand)(ok:Bool):mD (.lookup t x i ok)=true:=rfl
theorem n9(t:TypeId)(m k v:Operand):mD (.mapUpdate t m k v)=false:=rfl
theorem Cq(x:Operand)(a:Array Operand)(ts:Array TypeId):mD (.call ⟨.value x,a,ts⟩)=true:=rfl
theorem u5(a:Array Operand)(ts:Array TypeId):mD (.call ⟨.builtin .len,a,ts⟩)=true:=rfl
theorem pN(a:Array Operand)(ts:Array TypeId):mD (.call ⟨.builtin .append,a,ts⟩)=false:=rfl
theorem pz(a:Array Operand)(ts:Array TypeId):mD (.call ⟨.builtin .delete,a,ts⟩)=false:=rfl
theorem E7(fr:List DV)(t:Nat):ev fr (.tmp t)=fr.getD t ud:=rfl
theorem yg(fr:List DV)(u:Value):ev fr (.const u)=cv u:=rfl
theorem BC(fr:List DV)(f:FuncId):ev fr (.func f)= .v (.func (.func f) #[] #[]):=rfl
theorem CA(fr:List DV)(t:Nat)(d:DV):pt fr (some t) d=fr.set t d:=rfl
theorem BS(fr:List DV)(d:DV):pt fr none d=fr:=rfl
theorem Fe(k:IntKind)(n:Int):cv (.int k n)= .v (.int k n):=rfl
theorem Cz(b:Bool):cv (.bool b)= .v (.bool b):=rfl
theorem Fx(s:ByteArray):cv (.string s)= .v (.string s):=rfl
theorem GG:cv (.slice none 0 0)= .sl 0 true []:=rfl
theorem Gk(a:Option Addr):cv (.pointer a)= .v (.pointer a):=rfl
theorem DS(a:Option Nat):cv (.map a)= .v (.map a):=rfl
theorem E0:cv (.nilFunc)= .v .nilFunc:=rfl
theorem vJ:nO (.str)=false:=rfl
theorem wB(k:IntKind):nO (.int k)=false:=rfl
theorem y0(k:IntKind):rj (.int k)=true:=rfl
theorem BB(e s b:Nat)(i:Bool):rj (.sl e s b i)=false:=rfl
theorem uG(e s b:Nat)(i:Bool):qB (.sl e s b i)=true:=rfl
theorem He(u:Value):ri (.v u)=true:=rfl
theorem Cm(s:Nat)(f:Bool)(xs:List DV):ri (.sl s f xs)=true:=rfl
theorem Cw(u:Value):eg (.v u)=true:=rfl
theorem ya(s:Nat)(f:Bool)(xs:List DV):eg (.sl s f xs)=true:=rfl
theorem uZ(ds:List DV):eg (.agg ds)=ds.all ri:=rfl
theorem Cp(t:Nat):u9 (.tmp t)=false:=rfl
theorem wH(u:Value):u9 (.const u)=true:=rfl
theorem yZ:cG []=some []:=rfl
theorem Ed(u:Value)(ds:List DV):cG (.v u::ds)=(cG ds).map (u::·):=rfl
theorem vn(fs:List (Nat×Nat×Bool))(ds:List DV):im fs ds []=some ds:=rfl
def Td(p:Option (Nat×Nat×Bool))(fs:List (Nat×Nat×Bool))(d:DV)(ds:List DV)(rest:List (Nat×DV)):Option (List DV):=match p with
 |none=>none
 |some (off,sz,_)=>if dv d&&(cd d).length==sz&&decide (off+sz≤ds.length)then im fs (eI ds off (cd d)) rest else none
theorem uf(fs:List (Nat×Nat×Bool))(ds:List DV)(i:Nat)(d:DV)(rest:List (Nat×DV)):im fs ds ((i,d)::rest)=Td (fs[i]?) fs d ds rest:=by rw[im];unfold Td;cases fs[i]? <;>rfl
theorem Rp(off sz:Nat)(ag:Bool)(fs:List (Nat×Nat×Bool))(d:DV)(ds:List DV)(rest:List (Nat×DV)):Td (some (off,sz,ag)) fs d ds rest=if dv d&&(cd d).length==sz&&decide (off+sz≤ds.length)then im fs (eI ds off (cd d)) rest else none:=rfl
theorem wK(s:Nat)(ds:List DV):kO s ds []=some ds:=rfl
theorem sK(s:Nat)(ds:List DV)(i:Nat)(d:DV)(rest:List (Nat×DV)):kO s ds ((i,d)::rest)=if dv d&&(cd d).length==s&&decide (i<ds.length)then kO s (ds.set i d) rest else none:=rfl
theorem tJ(ds:List DV)(o:Nat):eI ds o []=ds:=rfl
theorem rp(ds:List DV)(o:Nat)(c:DV)(cs:List DV):eI ds o (c::cs)=eI (ds.set o c) (o+1) cs:=rfl
theorem vP(d:DV)(n:Nat)(y:DV):pb d 0 n n y=some y:=by simp[pb]
theorem xa(k:Nat)(x:Ob)(t:List (Nat×Ob))(p:Nat×Ob):Kc ((k,x)::t) k p=p::t:=by simp[Kc]
theorem xu(k:IntKind):sameKind .add k k=true:=by simp[sameKind]
theorem xS(k:IntKind):sameKind .sub k k=true:=by simp[sameKind]
theorem xz(k:IntKind):sameKind .mul k k=true:=by simp[sameKind]
theorem yr(k:IntKind):sameKind .quo k k=true:=by simp[sameKind]
theorem wV(k:IntKind):sameKind .rem k k=true:=by simp[sameKind]
theorem yd(k:IntKind):sameKind .and k k=true:=by simp[sameKind]
theorem Bs(k:IntKind):sameKind .or k k=true:=by simp[sameKind]
theorem xI(k:IntKind):sameKind .xor k k=true:=by simp[sameKind]
theorem xW(k:IntKind):sameKind .eql k k=true:=by simp[sameKind]
theorem xX(k:IntKind):sameKind .neq k k=true:=by simp[sameKind]
theorem yu(k:IntKind):sameKind .lss k k=true:=by simp[sameKind]
theorem xZ(k:IntKind):sameKind .leq k k=true:=by simp[sameKind]
theorem yV(k:IntKind):sameKind .gtr k k=true:=by simp[sameKind]
theorem xR(k:IntKind):sameKind .geq k k=true:=by simp[sameKind]
theorem yi(k k':IntKind):sameKind .shl k k'=true:=rfl
theorem yC(k k':IntKind):sameKind .shr k k'=true:=rfl
theorem rk{α:Type}(a:α):List.replicate 0 a=[]:=rfl
theorem rv{α:Type}(n:Nat)(a:α):List.replicate (n+1) a=a::List.replicate n a:=rfl
theorem IJ{α:Type}(a b:α)(l:List α):(a::l).set 0 b=b::l:=rfl
theorem Jk{α:Type}(a b:α)(l:List α)(n:Nat):(a::l).set (n+1) b=a::l.set n b:=rfl
theorem S6(live:List Nat)(fr:List DV):wk live fr=cD (sq fr 0 live):=rfl
theorem B7(i:Nat)(js:List Nat):sq [] i js=[]:=rfl
theorem HU(d:DV)(ds:List DV)(i:Nat):sq (d::ds) i []= .any::sq ds (i+1) []:=rfl
theorem Kb(d:DV)(ds:List DV)(i j:Nat)(js:List Nat):sq (d::ds) i (j::js)=if i=j then d::sq ds (i+1) js else .any::sq ds (i+1) (j::js):=rfl
theorem w8(fr:List DV):kq fr []=fr:=rfl
theorem uS(fr:List DV)(i:Nat)(d:DV)(us:List (Nat×DV)):kq fr ((i,d)::us)=kq (fr.set i d) us:=rfl
theorem Ce(w0:W0)(fr:List DV)(n:Nat)(F:DV→Prop):A4 w0 fr (.tmp n) F=F (ev fr (.tmp n)):=rfl
theorem yI(w0:W0)(fr:List DV)(b:Nat)(F:DV→Prop):A4 w0 fr (.global b) F=ny w0 b F:=rfl
theorem N6{P:Program}{w0:W0}{fr:List DV}{S:St}{K:DV→St→Prop}(x:Operand):aF P w0 (.move x) fr S K=(K (ev fr x) S):=rfl
theorem FR{P:Program}{w0:W0}{fr:List DV}{S:St}{K:DV→St→Prop}(x:Operand):aF P w0 (.assign x) fr S K=(K (ev fr x) S):=rfl
theorem My{P:Program}{w0:W0}{fr:List DV}{S:St}{K:DV→St→Prop}(c a b:Operand):aF P w0 (.pick c a b) fr S K=(gn (ev fr c) (ev fr a) (ev fr b) (K · S)):=rfl
theorem Mu{P:Program}{w0:W0}{fr:List DV}{S:St}{K:DV→St→Prop}(t:TypeId)(x:Operand):aF P w0 (.load t x) fr S K=(cg (tk P t) S (ev fr x) (K · S)):=rfl
theorem vY{P:Program}{w0:W0}{fr:List DV}{S:St}{K:DV→St→Prop}(t:TypeId)(x:Operand)(f:Nat):aF P w0 (.fieldAddr t x f) fr S K=(eA (tk P t) f (ev fr x) (K · S)):=rfl
theorem vp{P:Program}{w0:W0}{fr:List DV}{S:St}{K:DV→St→Prop}(t:TypeId)(x i:Operand):aF P w0 (.indexAddr t x i) fr S K=(A4 w0 fr x fun d=>aD (tk P t) d (ev fr i) (K · S)):=rfl
theorem Kj{P:Program}{w0:W0}{fr:List DV}{S:St}{K:DV→St→Prop}(t:TypeId)(x:Operand)(f:Nat):aF P w0 (.field t x f) fr S K=(cV (tk P t) f (ev fr x) (K · S)):=rfl
theorem CC{P:Program}{w0:W0}{fr:List DV}{S:St}{K:DV→St→Prop}(x:Operand)(i:Nat):aF P w0 (.extract x i) fr S K=(cj i (ev fr x) (K · S)):=rfl
theorem zn{P:Program}{w0:W0}{fr:List DV}{S:St}{K:DV→St→Prop}(x:Operand):aF P w0 (.nilCheck x) fr S K=(notNil (ev fr x)=true∧K (ev fr x) S):=rfl
theorem ID{P:Program}{w0:W0}{fr:List DV}{S:St}{K:DV→St→Prop}(b:BinOp)(t:TypeId)(x y:Operand)(t':TypeId):aF P w0 (.binOp b t x y t') fr S K=(cc (eE y) (kR b (tk P t) (ev fr x) (K · S)) (ix P b t (u9 x) (u9 y) (ev fr x) (ev fr y) (K · S))):=by simp only[aF];unfold cc;cases eE y <;>rfl
theorem Nw{P:Program}{w0:W0}{fr:List DV}{S:St}{K:DV→St→Prop}(b:UnOp)(t:TypeId)(x:Operand):aF P w0 (.unOp b t x) fr S K=(zW b (ev fr x) (K · S)):=rfl
theorem Aw{P:Program}{w0:W0}{fr:List DV}{S:St}{K:DV→St→Prop}(s d:TypeId)(x:Operand):aF P w0 (.convert s d x) fr S K=(ie (tk P s) (tk P d) (tk P (cW P s)) (tk P (cW P d)) S (ev fr x) (K · S)):=rfl
theorem JD{P:Program}{w0:W0}{fr:List DV}{S:St}{K:DV→St→Prop}(t:TypeId)(x:Operand):aF P w0 (.makeInterface t x) fr S K=(nO (tk P t)=false∧shr S (ev fr x) fun d S=>K (.ij t d) S):=rfl
theorem IX{P:Program}{w0:W0}{fr:List DV}{S:St}{K:DV→St→Prop}(t:TypeId)(parts:List (Nat×Operand)):aF P w0 (.build t parts.toArray) fr S K=(eO S (parts.map fun p=>ev fr p.2) fun ds S=>dV P t ((parts.map (·.1)).zip ds) (K · S)):=rfl
theorem sP{P:Program}{w0:W0}{fr:List DV}{S:St}{K:DV→St→Prop}(t:TypeId)(len:Nat)(parts:List (Nat×Operand)):aF P w0 (.buildSlice t len parts.toArray) fr S K=(eO S (parts.map fun p=>ev fr p.2) fun ds S=>aM (tk P t) (zD P (cW P t)) len ((parts.map (·.1)).zip ds) (K · S)):=rfl
theorem xH{P:Program}{w0:W0}{fr:List DV}{S:St}{K:DV→St→Prop}(fn:Fn)(a b:List Operand):aF P w0 (.makeFunc fn a.toArray b.toArray) fr S K=(jr fn (a.map (ev fr)) (b.map (ev fr)) (K · S)):=rfl
theorem Jm{P:Program}{w0:W0}{fr:List DV}{S:St}{K:DV→St→Prop}(t:TypeId)(x:Operand)(lo hi mx:Option Operand):aF P w0 (.slice t x lo hi mx) fr S K=((mx.isSome=true→hi.isSome=true)∧fH (tk P t) S (ev fr x) (lo.map (ev fr)) (hi.map (ev fr)) (mx.map (ev fr)) K):=rfl
theorem PF{P:Program}{w0:W0}{fr:List DV}{S:St}{K:DV→St→Prop}(t:TypeId)(x:Operand):aF P w0 (.box t x) fr S K=(dv (ev fr x)=true∧HL S (ev fr x) K):=rfl
theorem Jb{P:Program}{w0:W0}{fr:List DV}{S:St}{K:DV→St→Prop}(t:TypeId):aF P w0 (.alloc t) fr S K=(dv (zD P t)=true∧HL S (zD P t) K):=rfl
theorem Iq{P:Program}{w0:W0}{fr:List DV}{S:St}{K:DV→St→Prop}(t:TypeId)(x y:Operand):aF P w0 (.store t x y) fr S K=((P.info? t).isSome=true∧cS (P.cellsOf t) S (ev fr x) (ev fr y) (K ud)):=rfl
theorem u4{P:Program}{w0:W0}{fr:List DV}{S:St}{K:DV→St→Prop}(t:TypeId)(x y:Operand):aF P w0 (.makeSlice t x y) fr S K=(de (tk P t) (zD P (cW P t)) (ev fr x) (ev fr y) S K):=rfl
theorem P6{P:Program}{w0:W0}{fr:List DV}{S:St}{K:DV→St→Prop}(x:Operand)(t:TypeId):aF P w0 (.call ⟨.builtin .len, #[x], #[t]⟩) fr S K=(lZ (tk P t) (ev fr x) (K · S)):=rfl
theorem Ra{P:Program}{w0:W0}{fr:List DV}{S:St}{K:DV→St→Prop}(x:Operand)(t:TypeId):aF P w0 (.call ⟨.builtin .cap, #[x], #[t]⟩) fr S K=(qU (tk P t) (ev fr x) (K · S)):=rfl
theorem D8{P:Program}{w0:W0}{fr:List DV}{S:St}{K:DV→St→Prop}(x y:Operand)(t t':TypeId):aF P w0 (.call ⟨.builtin .append, #[x,y], #[t,t']⟩) fr S K=(cc (rV (ev fr x)) (cc (rj (tk P t')) (rO (tk P t) (zD P (cW P t)) S (ev fr x) (ev fr y) K) (rK (tk P t) (tk P t') S (ev fr x) (ev fr y) K)) (cc (rj (tk P t')) (iS (tk P t) (zD P (cW P t)) S (ev fr x) (ev fr y) K) (iU (tk P t) (tk P t') S (ev fr x) (ev fr y) K))):=by simp only[aF];unfold cc;cases rV (ev fr x) <;>cases rj (tk P t') <;>rfl
theorem JW{P:Program}{w0:W0}{fr:List DV}{S:St}{K:DV→St→Prop}(x:Operand)(t:TypeId):aF P w0 (.call ⟨.builtin .clear, #[x], #[t]⟩) fr S K=(jE (tk P t) (zD P (cW P t)) S (ev fr x) K):=rfl
theorem P9{P:Program}{w0:W0}{fr:List DV}{S:St}{K:DV→St→Prop}(x y:Operand)(ts:Array TypeId):aF P w0 (.call ⟨.builtin .min, #[x,y],ts⟩) fr S K=(pj (ev fr x) (ev fr y) (K · S)):=rfl
theorem QW{P:Program}{w0:W0}{fr:List DV}{S:St}{K:DV→St→Prop}(x y:Operand)(ts:Array TypeId):aF P w0 (.call ⟨.builtin .max, #[x,y],ts⟩) fr S K=(pM (ev fr x) (ev fr y) (K · S)):=rfl
theorem M3{P:Program}{w0:W0}{fr:List DV}{S:St}{K:DV→St→Prop}(cal:Operand)(a:List Operand)(ts:Array TypeId):aF P w0 (.call ⟨.value cal,a.toArray,ts⟩) fr S K=(lT P w0 (ev fr cal) (a.map (ev fr)) S K):=rfl
theorem FT{P:Program}{w0:W0}{fr:List DV}{S:St}{K:DV→St→Prop}(t:TypeId)(x y:Operand)(ok:Bool):aF P w0 (.lookup t x y ok) fr S K=(bH (kE P t) S (ev fr x) (ev fr y) ok (K · S)):=rfl
theorem Hn{P:Program}{w0:W0}{fr:List DV}{S:St}{K:DV→St→Prop}(t:TypeId)(x y z:Operand):aF P w0 (.insert t x y z) fr S K=(dH (kE P t) S (ev fr x) (ev fr y) (ev fr z) (K ud)):=rfl
theorem ux{P:Program}{w0:W0}{fr:List DV}{S:St}{K:DV→St→Prop}(t:TypeId)(x y z:Operand):aF P w0 (.mapUpdate t x y z) fr S K=(dH (kE P t) S (ev fr x) (ev fr y) (ev fr z) (K ud)):=rfl
theorem BO{P:Program}{w0:W0}{fr:List DV}{S:St}{K:DV→St→Prop}(t:TypeId)(r:Option Operand):aF P w0 (.makeMap t r) fr S K=(fW (kE P t) r S K):=rfl
theorem JY{P:Program}{w0:W0}{fr:List DV}{S:St}{K:DV→St→Prop}(t:TypeId)(x:Operand):aF P w0 (.range t x) fr S K=(KP (tk P t) (kE P t) S (ev fr x) K):=rfl
theorem LD{P:Program}{w0:W0}{fr:List DV}{S:St}{K:DV→St→Prop}(x:Operand)(s:Bool):aF P w0 (.next x s) fr S K=(Ls s S (ev fr x) K):=rfl
theorem Jd{P:Program}{w0:W0}{fr:List DV}{S:St}{K:DV→St→Prop}(x:Operand):aF P w0 (.entry x) fr S K=(jG S (ev fr x) (K · S)):=rfl
theorem C8{P:Program}{w0:W0}{fr:List DV}{S:St}{K:DV→St→Prop}(x y:Operand)(t t':TypeId):aF P w0 (.call ⟨.builtin .delete, #[x,y], #[t,t']⟩) fr S K=(gG (kE P t) S (ev fr x) (ev fr y) (K ud)):=rfl
theorem Mq{P:Program}{w0:W0}{fr:List DV}{S:St}{K:DV→Prop}(x:Operand):aV P w0 (.move x) fr S K=(K (ev fr x)):=rfl
theorem Gt{P:Program}{w0:W0}{fr:List DV}{S:St}{K:DV→Prop}(x:Operand):aV P w0 (.assign x) fr S K=(K (ev fr x)):=rfl
theorem Mv{P:Program}{w0:W0}{fr:List DV}{S:St}{K:DV→Prop}(c a b:Operand):aV P w0 (.pick c a b) fr S K=(gn (ev fr c) (ev fr a) (ev fr b) K):=rfl
theorem Ly{P:Program}{w0:W0}{fr:List DV}{S:St}{K:DV→Prop}(t:TypeId)(x:Operand):aV P w0 (.load t x) fr S K=(cg (tk P t) S (ev fr x) K):=rfl
theorem wv{P:Program}{w0:W0}{fr:List DV}{S:St}{K:DV→Prop}(t:TypeId)(x:Operand)(f:Nat):aV P w0 (.fieldAddr t x f) fr S K=(eA (tk P t) f (ev fr x) K):=rfl
theorem wg{P:Program}{w0:W0}{fr:List DV}{S:St}{K:DV→Prop}(t:TypeId)(x i:Operand):aV P w0 (.indexAddr t x i) fr S K=(A4 w0 fr x fun d=>aD (tk P t) d (ev fr i) K):=rfl
theorem BQ{P:Program}{w0:W0}{fr:List DV}{S:St}{K:DV→Prop}(x:Operand)(i:Nat):aV P w0 (.extract x i) fr S K=(cj i (ev fr x) K):=rfl
theorem xw{P:Program}{w0:W0}{fr:List DV}{S:St}{K:DV→Prop}(x:Operand):aV P w0 (.nilCheck x) fr S K=(notNil (ev fr x)=true∧K (ev fr x)):=rfl
theorem Ig{P:Program}{w0:W0}{fr:List DV}{S:St}{K:DV→Prop}(b:BinOp)(t:TypeId)(x y:Operand)(t':TypeId):aV P w0 (.binOp b t x y t') fr S K=(eE y=false∧ix P b t (u9 x) (u9 y) (ev fr x) (ev fr y) K):=rfl
theorem Mh{P:Program}{w0:W0}{fr:List DV}{S:St}{K:DV→Prop}(b:UnOp)(t:TypeId)(x:Operand):aV P w0 (.unOp b t x) fr S K=(zW b (ev fr x) K):=rfl
theorem xN{P:Program}{w0:W0}{fr:List DV}{S:St}{K:DV→Prop}(fn:Fn)(a b:List Operand):aV P w0 (.makeFunc fn a.toArray b.toArray) fr S K=(jr fn (a.map (ev fr)) (b.map (ev fr)) K):=rfl
theorem Jc{P:Program}{w0:W0}{fr:List DV}{S:St}{K:DV→Prop}(t:TypeId)(x:Operand)(lo hi mx:Option Operand):aV P w0 (.slice t x lo hi mx) fr S K=((mx.isSome=true→hi.isSome=true)∧ri (ev fr x)=true∧fi (tk P t) (ev fr x) (lo.map (ev fr)) (hi.map (ev fr)) (mx.map (ev fr)) K):=rfl
theorem Ea{P:Program}{w0:W0}{fr:List DV}{S:St}{K:DV→Prop}(t:TypeId)(x y:Operand)(ok:Bool):aV P w0 (.lookup t x y ok) fr S K=(bH (kE P t) S (ev fr x) (ev fr y) ok K):=rfl
theorem Jg{P:Program}{w0:W0}{fr:List DV}{S:St}{K:DV→Prop}(t:TypeId)(parts:List (Nat×Operand)):aV P w0 (.build t parts.toArray) fr S K=((parts.map fun p=>ev fr p.2).all eg=true∧dV P t ((parts.map (·.1)).zip (parts.map fun p=>ev fr p.2)) K):=rfl
theorem sy{P:Program}{w0:W0}{fr:List DV}{S:St}{K:DV→Prop}(t:TypeId)(len:Nat)(parts:List (Nat×Operand)):aV P w0 (.buildSlice t len parts.toArray) fr S K=((parts.map fun p=>ev fr p.2).all eg=true∧aM (tk P t) (zD P (cW P t)) len ((parts.map (·.1)).zip (parts.map fun p=>ev fr p.2)) K):=rfl
theorem Qh{P:Program}{w0:W0}{fr:List DV}{S:St}{K:DV→Prop}(x:Operand)(t:TypeId):aV P w0 (.call ⟨.builtin .len, #[x], #[t]⟩) fr S K=(lZ (tk P t) (ev fr x) K):=rfl
theorem M5{P:Program}{w0:W0}{fr:List DV}{S:St}{K:DV→Prop}(cal:Operand)(a:List Operand)(ts:Array TypeId):aV P w0 (.call ⟨.value cal,a.toArray,ts⟩) fr S K=(kP P w0 (ev fr cal) (a.map (ev fr)) S K):=rfl
attribute [go_sem ↓] N6 FR My Mu vY vp Kj CC zn ID Nw Aw JD IX sP xH Jm PF Jb Iq u4 P6 Ra D8 JW P9 QW M3 FT Hn ux BO JY LD Jd C8
attribute [go_sem ↓] Mq Gt Mv Ly wv wg BQ xw Ig Mh xN Jc Ea Jg sy Qh M5
attribute [go_sem] xr sJ xd yF nV nW ru qc uW wY wi mC qO vE vN th n9 Cq u5 pN pz
attribute [go_sem] E7 yg BC CA BS Fe Cz Fx GG Gk DS E0 vJ wB y0 BB
attribute [go_sem] uG He Cm Cw ya uZ Cp wH yZ Ed vn uf Rp
attribute [go_sem] wK sK tJ rp vP xa xu xS xz yr wV yd Bs xI xW xX yu xZ yV xR yi yC rk rv IJ Jk S6 B7 HU Kb w8 uS Ce
attribute [go_sem] yI
section
variable {P:Program} {w0:W0} {K:DV→Prop} {A B:Prop} {F G:List DV→Prop}
/- Tests:what is known is gone by;what can't be known parts the VN. -/
theorem G8:cn (.v (.bool true)) A B=A:=by simp[cn]
theorem EE:cn (.v (.bool false)) A B=B:=by simp[cn]
theorem DR(p:Prop)[Decidable p]:cn (.v (.bool (decide p))) A B=((p→A)∧(¬p→B)):=by simp[cn]
theorem DX(b:Bool):cn (.v (.bool (!b))) A B=cn (.v (.bool b)) B A:=by
 simp only[cn,Bool.not_eq_eq_eq_not,Bool.not_true,Bool.not_false];exact propext ⟨fun h=>⟨h.2,h.1⟩,fun h=>⟨h.2,h.1⟩⟩
theorem DB(b:Bool):cn (.v (.bool b)) A B=((b=true→A)∧(b=false→B)):=rfl
theorem Ek(a b:DV):gn (.v (.bool true)) a b K=K a:=by simp[gn]
theorem Di(a b:DV):gn (.v (.bool false)) a b K=K b:=by simp[gn]
/- A choice between what is known is the test itself. -/
theorem H3(t:Nat)(fr:List DV):gD t (.v (.bool true)) fr true F G=F (fr.set t (.v (.bool true))):=by simp[gD]
theorem Ie(t:Nat)(fr:List DV):gD t (.v (.bool true)) fr false F G=G (fr.set t (.v (.bool true))):=by simp[gD]
theorem Jq(t:Nat)(fr:List DV):gD t (.v (.bool false)) fr true F G=G (fr.set t (.v (.bool false))):=by simp[gD]
theorem IP(t:Nat)(fr:List DV):gD t (.v (.bool false)) fr false F G=F (fr.set t (.v (.bool false))):=by simp[gD]
theorem JA(p:Prop)[Decidable p](t:Nat)(fr:List DV):gD t (.v (.bool (decide p))) fr true F G=((p→F (fr.set t (.v (.bool true))))∧(¬p→G (fr.set t (.v (.bool false))))):=by simp[gD]
theorem IK(p:Prop)[Decidable p](t:Nat)(fr:List DV):gD t (.v (.bool (decide p))) fr false F G=((p→G (fr.set t (.v (.bool true))))∧(¬p→F (fr.set t (.v (.bool false))))):=by
 simp only[gD,decide_eq_false_iff_not,Bool.not_false,decide_eq_true_eq];exact propext ⟨fun h=>⟨h.2,h.1⟩,fun h=>⟨h.2,h.1⟩⟩
theorem zI(b:Bool)(t:Nat)(fr:List DV):gD t (.v (.bool b)) fr true F G=((b=true→F (fr.set t (.v (.bool true))))∧(b=false→G (fr.set t (.v (.bool false))))):=by simp[gD]
theorem zx(b:Bool)(t:Nat)(fr:List DV):gD t (.v (.bool b)) fr false F G=((b=true→G (fr.set t (.v (.bool true))))∧(b=false→F (fr.set t (.v (.bool false))))):=by
 simp only[gD,Bool.not_false];exact propext ⟨fun h=>⟨h.2,h.1⟩,fun h=>⟨h.2,h.1⟩⟩
end
attribute [go_sem ↓] G8 EE DR DX Ek Di H3 Ie Jq IP JA IK
attribute [go_sem ↓ low] DB zI zx
attribute [go_sem] List.length_cons List.length_nil List.length_map List.cons_append List.nil_append List.map_cons List.map_nil List.zip_cons_cons List.zip_nil_right
section
variable {P:Program} {w0:W0} {ops:Array Oper} {K:List DV→St→Prop} {fr:List DV} {S:St} {rest:List Oper} {dst:Option Tmp} {op:Op} {ty:TypeId} {pos:String} {aft:Array Edge}
theorem Cc:oG P w0 ops K [] fr S=K fr S:=rfl
theorem zh:oG P w0 ops K (⟨dst,op,ty,pos,aft,none⟩::rest) fr S=aF P w0 op fr S fun d S'=>oG P w0 ops K rest (pt fr dst d) S':=rfl
theorem xU(j:Nat)(want:Bool):oG P w0 ops K (⟨dst,op,ty,pos,aft,some (j,want)⟩::rest) fr S=gK ((ops[j]?).bind (·.dst)) fr want (fun fr=>aF P w0 op fr S fun d S'=>oG P w0 ops K rest (pt fr dst d) S') (fun fr=>oG P w0 ops K rest (pt fr dst ud) S):=oU _ _ _ _ _ _
end
def QC(P:Program)(w0:W0)(f:FuncId)(ds:List DV)(S:St)[K:Cn (DV→Prop)]:Prop:=∃d,aa P w0 f ds S (fun d' S'=>d'=d∧S'=S)∧K.k d
theorem Jw{P:Program}{w0:W0}(f:FuncId)(a cap:Array Value)(ds:List DV)(S:St)(K:DV→Prop):kP P w0 (.v (.func (.func f) a cap)) ds S K=(a.size=0∧okF P f=true∧cap.toList.all (fun u=>u.oneCell')=true∧ds.all eg=true∧@QC P w0 f (ds++cap.toList.map .v) S ⟨K⟩):=rfl
attribute [go_sem ↓] Cc zh xU Jw fV eC kG gQ pY rZ
attribute [go_sem] List.getD_cons_succ List.getD_cons_zero List.getElem?_cons_succ List.getElem?_cons_zero List.getElem?_toArray Option.bind_some List.all_cons List.all_nil Bool.and_self Bool.and_true
attribute [go_sem] Nat.zero_add true_and and_true List.drop_zero List.drop_succ_cons List.take_succ_cons List.take_zero Option.map_some Option.map_none Option.isSome_some Option.isSome_none Option.isNone_none Option.isNone_some
attribute [go_sem] Bool.false_eq_true if_true if_false or_true true_or false_or or_false forall_const false_implies imp_self Bool.not_true Bool.not_false beq_self_eq_true decide_eq_true_eq decide_eq_false_iff_not decide_true decide_false
attribute [go_sem] Int.toNat_natCast Int.natCast_nonneg Int.ofNat_lt Int.ofNat_le Int.natCast_inj List.getElem?_map Option.map_eq_some_iff forall_exists_index and_imp forall_apply_eq_imp_iff₂ forall_eq_apply_imp_iff ne_eq not_false_eq_true not_true_eq_false
attribute [go_sem] List.size_toArray List.append_nil Int.le_refl Nat.le_refl List.drop_nil List.take_nil Int.toNat_zero Int.natCast_zero Int.natCast_one Int.cast_ofNat_Int Bool.or_true Bool.or_false Bool.true_or Bool.false_or Bool.false_and Bool.and_false Bool.true_and List.isEmpty_nil List.isEmpty_cons
attribute [go_sem] dI dU dB dS Nat.lt_add_one forall_eq forall_eq' true_implies implies_true Option.some.injEq
structure FN{α:Type}(l:List (Nat×α)) where
 m:Nat
 h:il l m
def FN.n{α:Type}{l:List (Nat×α)}(b:FN l):Nat:=b.m
theorem ov{α:Type}(l:List (Nat×α))(F:Nat→Prop):(∀b,il l b→F b)=∀b:FN l,F b.n:=propext ⟨fun h b=>h b.n b.h,fun h b hb=>h ⟨b,hb⟩⟩
theorem pO{α:Type}:∀{l:List (Nat×α)} {b:Nat},il l b→lk l b=none
 |[],_,_=>rfl
 |(k,x)::t,b,h=>by
  simp only[il]at h;unfold lk;rw[if_neg (by first|exact fun e=>h.1 e|exact fun e=>h.1 e.symm)];exact pO (by first|exact h.2|exact h.2.2)
theorem ak{α:Type}{l:List (Nat×α)}(b:FN l):lk l b.n=none:=pO b.h
theorem av{α:Type}{l:List (Nat×α)}(b:FN l)(c:Nat)(h:(lk l c).isSome=true):(b.n=c)=False:=by
 refine eq_false fun e=>?_;subst e;rw[show lk l b.n=none from pO b.h]at h;cases h
theorem DD{α:Type}{l:List (Nat×α)}(b:FN l)(c:Nat)(h:(lk l c).isSome=true):(c=b.n)=False:=by
 refine eq_false fun e=>?_;subst e;rw[show lk l b.n=none from pO b.h]at h;cases h
section
variable {S:St} {K:DV→St→Prop}
theorem IG(d:DV):HL S d K=∀b:FN S.box,K (.v (.pointer (some ⟨b.n,0,none⟩))) ⟨(b.n,cd d)::S.box,S.acc⟩:=ov S.box fun b=>K (.v (.pointer (some ⟨b,0,none⟩))) ⟨(b,cd d)::S.box,S.acc⟩
theorem Ey(ds:List DV):HL S (.agg ds) K=∀b:FN S.box,K (.v (.pointer (some ⟨b.n,0,none⟩))) ⟨(b.n,ds)::S.box,S.acc⟩:=IG _
theorem NW(u:Value):HL S (.v u) K=∀b:FN S.box,K (.v (.pointer (some ⟨b.n,0,none⟩))) ⟨(b.n,[.v u])::S.box,S.acc⟩:=IG _
theorem Jj(s:Nat)(f:Bool)(xs:List DV):HL S (.sl s f xs) K=∀b:FN S.box,K (.v (.pointer (some ⟨b.n,0,none⟩))) ⟨(b.n,[.sl s f xs])::S.box,S.acc⟩:=IG _
end
theorem Bu(kk:KK)(z:DV)(S:St)(K:DV→St→Prop):fW (some (kk,z)) none S K=∀l:FN S.acc,K (.mp l.n) ⟨S.box,(l.n,.xo (.mp kk [] 0))::S.acc⟩:=by
 unfold fW;simp only[oK,true_and];exact ov S.acc fun l=>K (.mp l) ⟨S.box,(l,.xo (.mp kk [] 0))::S.acc⟩
def OI(S:St)(f:XO)(K:DV→St→Prop):Prop:=∀l,il S.acc l→K (.it l) ⟨S.box,(l,.xo f)::S.acc⟩
theorem Re(S:St)(f:XO)(K:DV→St→Prop):OI S f K=∀l:FN S.acc,K (.it l.n) ⟨S.box,(l.n,.xo f)::S.acc⟩:=ov S.acc fun l=>K (.it l) ⟨S.box,(l,.xo f)::S.acc⟩
theorem J7(p:KK×DV)(S:St)(l:Nat)(K:DV→St→Prop):iR (some p) S (.mp l) K=xK (lk S.acc l) fun kk es clk=>OI S (.it l clk [] clk) K:=by
 unfold iR OI;simp only[xK,Zk,true_and]
theorem F3(p:KK×DV)(S:St)(K:DV→St→Prop):iR (some p) S (.v (.map none)) K=OI S .ni K:=by
 unfold iR OI;simp only[Zk,true_and]
theorem FH(s:ByteArray)(S:St)(K:DV→St→Prop):iY S (.v (.string s)) K=OI S (.si s 0) K:=rfl
theorem Gr(m:Option (KK×DV))(S:St)(x:DV)(K:DV→St→Prop):KP .str m S x K=iY S x K:=rfl
theorem DN(k e:TypeId)(m:Option (KK×DV))(S:St)(x:DV)(K:DV→St→Prop):KP (.map k e) m S x K=iR m S x K:=rfl
theorem NX(S:St)(x:DV)(K:DV→St→Prop):Ls true S x K=jX S x K:=rfl
theorem Nd(S:St)(x:DV)(K:DV→St→Prop):Ls false S x K=ql S x false K:=rfl
attribute [go_sem ↓] Bu Re J7 F3 FH Gr DN NX Nd Po Iu
attribute [go_sem ↓] ov Ey NW Jj
attribute [go_sem] av DD Option.isSome_some
noncomputable def pB(P:Prop):Bool:=@decide P (Classical.propDecidable P)
theorem da{P:Prop}(h:P):pB P=true:=@decide_eq_true _ (Classical.propDecidable _) h
theorem jI{P:Prop}(h:¬P):pB P=false:=@decide_eq_false _ (Classical.propDecidable _) h
theorem nK(P:Prop):(pB P=true)=P:=propext ⟨fun h=>@of_decide_eq_true _ (Classical.propDecidable _) h,da⟩
theorem vd(P:Prop):(pB P=false)=¬P:=propext ⟨fun h=>@of_decide_eq_false _ (Classical.propDecidable _) h,jI⟩
theorem Pn(P:Prop):(true=pB P)=P:=(propext eq_comm).trans (nK P)
theorem Qf(P:Prop):(false=pB P)=¬P:=(propext eq_comm).trans (vd P)
theorem SJ(P:Prop)[Decidable P]:(true=decide P)=P:=(propext eq_comm).trans decide_eq_true_eq
theorem Sl(P:Prop)[Decidable P]:(false=decide P)=¬P:=(propext eq_comm).trans (propext decide_eq_false_iff_not)
theorem DC(P A B:Prop):cn (.v (.bool (pB P))) A B=((P→A)∧(¬P→B)):=by
 show((pB P=true→A)∧(pB P=false→B))=_;rw[nK,vd]
theorem Ks(P:Prop)(t:Nat)(fr:List DV)(F G:List DV→Prop):gD t (.v (.bool (pB P))) fr true F G=((P→F (fr.set t (.v (.bool true))))∧(¬P→G (fr.set t (.v (.bool false))))):=by
 rw[zI,nK,vd]
theorem IN(P:Prop)(t:Nat)(fr:List DV)(F G:List DV→Prop):gD t (.v (.bool (pB P))) fr false F G=((P→G (fr.set t (.v (.bool true))))∧(¬P→F (fr.set t (.v (.bool false))))):=by
 rw[zx,nK,vd]
theorem Hq(P:Prop):(!pB P)=pB (¬P):=by
 by_cases h:P
 ·rw[da h,jI (fun k=>k h)];rfl
 ·rw[jI h,da h];rfl
theorem HX{P Q:Prop}(h:P↔Q):pB P=pB Q:=by rw[propext h]
attribute [go_sem ↓] DC Ks IN
attribute [go_sem] nK vd Pn Qf SJ Sl Hq
theorem yy{α β:Type}(f:α→β)(n:Nat)(l:List α):List.take n (List.map f l)=List.map f (List.take n l):=List.map_take.symm
theorem y8{α β:Type}(f:α→β)(n:Nat)(l:List α):List.drop n (List.map f l)=List.map f (List.drop n l):=List.map_drop.symm
theorem Bc{α β:Type}(f:α→β)(a b:List α):List.map f a++List.map f b=List.map f (a++b):=XB.symm
attribute [go_sem] yy y8 Bc List.length_append List.length_take List.length_drop List.take_length List.drop_length Nat.min_self
theorem SM(P Q:Prop)[Decidable P]:(decide P=pB Q)=(P↔Q):=propext ⟨fun h=>⟨fun p=>(nK Q).mp (h▸decide_eq_true p),fun q=>of_decide_eq_true (h.trans (da q))⟩,fun h=>by
 by_cases p:P
 ·rw[da (h.1 p),decide_eq_true p]
 ·rw[jI (fun q=>p (h.2 q)),decide_eq_false p]⟩
theorem Sg(P Q:Prop):(pB P=pB Q)=(P↔Q):=propext ⟨fun h=>⟨fun p=>(nK Q).mp (h▸da p),fun q=>(nK P).mp (h.trans (da q))⟩,HX⟩
theorem Tg(P Q:Prop)[Decidable P][Decidable Q]:(decide P=decide Q)=(P↔Q):=propext decide_eq_decide
attribute [go_sem] SM Sg Tg
theorem Je(P:Prop)[Decidable P]:(!decide P)=decide (¬P):=(decide_not).symm
attribute [go_sem] Je Bool.not_eq_true' Bool.not_eq_false'
attribute [go_sem] Value.oneCell' false_and and_false and_self List.length_set
attribute [go_sem] On
attribute [go_sem ↓] FO x8 MQ MS xV FZ Gy
attribute [go_sem] Ga P2 Mm Cu xO LB Ma yN tK re uT Mz
attribute [go_sem ↓] P1 Q8 AM BZ ER Io H6 Tn Sk Pl Lz yk yP Ef FP E3 NH Kk
attribute [go_sem] wC uV DA E6
attribute [go_sem ↓] Fb FY By AJ EN Fw EW IC EG I4 Dn Dg IQ CQ I8 Bm EM GH DJ Ar AR G7 Gl Hh Hk GZ C9 Er Ck uJ tj JN Fy CZ Av x7 vB Dl A6 ye xG yn zm zj DT AT Co Pq Px uQ tc Pz y9 Gz yQ vO PG CU Dx CG LA AV Cg AB yW ze yK zk rE Ht Kr xE AU Fi JU F0 JS Gj Ng CM x9 IZ vv Bx oU CV J0 M6 J3 SA QJ
attribute [go_sem] IS Hs CY Bv Om Jn G5 Eh Dr Be tV Bn Jv Dc PQ Kq yb yJ yp yH yv ue sN wT uI uc yq uF
theorem Hp(r:Ry)(l:List DV)(n:Nat)(d:DV):(rc r l).getD (n+16) d=l.getD n d:=rfl
theorem GA(r:Ry)(l:List DV)(n:Nat)(d:DV):(rc r l).set (n+16) d=rc r (l.set n d):=rfl
theorem Ex(a0 a1 a2 a3 a4 a5 a6 a7 a8 a9 bB bC a12 bJ bO bQ:DV)(l:List DV)(d:DV):(rc ⟨a0,a1,a2,a3,a4,a5,a6,a7,a8,a9,bB,bC,a12,bJ,bO,bQ⟩ l).getD 0 d=a0:=rfl
theorem Hb(a0 a1 a2 a3 a4 a5 a6 a7 a8 a9 bB bC a12 bJ bO bQ:DV)(l:List DV)(d:DV):(rc ⟨a0,a1,a2,a3,a4,a5,a6,a7,a8,a9,bB,bC,a12,bJ,bO,bQ⟩ l).set 0 d=rc ⟨d,a1,a2,a3,a4,a5,a6,a7,a8,a9,bB,bC,a12,bJ,bO,bQ⟩ l:=rfl
theorem Fo(a0 a1 a2 a3 a4 a5 a6 a7 a8 a9 bB bC a12 bJ bO bQ:DV)(l:List DV)(d:DV):(rc ⟨a0,a1,a2,a3,a4,a5,a6,a7,a8,a9,bB,bC,a12,bJ,bO,bQ⟩ l).getD 1 d=a1:=rfl
theorem FB(a0 a1 a2 a3 a4 a5 a6 a7 a8 a9 bB bC a12 bJ bO bQ:DV)(l:List DV)(d:DV):(rc ⟨a0,a1,a2,a3,a4,a5,a6,a7,a8,a9,bB,bC,a12,bJ,bO,bQ⟩ l).set 1 d=rc ⟨a0,d,a2,a3,a4,a5,a6,a7,a8,a9,bB,bC,a12,bJ,bO,bQ⟩ l:=rfl
theorem Ep(a0 a1 a2 a3 a4 a5 a6 a7 a8 a9 bB bC a12 bJ bO bQ:DV)(l:List DV)(d:DV):(rc ⟨a0,a1,a2,a3,a4,a5,a6,a7,a8,a9,bB,bC,a12,bJ,bO,bQ⟩ l).getD 2 d=a2:=rfl
theorem DE(a0 a1 a2 a3 a4 a5 a6 a7 a8 a9 bB bC a12 bJ bO bQ:DV)(l:List DV)(d:DV):(rc ⟨a0,a1,a2,a3,a4,a5,a6,a7,a8,a9,bB,bC,a12,bJ,bO,bQ⟩ l).set 2 d=rc ⟨a0,a1,d,a3,a4,a5,a6,a7,a8,a9,bB,bC,a12,bJ,bO,bQ⟩ l:=rfl
theorem F9(a0 a1 a2 a3 a4 a5 a6 a7 a8 a9 bB bC a12 bJ bO bQ:DV)(l:List DV)(d:DV):(rc ⟨a0,a1,a2,a3,a4,a5,a6,a7,a8,a9,bB,bC,a12,bJ,bO,bQ⟩ l).getD 3 d=a3:=rfl
theorem D9(a0 a1 a2 a3 a4 a5 a6 a7 a8 a9 bB bC a12 bJ bO bQ:DV)(l:List DV)(d:DV):(rc ⟨a0,a1,a2,a3,a4,a5,a6,a7,a8,a9,bB,bC,a12,bJ,bO,bQ⟩ l).set 3 d=rc ⟨a0,a1,a2,d,a4,a5,a6,a7,a8,a9,bB,bC,a12,bJ,bO,bQ⟩ l:=rfl
theorem FJ(a0 a1 a2 a3 a4 a5 a6 a7 a8 a9 bB bC a12 bJ bO bQ:DV)(l:List DV)(d:DV):(rc ⟨a0,a1,a2,a3,a4,a5,a6,a7,a8,a9,bB,bC,a12,bJ,bO,bQ⟩ l).getD 4 d=a4:=rfl
theorem GL(a0 a1 a2 a3 a4 a5 a6 a7 a8 a9 bB bC a12 bJ bO bQ:DV)(l:List DV)(d:DV):(rc ⟨a0,a1,a2,a3,a4,a5,a6,a7,a8,a9,bB,bC,a12,bJ,bO,bQ⟩ l).set 4 d=rc ⟨a0,a1,a2,a3,d,a5,a6,a7,a8,a9,bB,bC,a12,bJ,bO,bQ⟩ l:=rfl
theorem Hw(a0 a1 a2 a3 a4 a5 a6 a7 a8 a9 bB bC a12 bJ bO bQ:DV)(l:List DV)(d:DV):(rc ⟨a0,a1,a2,a3,a4,a5,a6,a7,a8,a9,bB,bC,a12,bJ,bO,bQ⟩ l).getD 5 d=a5:=rfl
theorem GU(a0 a1 a2 a3 a4 a5 a6 a7 a8 a9 bB bC a12 bJ bO bQ:DV)(l:List DV)(d:DV):(rc ⟨a0,a1,a2,a3,a4,a5,a6,a7,a8,a9,bB,bC,a12,bJ,bO,bQ⟩ l).set 5 d=rc ⟨a0,a1,a2,a3,a4,d,a6,a7,a8,a9,bB,bC,a12,bJ,bO,bQ⟩ l:=rfl
theorem Gp(a0 a1 a2 a3 a4 a5 a6 a7 a8 a9 bB bC a12 bJ bO bQ:DV)(l:List DV)(d:DV):(rc ⟨a0,a1,a2,a3,a4,a5,a6,a7,a8,a9,bB,bC,a12,bJ,bO,bQ⟩ l).getD 6 d=a6:=rfl
theorem Df(a0 a1 a2 a3 a4 a5 a6 a7 a8 a9 bB bC a12 bJ bO bQ:DV)(l:List DV)(d:DV):(rc ⟨a0,a1,a2,a3,a4,a5,a6,a7,a8,a9,bB,bC,a12,bJ,bO,bQ⟩ l).set 6 d=rc ⟨a0,a1,a2,a3,a4,a5,d,a7,a8,a9,bB,bC,a12,bJ,bO,bQ⟩ l:=rfl
theorem De(a0 a1 a2 a3 a4 a5 a6 a7 a8 a9 bB bC a12 bJ bO bQ:DV)(l:List DV)(d:DV):(rc ⟨a0,a1,a2,a3,a4,a5,a6,a7,a8,a9,bB,bC,a12,bJ,bO,bQ⟩ l).getD 7 d=a7:=rfl
theorem E4(a0 a1 a2 a3 a4 a5 a6 a7 a8 a9 bB bC a12 bJ bO bQ:DV)(l:List DV)(d:DV):(rc ⟨a0,a1,a2,a3,a4,a5,a6,a7,a8,a9,bB,bC,a12,bJ,bO,bQ⟩ l).set 7 d=rc ⟨a0,a1,a2,a3,a4,a5,a6,d,a8,a9,bB,bC,a12,bJ,bO,bQ⟩ l:=rfl
theorem FX(a0 a1 a2 a3 a4 a5 a6 a7 a8 a9 bB bC a12 bJ bO bQ:DV)(l:List DV)(d:DV):(rc ⟨a0,a1,a2,a3,a4,a5,a6,a7,a8,a9,bB,bC,a12,bJ,bO,bQ⟩ l).getD 8 d=a8:=rfl
theorem Fg(a0 a1 a2 a3 a4 a5 a6 a7 a8 a9 bB bC a12 bJ bO bQ:DV)(l:List DV)(d:DV):(rc ⟨a0,a1,a2,a3,a4,a5,a6,a7,a8,a9,bB,bC,a12,bJ,bO,bQ⟩ l).set 8 d=rc ⟨a0,a1,a2,a3,a4,a5,a6,a7,d,a9,bB,bC,a12,bJ,bO,bQ⟩ l:=rfl
theorem DG(a0 a1 a2 a3 a4 a5 a6 a7 a8 a9 bB bC a12 bJ bO bQ:DV)(l:List DV)(d:DV):(rc ⟨a0,a1,a2,a3,a4,a5,a6,a7,a8,a9,bB,bC,a12,bJ,bO,bQ⟩ l).getD 9 d=a9:=rfl
theorem Gs(a0 a1 a2 a3 a4 a5 a6 a7 a8 a9 bB bC a12 bJ bO bQ:DV)(l:List DV)(d:DV):(rc ⟨a0,a1,a2,a3,a4,a5,a6,a7,a8,a9,bB,bC,a12,bJ,bO,bQ⟩ l).set 9 d=rc ⟨a0,a1,a2,a3,a4,a5,a6,a7,a8,d,bB,bC,a12,bJ,bO,bQ⟩ l:=rfl
theorem A7(a0 a1 a2 a3 a4 a5 a6 a7 a8 a9 bB bC a12 bJ bO bQ:DV)(l:List DV)(d:DV):(rc ⟨a0,a1,a2,a3,a4,a5,a6,a7,a8,a9,bB,bC,a12,bJ,bO,bQ⟩ l).getD 10 d=bB:=rfl
theorem BH(a0 a1 a2 a3 a4 a5 a6 a7 a8 a9 bB bC a12 bJ bO bQ:DV)(l:List DV)(d:DV):(rc ⟨a0,a1,a2,a3,a4,a5,a6,a7,a8,a9,bB,bC,a12,bJ,bO,bQ⟩ l).set 10 d=rc ⟨a0,a1,a2,a3,a4,a5,a6,a7,a8,a9,d,bC,a12,bJ,bO,bQ⟩ l:=rfl
theorem CS(a0 a1 a2 a3 a4 a5 a6 a7 a8 a9 bB bC a12 bJ bO bQ:DV)(l:List DV)(d:DV):(rc ⟨a0,a1,a2,a3,a4,a5,a6,a7,a8,a9,bB,bC,a12,bJ,bO,bQ⟩ l).getD 11 d=bC:=rfl
theorem AY(a0 a1 a2 a3 a4 a5 a6 a7 a8 a9 bB bC a12 bJ bO bQ:DV)(l:List DV)(d:DV):(rc ⟨a0,a1,a2,a3,a4,a5,a6,a7,a8,a9,bB,bC,a12,bJ,bO,bQ⟩ l).set 11 d=rc ⟨a0,a1,a2,a3,a4,a5,a6,a7,a8,a9,bB,d,a12,bJ,bO,bQ⟩ l:=rfl
theorem Gi(a0 a1 a2 a3 a4 a5 a6 a7 a8 a9 bB bC a12 bJ bO bQ:DV)(l:List DV):(rc ⟨a0,a1,a2,a3,a4,a5,a6,a7,a8,a9,bB,bC,a12,bJ,bO,bQ⟩ l)[11]? =some bC:=rfl
theorem CW(a0 a1 a2 a3 a4 a5 a6 a7 a8 a9 bB bC a12 bJ bO bQ:DV)(l:List DV)(d:DV):(rc ⟨a0,a1,a2,a3,a4,a5,a6,a7,a8,a9,bB,bC,a12,bJ,bO,bQ⟩ l).getD 12 d=a12:=rfl
theorem C0(a0 a1 a2 a3 a4 a5 a6 a7 a8 a9 bB bC a12 bJ bO bQ:DV)(l:List DV)(d:DV):(rc ⟨a0,a1,a2,a3,a4,a5,a6,a7,a8,a9,bB,bC,a12,bJ,bO,bQ⟩ l).set 12 d=rc ⟨a0,a1,a2,a3,a4,a5,a6,a7,a8,a9,bB,bC,d,bJ,bO,bQ⟩ l:=rfl
theorem BD(a0 a1 a2 a3 a4 a5 a6 a7 a8 a9 bB bC a12 bJ bO bQ:DV)(l:List DV)(d:DV):(rc ⟨a0,a1,a2,a3,a4,a5,a6,a7,a8,a9,bB,bC,a12,bJ,bO,bQ⟩ l).getD 13 d=bJ:=rfl
theorem B4(a0 a1 a2 a3 a4 a5 a6 a7 a8 a9 bB bC a12 bJ bO bQ:DV)(l:List DV)(d:DV):(rc ⟨a0,a1,a2,a3,a4,a5,a6,a7,a8,a9,bB,bC,a12,bJ,bO,bQ⟩ l).set 13 d=rc ⟨a0,a1,a2,a3,a4,a5,a6,a7,a8,a9,bB,bC,a12,d,bO,bQ⟩ l:=rfl
theorem BF(a0 a1 a2 a3 a4 a5 a6 a7 a8 a9 bB bC a12 bJ bO bQ:DV)(l:List DV)(d:DV):(rc ⟨a0,a1,a2,a3,a4,a5,a6,a7,a8,a9,bB,bC,a12,bJ,bO,bQ⟩ l).getD 14 d=bO:=rfl
theorem CF(a0 a1 a2 a3 a4 a5 a6 a7 a8 a9 bB bC a12 bJ bO bQ:DV)(l:List DV)(d:DV):(rc ⟨a0,a1,a2,a3,a4,a5,a6,a7,a8,a9,bB,bC,a12,bJ,bO,bQ⟩ l).set 14 d=rc ⟨a0,a1,a2,a3,a4,a5,a6,a7,a8,a9,bB,bC,a12,bJ,d,bQ⟩ l:=rfl
theorem BE(a0 a1 a2 a3 a4 a5 a6 a7 a8 a9 bB bC a12 bJ bO bQ:DV)(l:List DV)(d:DV):(rc ⟨a0,a1,a2,a3,a4,a5,a6,a7,a8,a9,bB,bC,a12,bJ,bO,bQ⟩ l).getD 15 d=bQ:=rfl
theorem Bt(a0 a1 a2 a3 a4 a5 a6 a7 a8 a9 bB bC a12 bJ bO bQ:DV)(l:List DV)(d:DV):(rc ⟨a0,a1,a2,a3,a4,a5,a6,a7,a8,a9,bB,bC,a12,bJ,bO,bQ⟩ l).set 15 d=rc ⟨a0,a1,a2,a3,a4,a5,a6,a7,a8,a9,bB,bC,a12,bJ,bO,d⟩ l:=rfl
theorem MF(a0 a1 a2 a3 a4 a5 a6 a7 a8 a9 bB bC a12 bJ bO bQ:DV)(l:List DV)(i:Nat)(js:List Nat):sq (rc ⟨a0,a1,a2,a3,a4,a5,a6,a7,a8,a9,bB,bC,a12,bJ,bO,bQ⟩ l) i js=sq (a0::a1::a2::a3::a4::a5::a6::a7::a8::a9::bB::bC::a12::bJ::bO::bQ::l) i js:=rfl
theorem Lr(a0 a1 a2 a3 a4 a5 a6 a7 a8 a9 bB bC a12 bJ bO bQ:DV)(l:List DV):cD (a0::a1::a2::a3::a4::a5::a6::a7::a8::a9::bB::bC::a12::bJ::bO::bQ::l)=rc ⟨a0,a1,a2,a3,a4,a5,a6,a7,a8,a9,bB,bC,a12,bJ,bO,bQ⟩ (cD l):=rfl
theorem Mf:cD []=[]:=rfl
theorem Ny(a0:DV):cD [a0]=[a0]:=rfl
theorem Mj(a0 a1:DV):cD [a0,a1]=[a0,a1]:=rfl
theorem L7(a0 a1 a2:DV):cD [a0,a1,a2]=[a0,a1,a2]:=rfl
theorem Mn(a0 a1 a2 a3:DV):cD [a0,a1,a2,a3]=[a0,a1,a2,a3]:=rfl
theorem Me(a0 a1 a2 a3 a4:DV):cD [a0,a1,a2,a3,a4]=[a0,a1,a2,a3,a4]:=rfl
theorem ND(a0 a1 a2 a3 a4 a5:DV):cD [a0,a1,a2,a3,a4,a5]=[a0,a1,a2,a3,a4,a5]:=rfl
theorem MX(a0 a1 a2 a3 a4 a5 a6:DV):cD [a0,a1,a2,a3,a4,a5,a6]=[a0,a1,a2,a3,a4,a5,a6]:=rfl
theorem Nu(a0 a1 a2 a3 a4 a5 a6 a7:DV):cD [a0,a1,a2,a3,a4,a5,a6,a7]=[a0,a1,a2,a3,a4,a5,a6,a7]:=rfl
theorem LS(a0 a1 a2 a3 a4 a5 a6 a7 a8:DV):cD [a0,a1,a2,a3,a4,a5,a6,a7,a8]=[a0,a1,a2,a3,a4,a5,a6,a7,a8]:=rfl
theorem Ja(a0 a1 a2 a3 a4 a5 a6 a7 a8 a9:DV):cD [a0,a1,a2,a3,a4,a5,a6,a7,a8,a9]=[a0,a1,a2,a3,a4,a5,a6,a7,a8,a9]:=rfl
theorem Iw(a0 a1 a2 a3 a4 a5 a6 a7 a8 a9 bB:DV):cD [a0,a1,a2,a3,a4,a5,a6,a7,a8,a9,bB]=[a0,a1,a2,a3,a4,a5,a6,a7,a8,a9,bB]:=rfl
theorem I0(a0 a1 a2 a3 a4 a5 a6 a7 a8 a9 bB bC:DV):cD [a0,a1,a2,a3,a4,a5,a6,a7,a8,a9,bB,bC]=[a0,a1,a2,a3,a4,a5,a6,a7,a8,a9,bB,bC]:=rfl
theorem I2(a0 a1 a2 a3 a4 a5 a6 a7 a8 a9 bB bC a12:DV):cD [a0,a1,a2,a3,a4,a5,a6,a7,a8,a9,bB,bC,a12]=[a0,a1,a2,a3,a4,a5,a6,a7,a8,a9,bB,bC,a12]:=rfl
theorem Ji(a0 a1 a2 a3 a4 a5 a6 a7 a8 a9 bB bC a12 bJ:DV):cD [a0,a1,a2,a3,a4,a5,a6,a7,a8,a9,bB,bC,a12,bJ]=[a0,a1,a2,a3,a4,a5,a6,a7,a8,a9,bB,bC,a12,bJ]:=rfl
theorem It(a0 a1 a2 a3 a4 a5 a6 a7 a8 a9 bB bC a12 bJ bO:DV):cD [a0,a1,a2,a3,a4,a5,a6,a7,a8,a9,bB,bC,a12,bJ,bO]=[a0,a1,a2,a3,a4,a5,a6,a7,a8,a9,bB,bC,a12,bJ,bO]:=rfl
attribute [go_sem] Hp GA Ex Hb Fo FB Ep DE F9 D9 FJ GL Hw GU Gp Df De E4 FX Fg DG Gs A7 BH CS AY Gi CW C0 BD B4 BF CF BE Bt MF Lr Mf Ny Mj L7 Mn Me ND MX Nu LS Ja Iw I0 I2 Ji It
end Aml
namespace Aml
open Go Go.RowKit
def kU(P:Program)(w0:W0)(S:St)(ops:Array Oper)(K:List DV→St→Prop):List Oper→List DV→Prop
 |[],fr=>K fr S
 |o::rest,fr=>cc (mD o.op)
  (bE ops fr o.guard (fun fr=>aV P w0 o.op fr S fun d=>kU P w0 S ops K rest (pt fr o.dst d)) (fun fr=>kU P w0 S ops K rest (pt fr o.dst ud)))
  (oG P w0 ops K (o::rest) fr S)
section
variable {P:Program} {w0:W0}
theorem lp{S:St}{ops:Array Oper}{K:List DV→St→Prop}:∀{l:List Oper} {fr:List DV},l.all (fun o=>eY o.op)=true→kU P w0 S ops K l fr→LQ P w0 S ops (fun fr=>oG P w0 ops K (l.drop (kv l)) fr S) (l.take (kv l)) fr
 |[],fr,_,h=>h
 |o::rest,fr,hs,h=>by
  simp only[Zh,Xe]at hs;unfold kU cc at h
  cases hq:mD o.op with
  |true=>
   rw[hq]at h;simp only at h;have e:kv (o::rest)=kv rest+1:=by simp[kv,List.takeWhile_cons,hq]
   rw[e,List.take_succ_cons,List.drop_succ_cons];refine gM (fun fr h=>?_) (fun fr h=>lp hs.2 h) h;obtain⟨d,q1,q2⟩:=jo hs.1 h;exact⟨d,q1,lp hs.2 q2⟩
  |false=>
   rw[hq]at h;have e:kv (o::rest)=0:=by simp[kv,List.takeWhile_cons,hq]
   rw[e];exact h
theorem zi{S:St}{a b:Array Oper}{K:List DV→Prop}:∀{l:List Oper} {fr:List DV},(∀o,o∈l→∀j want,o.guard=some (j,want)→a[j]? =b[j]?)→LQ P w0 S a K l fr→LQ P w0 S b K l fr
 |[],fr,_,h=>h
 |o::rest,fr,hg,h=>by
  have h':bE a fr o.guard (fun fr=>∃d,QY P w0 S o fr d∧LQ P w0 S b K rest (pt fr o.dst d)) (fun fr=>LQ P w0 S b K rest (pt fr o.dst ud)):=
   gM (fun fr ⟨d,q1,q2⟩=>⟨d,q1,zi (fun o ho=>hg o (Xj _ ho)) q2⟩) (fun fr h=>zi (fun o ho=>hg o (Xj _ ho)) h) h
  unfold bE at h';show bE b fr o.guard _ _;unfold bE
  cases hgo:o.guard with
  |none=>rw[hgo]at h';exact h'
  |some p=>
   obtain⟨j,want⟩:=p;rw[hgo]at h';simp only at h' ⊢;rw[←hg o Xm j want hgo];exact h'
theorem A9{id:Nat}{l:List Oper}{fr:List DV}{S:St}{Q:Exit→List DV→St→Prop}(hm:P.follows .mixedOrders=true)(hB:Region.lexB .any (l.take (kv l)).toArray=true)(hT:nz .any l.toArray (kv l)=true)(hs:l.all (fun o=>eY o.op)=true)
 (h:kU P w0 S l.toArray (fun fr S=>Q .normal fr S) l fr):fF P w0 (.region id l.toArray true) fr S Q:=by
 have hn:kv l≤l.length:=by
  unfold kv;exact List.Sublist.length_le (List.takeWhile_sublist _)
 refine CT (kv l) hn hm hB hT hs (zi ?_ (lp hs h));intro o ho j want hg;simp only[nz,Xe]at hT;have:=Xv.1 hT.2 o (by simpa using ho);simp only[hg,decide_eq_true_eq]at this;simp[XY,this]
def AL(P:Program)(w0:W0)(fr:List DV)(S:St)[c:Cn (Code×(Exit→List DV→St→Prop))]:Prop:=fF P w0 c.k.1 fr S c.k.2
def vw(P:Program)(w0:W0)(ss:List Nat):Code→List DV→St→(Exit→List DV→St→Prop)→Prop
 | .skip,fr,S,Q=>Q .normal fr S
 | .seq x y,fr,S,Q=>vw P w0 ss x fr S (fV (fun fr S=>vw P w0 ss y fr S Q) Q)
 | .cond c x y,fr,S,Q=>cn (ev fr c) (vw P w0 ss x fr S Q) (vw P w0 ss y fr S Q)
 | .block n c,fr,S,Q=>cc (ss.contains (n+1000)) (@AL P w0 fr S ⟨((.block n c),Q)⟩) (vw P w0 ss c fr S (eC n Q))
 | .exit n,fr,S,Q=>Q (.exit n) fr S
 | .ret,fr,S,Q=>Q .ret fr S
 | .region n ops dr,fr,S,Q=>cc (ss.contains n) (@AL P w0 fr S ⟨((.region n ops dr),Q)⟩)
  (cc dr (kU P w0 S ops (fun fr S=>Q .normal fr S) ops.toList fr) (oG P w0 ops (fun fr S=>Q .normal fr S) ops.toList fr S))
 |c,fr,S,Q=>@AL P w0 fr S ⟨(c,Q)⟩
/- How it goes. -/
section
variable {P:Program} {w0:W0} {ss:List Nat} {fr:List DV} {S:St} {Q:Exit→List DV→St→Prop}
theorem AH:vw P w0 ss .skip fr S Q=Q .normal fr S:=rfl
theorem Da(x y:Code):vw P w0 ss (.seq x y) fr S Q=vw P w0 ss x fr S (fV (fun fr S=>vw P w0 ss y fr S Q) Q):=rfl
theorem Ba(c:Operand)(x y:Code):vw P w0 ss (.cond c x y) fr S Q=cn (ev fr c) (vw P w0 ss x fr S Q) (vw P w0 ss y fr S Q):=rfl
theorem xp(n:Nat)(c:Code):vw P w0 ss (.block n c) fr S Q=cc (ss.contains (n+1000)) (@AL P w0 fr S ⟨((.block n c),Q)⟩) (vw P w0 ss c fr S (eC n Q)):=rfl
theorem BY(n:Nat):vw P w0 ss (.exit n) fr S Q=Q (.exit n) fr S:=rfl
theorem ED:vw P w0 ss .ret fr S Q=Q .ret fr S:=rfl
def gI(fr:List DV)(F:List DV→Prop):Prop:=F fr
@[congr] theorem RE {fr fr':List DV} {F:List DV→Prop} (h:fr=fr'):gI fr F=gI fr' F:=by cases h;rfl
theorem H8(d:DV)(fr:List DV)(F:List DV→Prop):gI (d::fr) F=F (d::fr):=rfl
theorem xP(r:Ry)(fr:List DV)(F:List DV→Prop):gI (rc r fr) F=F (rc r fr):=rfl
attribute [go_sem ↓] H8 xP
theorem CP(n:Nat)(l:List Oper):vw P w0 ss (.region n l.toArray false) fr S Q=cc (ss.contains n) (@AL P w0 fr S ⟨((.region n l.toArray false),Q)⟩) (oG P w0 l.toArray (fun fr S=>gI fr fun fr=>Q .normal fr S) l fr S):=by simp[vw,cc,gI]
theorem AD(n:Nat)(l:List Oper):vw P w0 ss (.region n l.toArray true) fr S Q=cc (ss.contains n) (@AL P w0 fr S ⟨((.region n l.toArray true),Q)⟩) (kU P w0 S l.toArray (fun fr S=>gI fr fun fr=>Q .normal fr S) l fr):=by simp[vw,cc,gI]
section
variable {ops:Array Oper} {K:List DV→St→Prop} {rest:List Oper} {dst:Option Tmp} {op:Op} {ty:TypeId} {pos:String} {aft:Array Edge}
theorem F2:kU P w0 S ops K [] fr=K fr S:=rfl
theorem B2:kU P w0 S ops K (⟨dst,op,ty,pos,aft,none⟩::rest) fr=cc (mD op) (aV P w0 op fr S fun d=>kU P w0 S ops K rest (pt fr dst d)) (oG P w0 ops K (⟨dst,op,ty,pos,aft,none⟩::rest) fr S):=rfl
theorem AX(j:Nat)(want:Bool):kU P w0 S ops K (⟨dst,op,ty,pos,aft,some (j,want)⟩::rest) fr=cc (mD op) (gK ((ops[j]?).bind (·.dst)) fr want (fun fr=>aV P w0 op fr S fun d=>kU P w0 S ops K rest (pt fr dst d)) (fun fr=>kU P w0 S ops K rest (pt fr dst ud))) (oG P w0 ops K (⟨dst,op,ty,pos,aft,some (j,want)⟩::rest) fr S):=by
 rw[←oU];rfl
end
def KA(l:List Oper)(F:List Oper→Prop):Prop:=F l
@[congr] theorem RQ {l l':List Oper} {F:List Oper→Prop} (h:l=l'):KA l F=KA l' F:=by cases h;rfl
theorem A8(c:Code):vw P w0 ss (.loop c) fr S Q= @AL P w0 fr S ⟨((.loop c),Q)⟩:=rfl
@[congr] theorem VY {c:Code} {fr':List DV} {S':St} (h1:fr=fr') (h2:S=S'):vw P w0 ss c fr S Q=vw P w0 ss c fr' S' Q:=by cases h1;cases h2;rfl
@[congr] theorem Ss {ops:Array Oper} {K:List DV→St→Prop} {l:List Oper} {fr':List DV} {S':St} (h1:fr=fr') (h2:S=S'):kU P w0 S ops K l fr=kU P w0 S' ops K l fr':=by cases h1;cases h2;rfl
@[congr] theorem UE {c:Code} {fr':List DV} {S':St} (h1:fr=fr') (h2:S=S'):fF P w0 c fr S Q=fF P w0 c fr' S' Q:=by cases h1;cases h2;rfl
end
attribute [go_sem] List.contains_nil List.contains_cons
attribute [go_sem ↓] F2 B2 AX AH Da Ba xp BY ED CP AD A8
section
variable {md:Region.Mode} {ops:Array Oper}
def FI(md:Region.Mode)(ops:Array Oper):Nat→List Oper→Bool
 |_,[]=>true
 |k,o::l=>o.after.toList.all (fun e=>!Region.binds md e||decide (e.on<k))&&l.all (fun oj=>oj.after.toList.any (fun e=>Region.binds md e&&e.on==k)||o.apart ops oj)&&FI md ops (k+1) l
theorem p0:∀(l:List Oper) (k:Nat) (listed:Array Bool),(∀j,l[j]? =ops[k+j]?)→listed.size=ops.size→(∀i,i<k→listed[i]? =some true)→(∀i,k≤i→i<ops.size→listed[i]? =some false)→FI md ops k l=true→Region.lexFrom md ops l.length k listed=true
 |[],k,listed,hl,hs,h1,h2,_=>by
  simp only[XP,Region.lexFrom]
  have:Region.ready md ops listed=[]:=List.eq_nil_iff_forall_not_mem.2 fun i hi=>by
   obtain⟨hun,o,ho,_⟩:=mem_ready.1 hi;rw[cf]at hun;rcases XM i k with h|h
   ·rw[h1 i h]at hun;cases hun
   ·have:=hl (i-k);rw[show k+(i-k)=i by omega,ho]at this;simp at this
  rw[this];rfl
 |o::l,k,listed,hl,hs,h1,h2,hG=>by
  have h0:ops[k]? =some o:=by simpa using(hl 0).symm
  have hk:k<ops.size:=(Xf.1 h0).1;simp only[FI,Xe]at hG;obtain⟨⟨ha,hb⟩,hc⟩:=hG;simp only[Xo,Region.lexFrom,Xe]
  have hr:k∈Region.ready md ops listed:=mem_ready.2 ⟨cf.2 (h2 k (Xg _) hk),o,h0,fun e he hbind=>by
   have:=Xv.1 ha e (Array.mem_toList_iff.2 he);rw[hbind]at this;simp at this;exact bZ.2 (h1 _ this)⟩
  refine⟨⟨by simpa using hr,?_⟩,?_⟩
  ·unfold Region.free;rw[h0];simp only[Xv,Yf];intro j hj;rcases Yr j k with h|h|h
   ·have:listed.getD j true=true:=by rw[Xx,h1 j h];rfl
    simp[this]
   ·simp[h]
   ·have hj2:=hl (j-k);rw[show k+(j-k)=j by omega,show j-k=(j-k-1)+1 by omega,Zg]at hj2;rw[←hj2]
    cases hq:l[j-k-1]? with
    |none=>simp
    |some oj=>
     have:=Xv.1 hb oj (Xd hq);simp only[Yw]at this ⊢;refine .inr ?_;rcases this with h|h
     ·refine .inl ?_;obtain⟨e,he,h⟩:=List.any_eq_true.1 h;exact Array.any_eq_true'.2 ⟨e,Array.mem_toList_iff.1 he,h⟩
     ·exact .inr h
  ·refine p0 l (k+1) _ (fun j=>?_) (by simpa using hs) (fun i hi=>?_) (fun i hi hi2=>?_) hc
   ·have:=hl (j+1);simpa[Yg,YP 1 j]using this
   ·rw[Xz];by_cases h:k=i
    ·subst h;rw[if_pos rfl,if_pos (by omega)]
    ·rw[if_neg h];exact h1 i (by omega)
   ·rw[Xz,if_neg (by omega)];exact h2 i (by omega) hi2
theorem yL{l:List Oper}(hs:Region.noSelect l.toArray=true)(h:FI md l.toArray 0 l=true):Region.lexB md l.toArray=true:=by
 unfold Region.lexB;rw[hs,YE];have:=p0 (md:=md) (ops:=l.toArray) l 0 (Array.replicate l.toArray.size false) (fun j=>by simp) (by simp) (fun i hi=>absurd hi (by omega)) (fun i _ hi=>by rw[Zd,if_pos hi]) h;simpa using this
end
def pc(ss:List Nat):Code→Bool
 | .seq x y=>pc ss x&&pc ss y
 | .cond _ x y=>pc ss x&&pc ss y
 | .block n c=>ss.contains (n+1000)||pc ss c
 | .region n ops false=>ss.contains n||ops.toList.all (fun o=>eY o.op)
 | .region n ops true=>ss.contains n||(ops.toList.all (fun o=>eY o.op)&&Region.noSelect (ops.toList.take (kv ops.toList)).toArray&&FI .any (ops.toList.take (kv ops.toList)).toArray 0 (ops.toList.take (kv ops.toList))&&nz .any ops (kv ops.toList))
 |_=>true
theorem aS{ss:List Nat}(hm:P.follows .mixedOrders=true):∀(c:Code) {fr:List DV} {S:St} {Q:Exit→List DV→St→Prop},pc ss c=true→vw P w0 ss c fr S Q→fF P w0 c fr S Q
 | .skip,fr,S,Q,_,h=>Hf h
 | .seq x y,fr,S,Q,ho,h=>by
  simp only[pc,Xe]at ho;exact JV ((aS hm x ho.1 h).mono fun e fr S hq=>by cases e <;>first|exact aS hm y ho.2 hq|exact hq)
 | .cond c x y,fr,S,Q,ho,h=>by
  simp only[pc,Xe]at ho;exact GJ (xj (fun h=>aS hm x ho.1 h) (fun h=>aS hm y ho.2 h) h)
 | .block n c,fr,S,Q,ho,h=>by
  unfold vw cc at h;unfold pc at ho;split at h
  ·exact h
  ·rename_i hn;rw[hn,YT]at ho;exact Cj (aS hm c ho h)
 | .exit n,fr,S,Q,_,h=>FE h
 | .ret,fr,S,Q,_,h=>Ix h
 | .region n ops false,fr,S,Q,ho,h=>by
  unfold vw at h;unfold cc at h;unfold pc at ho;split at h
  ·exact h
  rename_i hn;rw[hn,YT]at ho;simp only at h;have:=fN _ ho h;have:=xc (id:=n) (l:=ops.toList) this;simpa using this
 | .region n ops true,fr,S,Q,ho,h=>by
  unfold vw at h;unfold cc at h;unfold pc at ho;split at h
  ·exact h
  rename_i hn;rw[hn,YT]at ho;simp only[Xe]at ho;simp only at h;have:=A9 (id:=n) (l:=ops.toList) (fr:=fr) (S:=S) (Q:=Q) hm (yL ho.1.1.2 ho.1.2) ho.2 ho.1.1.1 h;simpa using this
 | .loop c,fr,S,Q,_,h=>h
 | .rangeFunc f ps a b,fr,S,Q,_,h=>h
 | .scope c,fr,S,Q,_,h=>h
 | .label l,fr,S,Q,_,h=>h
 | .goto l,fr,S,Q,_,h=>h
 | .refuse w,fr,S,Q,_,h=>h
theorem jj(ss:List Nat){f:FuncId}{fn:Func}{c:Code}{rs:List ResultVar}{args:List DV}{S:St}{K:DV→St→Prop}(hm:P.follows .mixedOrders=true)(hf:P.funcs[f]? =some fn)(hb:fn.body=some c)(hrs:fn.results=rs.toArray)(hc:pc ss c=true)
 (h:vw P w0 ss c (cD (args++List.replicate (fn.ntmps-args.length) ud)) S fun e fr S'=>(e= .normal∨e= .ret)∧ky P fr S' rs fun d=>K d S'):aa P w0 f args S K:=
 pK hf hb hrs (aS hm c hc h)
end
end Aml
namespace Aml
open Go Go.RowKit
def Wk(d e:DV):Prop:=∀g u,aA g d u→aA g e u
def eW:List DV→List DV→Prop
 |[],[]=>True
 |d::ds,e::es=>Wk d e∧eW ds es
 |_,_=>False
theorem Wk.refl(d:DV):Wk d d:=fun _ _ h=>h
theorem Wk.trans{a b c:DV}(h:Wk a b)(k:Wk b c):Wk a c:=fun g u r=>k g u (h g u r)
theorem Wk.any(d:DV):Wk d .any:=fun g u _=> .any u
theorem Wk.nil(s s':Nat)(f:Bool):Wk (.sl s true []) (.sl s' f []):=fun g u r=>by
 obtain⟨o,h⟩:=cA r;rw[h];exact .nil _ _ _ _ fun _=>rfl
theorem Wk.Tq(s s':Nat)(f:Bool):Wk (.sl s f []) (.sl s' false []):=fun g u r=>by
 rcases fa r with⟨_,o',c,hv,hf⟩|⟨b,o',c',us,hv',hl,_⟩
 ·rw[hv];exact .nil _ _ _ _ (by simp)
 ·have:us=[]:=Xt (by have:=hl.len;simpa using this.symm);rw[hv'];exact .nil _ _ _ _ (by simp)
theorem Wk.full(s:Nat)(f:Bool)(xs:List DV):Wk (.sl s f xs) (.sl s false xs):=fun g u r=>by
 cases r with
 |nil _ _ o c hc=>exact .nil _ _ _ _ (by simp)
 |sl _ _ _ b o c us hl hf hc hm hr hz h1 hi=>exact .sl _ _ _ _ _ _ us hl (by simp) hc hm hr hz h1 hi
theorem eW.refl:∀ds,eW ds ds
 |[]=>trivial
 |d::ds=>⟨.refl d,eW.refl ds⟩
theorem eW.spec:∀{ds es:List DV},eW ds es→∀{g:Gh} {us:List Value},ae g ds us→ae g es us
 |[],[],_,_,_,r=>r
 |d::ds,e::es,h,g,us,r=>by
  obtain⟨u,us',rfl,r1,r2⟩:=r.cH;exact ae.cons (h.1 _ _ r1) (eW.spec h.2 r2)
theorem eW.length:∀{ds es:List DV},eW ds es→ds.length=es.length
 |[],[],_=>rfl
 |d::ds,e::es,h=>by simp[eW.length h.2]
theorem eW.trans:∀{a b c:List DV},eW a b→eW b c→eW a c
 |[],[],[],_,_=>trivial
 |_::_,_::_,_::_,h,k=>⟨h.1.trans k.1,h.2.trans k.2⟩
theorem Wk.agg{ds es:List DV}(h:eW ds es):Wk (.agg ds) (.agg es):=fun g u r=>by
 cases r with
 |agg _ us hl hr h1=>
  have:=h.spec (g:=g) (us:=us) ⟨hl,hr⟩;exact .agg _ _ this.len this.at_ h1
theorem Wk.cK{ds es:List DV}(h:eW ds es):Wk (.cK ds) (.cK es):=fun g u r=>by
 cases r with
 |cK _ us hl hr=>
  have:=h.spec (g:=g) (us:=us) ⟨hl,hr⟩;exact .cK _ _ this.len this.at_
theorem Wk.ij{t:TypeId}{d e:DV}(h:Wk d e):Wk (.ij t d) (.ij t e):=fun g u r=>by
 cases r with
 |ij _ _ u r=>exact .ij _ _ _ (h _ _ r)
theorem Wk.sl{s:Nat}{f:Bool}{xs ys:List DV}(h:eW xs ys):Wk (.sl s f xs) (.sl s f ys):=fun g u r=>by
 cases r with
 |nil _ _ o c hc=>
  cases ys with
  |nil=>exact .nil _ _ _ _ hc
  |cons y ys=>exact h.elim
 |sl _ _ _ b o c us hl hf hc hm hr hz h1 hi=>
  have:=h.spec (g:=g) (us:=us) ⟨hl,hr⟩;exact .sl _ _ _ _ _ _ us this.len hf hc hm this.at_ hz h1 hi
theorem eW.map{α:Type}{f g:α→DV}(h:∀a,Wk (f a) (g a)):∀(l:List α),eW (l.map f) (l.map g)
 |[]=>trivial
 |a::l=>⟨h a,eW.map h l⟩
theorem eW.nil:eW [] []:=trivial
theorem eW.cons{d e:DV}{ds es:List DV}(h:Wk d e)(k:eW ds es):eW (d::ds) (e::es):=⟨h,k⟩
theorem F4(d e:DV)(ds es:List DV):eW (d::ds) (e::es)=(Wk d e∧eW ds es):=rfl
theorem HR:eW [] []=True:=rfl
theorem Ot(a0 a1 a2 a3 a4 a5 a6 a7 a8 a9 bB bC a12 bJ bO bQ:DV)(b0 b1 b2 b3 b4 b5 b6 b7 b8 b9 b10 b11 b12 b13 b14 b15:DV)(l m:List DV):eW (rc ⟨a0,a1,a2,a3,a4,a5,a6,a7,a8,a9,bB,bC,a12,bJ,bO,bQ⟩ l) (rc ⟨b0,b1,b2,b3,b4,b5,b6,b7,b8,b9,b10,b11,b12,b13,b14,b15⟩ m)=(Wk a0 b0∧Wk a1 b1∧Wk a2 b2∧Wk a3 b3∧Wk a4 b4∧Wk a5 b5∧Wk a6 b6∧Wk a7 b7∧Wk a8 b8∧Wk a9 b9∧Wk bB b10∧Wk bC b11∧Wk a12 b12∧Wk bJ b13∧Wk bO b14∧Wk bQ b15∧eW l m):=rfl
theorem HW(d:DV):Wk d d=True:=eq_true (.refl d)
theorem Og{u u':Value}(h:u.oneCell'=true):Wk (.v u) (.v u')↔u=u':=
 ⟨fun k=>by have:=k ⟨fun _ _=>none,fun _ _=>none,fun _=>none,[]⟩ u (.v u h);cases this;rfl,fun e=>e▸ .refl _⟩
theorem NV(k:IntKind)(a b:Int):Wk (.v (.int k a)) (.v (.int k b))=(a=b):=propext ((Og rfl).trans ⟨fun h=>(Value.int.inj h).2,fun h=>by rw[h]⟩)
theorem Kf(a b:Bool):Wk (.v (.bool a)) (.v (.bool b))=(a=b):=propext ((Og rfl).trans ⟨fun h=>Value.bool.inj h,fun h=>by rw[h]⟩)
theorem LJ(a b:ByteArray):Wk (.v (.string a)) (.v (.string b))=(a=b):=propext ((Og rfl).trans ⟨fun h=>Value.string.inj h,fun h=>by rw[h]⟩)
theorem NZ(s s':Nat)(f:Bool):Wk (.sl s true []) (.sl s' f [])=True:=eq_true (.nil s s' f)
section
variable {P:Program} {w0:W0}
theorem iD{f:FuncId}{args args':List DV}{S:St}{K K':DV→St→Prop}(h:aa P w0 f args' S K')(ha:eW args args')(hk:∀d S',K' d S'→∃e,Wk d e∧K e S'):aa P w0 f args S K:=
 fun g vs w h1 h2=>(h g vs w h1 (ha.spec h2)).mono fun e w' k=>k.imp (.refl _) fun r g' d S' q2 q3 q4 q5=>
  let⟨e',k1,k2⟩:=hk _ _ q5
  ⟨g',e',S',q2,q3,k1 _ _ q4,k2⟩
theorem nk{f:FuncId}{args args':List DV}{S:St}{K:DV→St→Prop}{r:DV}(h:aa P w0 f args' S (fun d S'=>d=r∧S'=S))(ha:eW args args')(hk:K r S):aa P w0 f args S K:=
 iD h ha fun d S' ⟨h1,h2⟩=>⟨d,.refl d,by rw[h1,h2];exact hk⟩
theorem aw{f:FuncId}{args args':List DV}{S:St}{K:DV→St→Prop}{r:DV}(h:aa P w0 f args' S (fun d S'=>d=r∧S'=S))(hk:K r S)(ha:eW args args':=by exact eW.refl _):@AC P w0 f args S ⟨K⟩:=nk h ha hk
theorem aj{f:FuncId}{args args':List DV}{S:St}{K K':DV→St→Prop}(h:aa P w0 f args' S K')(hk:∀d S',K' d S'→K d S')(ha:eW args args':=by exact eW.refl _):@AC P w0 f args S ⟨K⟩:=iD h ha fun d S' q=>⟨d,.refl d,hk d S' q⟩
theorem df{f:FuncId}{args args':List DV}{S:St}{K:DV→Prop}{r:DV}(h:aa P w0 f args' S (fun d S'=>d=r∧S'=S))(hk:K r)(ha:eW args args':=by exact eW.refl _):@QC P w0 f args S ⟨K⟩:=
 ⟨r,nk h ha ⟨rfl,rfl⟩,hk⟩
structure Sub(S S':St):Prop where
 box:S.box.Sublist S'.box
 acc:S.acc.Sublist S'.acc
theorem Sub.refl(S:St):Sub S S:=⟨List.Sublist.refl _,List.Sublist.refl _⟩
theorem Sub.aP{S:St}{B:List (Nat×List DV)}{A:List (Nat×Ob)}{x:Nat×List DV}(h:Sub S ⟨B,A⟩):Sub S ⟨x::B,A⟩:=⟨h.box.cons _,h.acc⟩
theorem Sub.qy{S:St}{B:List (Nat×List DV)}{A:List (Nat×Ob)}{x:Nat×Ob}(h:Sub S ⟨B,A⟩):Sub S ⟨B,x::A⟩:=⟨h.box,h.acc.cons _⟩
theorem Sub.Q5{B B':List (Nat×List DV)}{A A':List (Nat×Ob)}{x:Nat×Ob}(h:Sub ⟨B,A⟩ ⟨B',A'⟩):Sub ⟨B,x::A⟩ ⟨B',x::A'⟩:=⟨h.box,h.acc.cons_cons _⟩
theorem EU(S:St):Sub S S=True:=eq_true (.refl S)
theorem M0{B B':List (Nat×List DV)}{A A':List (Nat×Ob)}(x:Nat×Ob)(h:Sub ⟨B,A⟩ ⟨B',A'⟩):Sub ⟨B,x::A⟩ ⟨B',x::A'⟩=True:=eq_true h.Q5
theorem Lu(S:St){B:List (Nat×List DV)}{A:List (Nat×Ob)}(x:Nat×List DV)(h:Sub S ⟨B,A⟩):Sub S ⟨x::B,A⟩=True:=eq_true h.aP
theorem Ms(S:St){B:List (Nat×List DV)}{A:List (Nat×Ob)}(x:Nat×Ob)(h:Sub S ⟨B,A⟩):Sub S ⟨B,x::A⟩=True:=eq_true h.qy
def o5:List Nat→List DV→St→(List DV→St→Prop)→Prop
 |[],fr,S,K=>K fr S
 |i::is,fr,S,K=>oK (fr[i]?) fun d=>shr S d fun d S=>o5 is (fr.set i d) S K
theorem B9(fr:List DV)(S:St)(K:List DV→St→Prop):o5 [] fr S K=K fr S:=rfl
theorem yo(i:Nat)(is:List Nat)(fr:List DV)(S:St)(K:List DV→St→Prop):o5 (i::is) fr S K=oK (fr[i]?) fun d=>shr S d fun d S=>o5 is (fr.set i d) S K:=rfl
theorem wq{K:List DV→St→Prop}:∀(is:List Nat) {fr:List DV} {S:St} {g:Gh} {w:World} {us:List Value},Rel w0 g S w→ae g fr us→o5 is fr S K→∃g' fr' S',g.le g'∧Rel w0 g' S' w∧ae g' fr' us∧K fr' S'
 |[],fr,S,g,w,us,h1,h2,h=>⟨g,fr,S,.refl g,h1,h2,h⟩
 |i::is,fr,S,g,w,us,h1,h2,h=>by
  unfold o5 at h
  cases hi:fr[i]? with
  |none=>rw[hi]at h;exact h.elim
  |some d=>
   rw[hi,rE]at h;have hlt:i<us.length:=by rw[←h2.len];exact(Xc.1 hi).1
   have hr:=h2.at_ i _ _ hi (Xb hlt);obtain⟨g1,d',S1,k1,k2,k3,k4⟩:=jJ h1 hr h;obtain⟨g2,fr2,S2,q1,q2,q3,q4⟩:=wq is k2 (fL (h2.mono k1) (Xb hlt) k3) k4;exact⟨g2,fr2,S2,k1.trans q1,q2,q3,q4⟩
theorem Lp{σ:Type}(live:List Nat)(cG:σ→List (Nat×DV))(st:σ→St)(inv:σ→Prop)(meas:σ→Nat)(s0:σ){c:Code}{fr:List DV}{S:St}{Q:Exit→List DV→St→Prop}
 (h0:inv s0∧eW (wk live fr) (kq (wk live fr) (cG s0))∧Sub (st s0) S)
 (round:∀s,inv s→fF P w0 c (kq (wk live fr) (cG s)) (st s) (fV (fun fr' S'=>∃s',inv s'∧meas s'<meas s∧eW (wk live fr') (kq (wk live fr) (cG s'))∧Sub (st s') S') Q)):
 fF P w0 (.loop c) fr S Q:=by
 intro g a w h1 h2 h3;refine l6 (fun m a w=>Dk w0 g a w∧∃g' s,g.le g'∧Rel w0 g' (st s) w∧ae g' (kq (wk live fr) (cG s)) a.tmps.toList∧inv s∧meas s=m) (m:=meas s0) ⟨h3,g,s0,.refl g,h1.forget h0.2.2.box h0.2.2.acc,h0.2.1.spec (gS live h2),h0.1,rfl⟩ ?_;rintro m a w ⟨hd,g',s,k1,k2,k3,k4,rfl⟩;refine aR (round s k4 g' a w k2 k3 (k1.dk hd)) ?_;rintro e a' w' ⟨hd',g'',fr'',S'',q1,q2,q3,q4⟩
 cases e with
 |normal=>
  obtain⟨s',hi,hm,hf,hS⟩:=q4;exact⟨meas s',hm,k1.kd hd',g'',s',k1.trans q1,q2.forget hS.box hS.acc,hf.spec (gS live q3),hi,rfl⟩
 |exit n=>exact⟨k1.kd hd',g'',fr'',S'',k1.trans q1,q2,q3,q4⟩
 |goto n=>exact⟨k1.kd hd',g'',fr'',S'',k1.trans q1,q2,q3,q4⟩
 |ret=>exact⟨k1.kd hd',g'',fr'',S'',k1.trans q1,q2,q3,q4⟩
 |panic ch=>exact⟨k1.kd hd',g'',fr'',S'',k1.trans q1,q2,q3,q4⟩
 |outgrown=>exact⟨k1.kd hd',g'',fr'',S'',k1.trans q1,q2,q3,q4⟩
theorem cY{σ:Type}(ss:List Nat:=[])(live:List Nat)(cG:σ→List (Nat×DV))(st:σ→St)(inv:σ→Prop)(meas:σ→Nat)(s0:σ){c:Code}{fr:List DV}{S:St}{Q:Exit→List DV→St→Prop}(hm:P.follows .mixedOrders=true)(hc:pc ss c=true)
 (h0:inv s0∧eW (wk live fr) (kq (wk live fr) (cG s0))∧Sub (st s0) S)
 (round:∀s,inv s→vw P w0 ss c (kq (wk live fr) (cG s)) (st s) (fV (fun fr' S'=>∃s',inv s'∧meas s'<meas s∧eW (wk live fr') (kq (wk live fr) (cG s'))∧Sub (st s') S') Q)):
 fF P w0 (.loop c) fr S Q:=Lp live cG st inv meas s0 h0 fun s hs=>aS hm c hc (round s hs)
theorem yc{σ:Type}(ss:List Nat:=[])(live:List Nat)(cG:σ→List (Nat×DV))(st:σ→St)(inv:σ→Prop){c:Code}{fr:List DV}{S:St}{Q:Exit→List DV→St→Prop}(hm:P.follows .mixedOrders=true)(hc:pc ss c=true)
 (h1:vw P w0 ss c fr S (fV (fun fr' S'=>∃s,inv s∧eW (wk live fr') (kq (wk live fr) (cG s))∧Sub (st s) S') Q))
 (h2:∀s,inv s→Q .normal (kq (wk live fr) (cG s)) (st s)):fF P w0 c fr S Q:=by
 intro g a w q1 q2 q3;refine aR (aS hm c hc h1 g a w q1 q2 q3) ?_;rintro e a' w' ⟨hd,g',fr',S',k1,k2,k3,k4⟩
 cases e with
 |normal=>
  obtain⟨s,hi,hw,hS⟩:=k4;exact⟨hd,g',_,_,k1,k2.forget hS.box hS.acc,hw.spec (gS live k3),h2 s hi⟩
 |exit n=>exact⟨hd,g',fr',S',k1,k2,k3,k4⟩
 |goto n=>exact⟨hd,g',fr',S',k1,k2,k3,k4⟩
 |ret=>exact⟨hd,g',fr',S',k1,k2,k3,k4⟩
 |panic ch=>exact⟨hd,g',fr',S',k1,k2,k3,k4⟩
 |outgrown=>exact⟨hd,g',fr',S',k1,k2,k3,k4⟩
theorem LW(ss:List Nat:=[]){c:Code}{fr:List DV}{S:St}{Q:Exit→List DV→St→Prop}(hm:P.follows .mixedOrders=true)(hc:pc ss c=true)(h:vw P w0 ss c fr S Q):fF P w0 c fr S Q:=aS hm c hc h
theorem aX(ss:List Nat:=[])(n:Nat)(live:List Nat)(cG:Nat→List (Nat×DV))(st:Nat→St)(inv:Nat→Prop){c:Code}{fr:List DV}{S:St}{Q:Exit→List DV→St→Prop}(hm:P.follows .mixedOrders=true)(hc:pc ss c=true)
 (h0:inv 0∧eW (wk live fr) (kq (wk live fr) (cG 0))∧Sub (st 0) S)
 (round:∀k,k≤n→inv k→vw P w0 ss c (kq (wk live fr) (cG k)) (st k) (fV (fun fr' S'=>k<n∧inv (k+1)∧eW (wk live fr') (kq (wk live fr) (cG (k+1)))∧Sub (st (k+1)) S') Q)):
 fF P w0 (.loop c) fr S Q:=by
 refine Lp live cG st (fun k=>k≤n∧inv k) (fun k=>n-k) 0 ⟨⟨XR _,h0.1⟩,h0.2⟩ ?_;rintro k ⟨h1,h2⟩;refine(aS hm c hc (round k h1 h2)).mono ?_;intro e fr' S' q
 cases e with
 |normal=>
  obtain⟨q1,q2,q3,q4⟩:=q;exact⟨k+1,⟨q1,q2⟩,by omega,q3,q4⟩
 |exit n=>exact q
 |goto n=>exact q
 |ret=>exact q
 |panic ch=>exact q
 |outgrown=>exact q
theorem cb(ss:List Nat:=[]){f:FuncId}{fn:Func}{c:Code}{rs:List ResultVar}{args:List DV}{S:St}{r:DV}(hm:P.follows .mixedOrders=true)(hf:P.funcs[f]? =some fn)(hb:fn.body=some c)(hrs:fn.results=rs.toArray)(hc:pc ss c=true)
 (h:vw P w0 ss c (cD (args++List.replicate (fn.ntmps-args.length) ud)) S fun e fr S'=>(e= .normal∨e= .ret)∧ky P fr S' rs fun d=>oc S' d fun d S''=>Wk d r∧Sub S S''):aa P w0 f args S (fun d S'=>d=r∧S'=S):=by
 have h1:aa P w0 f args S (fun d S'=>oc S' d fun d S''=>Wk d r∧Sub S S''):=pK hf hb hrs (aS hm c hc h);intro g vs w k1 k2;refine(h1 g vs w k1 k2).mono ?_;intro e w' k;refine k.imp (.refl _) ?_;rintro v g' d S' q2 q3 q4 q5;obtain⟨g2,d',S2,p1,p2,p3,p4,p5⟩:=zY q3 q4 q5;exact⟨g2,r,S,q2.trans p1,p2.forget p5.box p5.acc,p4 _ _ p3,rfl,rfl⟩
theorem _root_.Aml.Rel.Ld{g:Gh}{S:St}{w:World}(h:Rel w0 g S w){b:Nat}{ds ds':List DV}(hl:lk S.box b=some ds)(hw:∀us e,w.heap[b]? =some (.cells us e (0,0))→ae g ds us.toList→ae g ds' us.toList):Rel w0 g ⟨up S.box b ds',S.acc⟩ w:=by
 refine⟨h.below,h.aO,by rw[lg];exact h.nb,h.na,h.dt,h.fresh,h.top,?_⟩;obtain⟨ow,o1,o2⟩:=h.own;refine⟨ow,fun b' e hm=>?_,o2⟩;rcases fk h.nb hm with he|⟨hm,_⟩
 ·cases he;obtain⟨q1,q2,q3,us,e,q4,q5,q6⟩:=o1 _ _ (bR hl);exact⟨q1,q2,q3,us,e,q4,hw _ _ q4 q5,q6⟩
 ·exact o1 _ _ hm
theorem fR(b j s:Nat)(hs:0<s){c:Code}{fr:List DV}{S:St}{Q:Exit→List DV→St→Prop}{ds:List DV}{s0:Nat}(hb:lk S.box b=some ds)(hi:ds[j]? =some (.sl s0 true []))
 (h:∀l:FN S.acc,fF P w0 c fr ⟨up S.box b (ds.set j (.acc l.n 0)),(l.n,.arr s [])::S.acc⟩ Q):fF P w0 c fr S Q:=by
 intro g a w h1 h2 h3;obtain⟨ow,o1,o2⟩:=h1.own;obtain⟨q1,q2,q3,us,e,q4,q5,q6⟩:=o1 _ _ (bR hb);have hlt:j<us.toList.length:=by rw[←q5.len];exact(Xc.1 hi).1
 have hr:=q5.at_ j _ _ hi (Xb hlt);have hr':aA g (.sl s true []) us.toList[j]:=by obtain⟨o',ho'⟩:=cA hr;rw[ho'];exact .nil _ _ _ _ fun _=>rfl
 obtain⟨l,g',hle,hne,hR,hA⟩:=h1.qT hs hr' (.arr s []) (.inr ⟨rfl,rfl⟩);have hR':=hR.Ld (ds':=ds.set j (.acc l 0)) (b:=b) hb ?_
 ·exact aR (h ⟨l,ca hne⟩ g' a w hR' (h2.mono hle) (hle.dk h3)) fun _ _ _ k=>k.of_le hle
 ·intro us' e' hh hr2;rw[hh]at q4;cases q4;exact fL hr2 (Xb hlt) hA
theorem nJ(i s:Nat){c:Code}{fr:List DV}{S:St}{Q:Exit→List DV→St→Prop}{s0:Nat}(hi:fr[i]? =some (.sl s0 true []))(hs:0<s)
 (h:∀l:FN S.acc,fF P w0 c (fr.set i (.acc l.n 0)) ⟨S.box,(l.n,.arr s [])::S.acc⟩ Q):fF P w0 c fr S Q:=GX i s hs hi fun l hl=>h ⟨l,hl⟩
theorem QH(ss:List Nat:=[])(is:List Nat){c:Code}{fr:List DV}{S:St}{Q:Exit→List DV→St→Prop}(hm:P.follows .mixedOrders=true)(hc:pc ss c=true)(h:o5 is fr S fun fr S=>vw P w0 ss c fr S Q):fF P w0 c fr S Q:=by
 intro g a w h1 h2 h3;obtain⟨g',f',S',k1,k2,k3,k4⟩:=wq is h1 h2 h;exact aR (aS hm c hc k4 g' a w k2 k3 (k1.dk h3)) fun _ _ _ k=>k.of_le k1
theorem so{f:FuncId}{args:List DV}{S:St}{K K':DV→St→Prop}(h:aa P w0 f args S K')(s:Nat)(hs:0<s)
 (hk:∀d S',K' d S'→K d S'∨((∃s0,d= .sl s0 true [])∧∀l,il S'.acc l→K (.acc l 0) ⟨S'.box,(l,.arr s [])::S'.acc⟩)):aa P w0 f args S K:=by
 intro g vs w h1 h2;refine(h g vs w h1 h2).mono ?_;intro e w' k;refine k.imp (.refl _) ?_;rintro r g' d S' q2 q3 q4 q5;rcases hk d S' q5 with h|⟨⟨s0,rfl⟩,h⟩
 ·exact⟨g',d,S',q2,q3,q4,h⟩
 ·have hr':aA g' (.sl s true []) r:=by obtain⟨o',ho'⟩:=cA q4;rw[ho'];exact .nil _ _ _ _ fun _=>rfl
  obtain⟨l,g2,hle,hne,hR,hA⟩:=q3.qT hs hr' (.arr s []) (.inr ⟨rfl,rfl⟩);exact⟨g2,_,_,q2.trans hle,hR,hA,h l (ca hne)⟩
theorem Cy{f:FuncId}{args:List DV}{S:St}{xs:List DV}(s:Nat)(hs:0<s)(h:aa P w0 f args S fun d S'=>(xs=[]∧(∃s0,d= .sl s0 true [])∧S'=S)∨∃l:FN S.acc,d= .acc l.n xs.length∧S'=⟨S.box,(l.n,.arr s xs)::S.acc⟩):
 aa P w0 f args S fun d S'=>∃l:FN S.acc,d= .acc l.n xs.length∧S'=⟨S.box,(l.n,.arr s xs)::S.acc⟩:=by
 refine so h s hs ?_;rintro d S' (⟨rfl,⟨s0,rfl⟩,rfl⟩|h)
 ·exact .inr ⟨⟨s0,rfl⟩,fun l hl=>⟨⟨l,hl⟩,rfl,rfl⟩⟩
 ·exact .inl h
end
attribute [go_sem high] EU M0
attribute [go_sem] Ot Lu Ms F4 HR HW NV Kf LJ NZ
attribute [go_sem ↓] B9 yo
structure Wr(P:Prop):Prop where
 h:P
end Aml
namespace Aml
open Go Go.RowKit
section
variable {P:Program} {w0:W0}
theorem JX{fr:List DV}{S:St}{K:DV→St→Prop}(x:Operand):aF P w0 (.panic x) fr S K=po w0 (ev fr x) S:=rfl
theorem vL(t:TypeId)(d:DV)(S:St):po w0 (.ij t d) S=w0.pq (.ij t d) S:=rfl
attribute [go_sem ↓] JX vL
theorem mi(ss:List Nat:=[]){f:FuncId}{fn:Func}{c:Code}{rs:List ResultVar}{args:List DV}{S:St}{K:DV→St→Prop}(hm:P.follows .mixedOrders=true)(hf:P.funcs[f]? =some fn)(hb:fn.body=some c)(hrs:fn.results=rs.toArray)(hc:pc ss c=true)
 (h:vw P w0 ss c (cD (args++List.replicate (fn.ntmps-args.length) ud)) S fun e fr S'=>(e= .normal∨e= .ret)∧ky P fr S' rs fun d=>∃d' S'',Wk d d'∧Sub S'' S'∧K d' S''):aa P w0 f args S K:=by
 have h1:aa P w0 f args S (fun d S'=>∃d' S'',Wk d d'∧Sub S'' S'∧K d' S''):=pK hf hb hrs (aS hm c hc h);intro g vs w k1 k2;refine(h1 g vs w k1 k2).mono ?_;intro e w' k;refine k.imp (.refl _) ?_;rintro v g' d S' q2 q3 q4 ⟨d',S'',p1,p2,p3⟩;exact⟨g',d',S'',q2,q3.forget p2.box p2.acc,p1 _ _ q4,p3⟩
end
end Aml
