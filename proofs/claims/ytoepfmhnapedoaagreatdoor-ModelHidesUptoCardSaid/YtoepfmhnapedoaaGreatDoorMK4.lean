/-
  Part 4 of the proof that the last text ends: from 'Reckoning over statements whose order is open' to 'More forms of functions'. By an AI agent.
-/
import Derived.Test.YtoepfmhnapedoaaGreatDoorMK3
set_option linter.unusedVariables false
set_option linter.unusedSimpArgs false
set_option maxRecDepth 100000
set_option maxHeartbeats 16000000
namespace Aml
open Go Go.RowKit
section
variable {P:Program} {w0:W0} {S:St} {K:DV→Prop}
theorem qb{c a b:DV}(h:gm c a b K):∃d,gm c a b (·=d)∧K d:=by
 unfold gm at*;split at h
 ·rename_i t;cases t
  ·exact⟨b,⟨by simp,fun _=>rfl⟩,h.2 rfl⟩
  ·exact⟨a,⟨fun _=>rfl,by simp⟩,h.1 rfl⟩
 ·exact h.elim
theorem LP{ds:List DV}(h:Of ds K):∃d,Of ds (·=d)∧K d:=by
 unfold Of at*;split at h
 ·exact⟨_,rfl,h⟩
 ·exact h.elim
theorem tK{k:TK}{ds:List DV}(h:nf k ds K):∃d,nf k ds (·=d)∧K d:=by
 unfold nf at*;split at h
 ·exact⟨_,⟨h.1,rfl⟩,h.2⟩
 ·exact⟨_,⟨h.1,rfl⟩,h.2⟩
 ·exact h.elim
 ·exact LP h
theorem vK{k:TK}{x:DV}(h:ck k S x K):∃d,ck k S x (·=d)∧K d:=by
 unfold ck at*;split at h
 ·split at h
  ·rename_i hb;(try simp only[hb]);exact tK h
  ·exact h.elim
 ·exact tK h
 ·split at h
  ·rename_i hb;obtain⟨h1,h2,d,h3,h4,h5⟩:=h;obtain⟨e,q1,q2⟩:=tK h5;exact⟨e,by first|exact⟨h1,h2,d,h3,h4,q1⟩|(simp only[hb];exact⟨h1,h2,d,h3,h4,q1⟩),q2⟩
  ·rename_i hb;obtain⟨h1,h2,d,h3,h4,h5⟩:=h;obtain⟨e,q1,q2⟩:=tK h5;exact⟨e,by first|exact⟨h1,h2,d,h3,h4,q1⟩|(simp only[hb];exact⟨h1,h2,d,h3,h4,q1⟩),q2⟩
  ·exact h.elim
 ·exact h.elim
theorem nr{k:TK}{f:Nat}{x:DV}(h:eL k f x K):∃d,eL k f x (·=d)∧K d:=by
 unfold eL at*;split at h
 ·split at h
  ·rename_i hf
   try simp only[hf]
   obtain⟨h1,h⟩:=h;split at h
   ·exact⟨_,⟨h1,rfl⟩,h⟩
   ·exact⟨_,⟨h1,h.1,rfl⟩,h.2⟩
   ·exact⟨_,⟨h1,rfl⟩,h⟩
   ·exact h.elim
  ·exact h.elim
 ·exact h.elim
theorem bO{k:TK}{x i:DV}(h:aD k x i K):∃d,aD k x i (·=d)∧K d:=by
 unfold aD at*;split at h
 ·split at h
  ·obtain⟨h1,h2,h3,h4⟩:=h;rename_i z _ _ _ xs;have hlt:z.toNat<xs.length:=by omega
   obtain⟨h5,h6⟩:=h4 _ (W5 hlt);exact⟨_,⟨h1,h2,h3,fun d hd=>by rw[W5 hlt]at hd;cases hd;exact⟨h5,rfl⟩⟩,h6⟩
  ·exact⟨_,⟨h.1,h.2.1,rfl⟩,h.2.2⟩
  ·exact⟨_,⟨h.1,h.2.1,rfl⟩,h.2.2⟩
  ·exact h.elim
 ·obtain⟨h1,h2,h3,h4⟩:=h;split at h4
  ·exact⟨_,⟨h1,h2,h3,rfl⟩,h4⟩
  ·exact⟨_,⟨h1,h2,h3,h4.1,rfl⟩,h4.2⟩
  ·exact h4.elim
 ·exact h.elim
theorem zy{w0:W0}{fr:List DV}{x:Operand}{k:TK}{i:DV}(h:AB w0 fr x fun d=>aD k d i K):∃d,(AB w0 fr x fun d'=>aD k d' i (·=d))∧K d:=by
 cases x with
 |global b=>
  obtain⟨us,hg,h⟩:=h;obtain⟨d,q1,q2⟩:=bO h;exact⟨d,⟨us,hg,q1⟩,q2⟩
 |tmp n=>exact bO (x:=ev fr (.tmp n)) h
 |const u=>exact bO (x:=ev fr (.const u)) h
 |func f=>exact bO (x:=ev fr (.func f)) h
theorem mI{k:TK}{x i:DV}(h:iW k x i K):∃d,iW k x i (·=d)∧K d:=by
 unfold iW at*;split at h
 ·obtain⟨h1,h2,h3⟩:=h;rename_i s _ z;have hlt:z.toNat<s.data.toList.length:=by simp;have:s.data.size=s.size:=rfl;omega
  exact⟨_,⟨h1,h2,fun d hd=>by rw[W5 hlt]at hd;cases hd;rfl⟩,h3 _ (W5 hlt)⟩
 ·exact h.elim
theorem lj{k:TK}{f:Nat}{x:DV}(h:fI k f x K):∃d,fI k f x (·=d)∧K d:=by
 unfold fI at*;split at h
 ·split at h
  ·rename_i hf
   try simp only[hf]
   split at h
   ·obtain⟨h1,h⟩:=h;split at h
    ·exact⟨_,⟨h1,rfl⟩,h⟩
    ·split at h
     ·rename_i hd;(try simp only[hd]);exact⟨_,⟨h1,rfl⟩,h⟩
     ·exact h.elim
   ·exact h.elim
  ·exact h.elim
 ·exact h.elim
theorem j9{i:Nat}{x:DV}(h:cq i x K):∃d,cq i x (·=d)∧K d:=by
 unfold cq at*;split at h
 ·split at h
  ·rename_i hd;(try simp only[hd]);exact⟨_,rfl,h⟩
  ·exact h.elim
 ·exact h.elim
theorem GB{op:BinOp}{k:IntKind}{m n:Int}(h:kZ op k m n K):∃d,kZ op k m n (·=d)∧K d:=by
 cases op <;>simp only[kZ]at h ⊢ <;>first|exact⟨_,rfl,h⟩|exact⟨_,⟨h.1,rfl⟩,h.2⟩
theorem EB{op:BinOp}{x y:ByteArray}(h:gl op x y K):∃d,gl op x y (·=d)∧K d:=by
 cases op <;>simp only[gl]at h ⊢ <;>first|exact⟨_,rfl,h⟩|exact⟨_,⟨h.1,rfl⟩,h.2⟩
theorem I7{op:BinOp}{t:TK}{cx cy:Bool}{x y:DV}(h:jK op t cx cy x y K):∃d,jK op t cx cy x y (·=d)∧K d:=by
 unfold jK at*;split at h
 ·obtain⟨d,q1,q2⟩:=GB h.2;exact⟨d,⟨h.1,q1⟩,q2⟩
 ·exact EB h
 ·split at h <;>first|exact⟨_,rfl,h⟩|exact h.elim
 ·split at h <;>first|exact⟨_,⟨h.1,rfl⟩,h.2⟩|exact h.elim
 ·split at h <;>first|exact⟨_,rfl,h⟩|exact h.elim
 ·split at h <;>first|exact⟨_,rfl,h⟩|exact h.elim
 ·split at h <;>first|exact⟨_,⟨h.1,rfl⟩,h.2⟩|exact h.elim
 ·exact h.elim
theorem px{op:BinOp}{t:TypeId}{cx cy:Bool}{x y:DV}(h:iw P op t cx cy x y K):∃d,iw P op t cx cy x y (·=d)∧K d:=by
 unfold iw at*;split at h
 ·unfold jH at*;split at h
  ·rename_i he;obtain⟨q,q1,q2⟩:=ko h;exact⟨_,fU (fun r e=>by rw[e]) q1,q2⟩
  ·rename_i he;obtain⟨q,q1,q2⟩:=ko h;exact⟨_,fU (fun r e=>by rw[e]) q1,q2⟩
  ·exact h.elim
 ·exact I7 h
theorem xI{op:UnOp}{x:DV}(h:Ad op x K):∃d,Ad op x (·=d)∧K d:=by
 unfold Ad at*;split at h <;>first|exact⟨_,rfl,h⟩|exact h.elim
theorem pf{a b:TK}{x:DV}(h:gC a b x K):∃d,gC a b x (·=d)∧K d:=by
 unfold gC at*;split at h <;>first|exact⟨_,rfl,h⟩|exact h.elim
theorem pO{fn:Fn}{a b:List DV}(h:jQ fn a b K):∃d,jQ fn a b (·=d)∧K d:=by
 unfold jQ at*;split at h <;>first|exact⟨_,rfl,h⟩|exact h.elim
theorem eo{x:Option DV}{z:Int}{F:(DV→Prop)→Int→Prop}(hF:∀n,F K n→∃d,F (·=d) n∧K d)(h:kF x z (F K)):∃d,kF x z (F (·=d))∧K d:=by
 unfold kF at*;split at h <;>first|exact hF _ h|exact h.elim
theorem nu{k:TK}{x:DV}{lo hi mx:Option DV}(h:fy k x lo hi mx K):∃d,fy k x lo hi mx (·=d)∧K d:=by
 unfold fy at*;split at h
 ·obtain⟨h1,h⟩:=h;rename_i e s b s' f xs
  obtain⟨d,q1,q2⟩:=eo (F:=fun K l=>kF hi xs.length fun h=>kF mx h fun m=>0≤l∧l≤h∧h≤m∧m≤xs.length∧
   K (.sl s (if mx.isSome then decide (m=h)else(f&&(hi.isNone||xs.isEmpty))) ((xs.take h.toNat).drop l.toNat))) (fun l h=>eo (F:=fun K h=>kF mx h fun m=>0≤l∧l≤h∧h≤m∧m≤xs.length∧
   K (.sl s (if mx.isSome then decide (m=h)else(f&&(hi.isNone||xs.isEmpty))) ((xs.take h.toNat).drop l.toNat))) (fun hh h=>eo (F:=fun K m=>0≤l∧l≤hh∧hh≤m∧m≤xs.length∧
   K (.sl s (if mx.isSome then decide (m=hh)else(f&&(hi.isNone||xs.isEmpty))) ((xs.take hh.toNat).drop l.toNat))) (fun m h=>⟨_,⟨h.1,h.2.1,h.2.2.1,h.2.2.2.1,rfl⟩,h.2.2.2.2⟩) h) h) h
  exact⟨d,⟨h1,q1⟩,q2⟩
 ·obtain⟨h1,h⟩:=h;rename_i s
  obtain⟨d,q1,q2⟩:=eo (F:=fun K l=>kF hi s.size fun h=>0≤l∧l≤h∧h≤s.size∧K (.v (.string (s.extract l.toNat h.toNat)))) (fun l h=>eo (F:=fun K h=>0≤l∧l≤h∧h≤s.size∧K (.v (.string (s.extract l.toNat h.toNat))))
   (fun hh h=>⟨_,⟨h.1,h.2.1,h.2.2.1,rfl⟩,h.2.2.2⟩) h) h
  exact⟨d,⟨h1,q1⟩,q2⟩
 ·rename_i e s by' b o n c
  exact eo (F:=fun K l=>kF hi n fun h=>kF mx c fun m=>0≤l∧l≤h∧h≤m∧m≤c∧
   K (.v (.slice (some ⟨b,if m.toNat=l.toNat then o else o+l.toNat*s,none⟩) (h.toNat-l.toNat) (m.toNat-l.toNat)))) (fun l h=>eo (F:=fun K h=>kF mx c fun m=>0≤l∧l≤h∧h≤m∧m≤c∧
   K (.v (.slice (some ⟨b,if m.toNat=l.toNat then o else o+l.toNat*s,none⟩) (h.toNat-l.toNat) (m.toNat-l.toNat)))) (fun hh h=>eo (F:=fun K m=>0≤l∧l≤hh∧hh≤m∧m≤c∧
   K (.v (.slice (some ⟨b,if m.toNat=l.toNat then o else o+l.toNat*s,none⟩) (hh.toNat-l.toNat) (m.toNat-l.toNat)))) (fun m h=>⟨_,⟨h.1,h.2.1,h.2.2.1,h.2.2.2.1,rfl⟩,h.2.2.2.2⟩) h) h) h
 ·obtain⟨h1,h⟩:=h;rename_i n e s ag nn b o
  obtain⟨d,q1,q2⟩:=eo (F:=fun K l=>kF hi n fun h=>kF mx n fun m=>0≤l∧l≤h∧h≤m∧m≤n∧
   K (.v (.slice (some ⟨b,if m.toNat=l.toNat then o else o+l.toNat*s,none⟩) (h.toNat-l.toNat) (m.toNat-l.toNat)))) (fun l h=>eo (F:=fun K h=>kF mx n fun m=>0≤l∧l≤h∧h≤m∧m≤n∧
   K (.v (.slice (some ⟨b,if m.toNat=l.toNat then o else o+l.toNat*s,none⟩) (h.toNat-l.toNat) (m.toNat-l.toNat)))) (fun hh h=>eo (F:=fun K m=>0≤l∧l≤hh∧hh≤m∧m≤n∧
   K (.v (.slice (some ⟨b,if m.toNat=l.toNat then o else o+l.toNat*s,none⟩) (hh.toNat-l.toNat) (m.toNat-l.toNat)))) (fun m h=>⟨_,⟨h.1,h.2.1,h.2.2.1,h.2.2.2.1,rfl⟩,h.2.2.2.2⟩) h) h) h
  exact⟨d,⟨h1,q1⟩,q2⟩
 ·exact h.elim
theorem sT{k:TK}{x:DV}(h:mc k x K):∃d,mc k x (·=d)∧K d:=by
 unfold mc at*;split at h <;>first|exact⟨_,rfl,h⟩|exact h.elim
theorem sC{k:TK}{x:DV}(h:pQ k x K):∃d,pQ k x (·=d)∧K d:=by
 unfold pQ at*;split at h <;>first|exact⟨_,rfl,h⟩|exact h.elim
theorem sV{x y:DV}(h:pS x y K):∃d,pS x y (·=d)∧K d:=by
 unfold pS at*;split at h <;>first|exact⟨_,rfl,h⟩|exact h.elim
theorem tm{x y:DV}(h:pF x y K):∃d,pF x y (·=d)∧K d:=by
 unfold pF at*;split at h <;>first|exact⟨_,rfl,h⟩|exact h.elim
theorem mX{t:TypeId}{parts:List (Nat×DV)}(h:eA P t parts K):∃d,eA P t parts (·=d)∧K d:=by
 unfold eA at*;split at h
 ·split at h
  ·rename_i hf;(try simp only[hf]);exact⟨_,rfl,h⟩
  ·exact h.elim
 ·exact h.elim
theorem gk{k:TK}{z:DV}{len:Nat}{parts:List (Nat×DV)}(h:aL k z len parts K):∃d,aL k z len parts (·=d)∧K d:=by
 unfold aL at*;split at h
 ·obtain⟨h1,h2,h3,h⟩:=h;split at h
  ·rename_i hf;(try simp only[hf]);exact⟨_,⟨h1,h2,h3,rfl⟩,h⟩
  ·exact h.elim
 ·exact h.elim
def qX:DV→Bool
 | .acc _ _=>false
 |_=>true
def eK:DV→Bool
 | .agg ds=>ds.all qX
 |d=>qX d
theorem zu{K:DV→St→Prop}{d:DV}(hd:qX d=true)(h:K d S):jy S d K:=by
 cases d <;>first|(cases hd;done)|exact h
theorem BD{K:DV→St→Prop}{k:TK}{x:DV}{lo hi mx:Option DV}(hx:qX x=true)(h:gN k S x lo hi mx K):fJ k S x lo hi mx K:=by
 cases x <;>first|(cases hx;done)|exact h
theorem vT:∀{ds:List DV} {K:List DV→St→Prop},ds.all qX=true→K ds S→jZ S ds K
 |[],K,_,h=>h
 |d::ds,K,hd,h=>by
  simp only[Zc,W8]at hd;exact zu hd.1 (vT hd.2 h)
theorem FX{K:DV→St→Prop}{d:DV}(hd:eK d=true)(h:K d S):shr S d K:=by
 cases d with
 |agg ds=>exact vT hd h
 |acc l n=>cases hd
 |_=>exact h
theorem ox:∀{ds:List DV} {K:List DV→St→Prop},ds.all eK=true→K ds S→e9 S ds K
 |[],K,_,h=>h
 |d::ds,K,hd,h=>by
  simp only[Zc,W8]at hd;exact FX hd.1 (ox hd.2 h)
theorem pc{ds:List DV}{F:List DV→St→Prop}(hd:ds.all eK=true)(h:F ds S):fG S ds F:=by
 unfold fG;split
 ·exact .inl h
 ·exact ox hd h
def lJ(P:Program)(w0:W0)(cal:DV)(ds:List DV)(S:St)(K:DV→Prop):Prop:=match cal with
 | .v (.func (.func f) a cap)=>a.size=0∧okF P f=true∧cap.toList.all (fun u=>u.oneCell')=true∧ds.all eK=true∧∃d,aa P w0 f (ds++cap.toList.map .v) S (fun d' S'=>d'=d∧S'=S)∧K d
 |_=>False
theorem o9{m:Option (KK×DV)}{S:St}{x y:DV}{ok:Bool}{K:DV→Prop}(h:bM m S x y ok K):∃d,bM m S x y ok (·=d)∧K d:=by
 unfold bM at*
 cases m with
 |none=>exact h.elim
 |some p=>
  simp only[oK]at h ⊢;obtain⟨h0,h⟩:=h
  cases hk:lp y with
  |none=>rw[hk]at h;exact h.elim
  |some k=>
   rw[hk]at h;simp only at h ⊢;obtain⟨h1,h⟩:=h;split at h
   ·exact⟨_,⟨h0,h1,rfl⟩,h⟩
   ·split at h
    ·obtain⟨h2,h⟩:=h
     cases hg:aJ _ k with
     |none=>rw[hg]at h;exact⟨_,⟨h0,h1,h2,rfl⟩,h⟩
     |some d=>rw[hg]at h;exact⟨_,⟨h0,h1,h2,rfl⟩,h⟩
    ·exact h.elim
   ·exact h.elim
def aV(P:Program)(w0:W0)(op:Op)(fr:List DV)(S:St)(K:DV→Prop):Prop:=match op with
 | .move x=>K (ev fr x)
 | .assign x=>K (ev fr x)
 | .pick c a b=>gm (ev fr c) (ev fr a) (ev fr b) K
 | .load t x=>ck (tk P t) S (ev fr x) K
 | .fieldAddr t x f=>eL (tk P t) f (ev fr x) K
 | .indexAddr t x i=>AB w0 fr x fun d=>aD (tk P t) d (ev fr i) K
 | .index t x i=>iW (tk P t) (ev fr x) (ev fr i) K
 | .field t x f=>fI (tk P t) f (ev fr x) K
 | .extract x i=>cq i (ev fr x) K
 | .nilCheck x=>notNil (ev fr x)=true∧K (ev fr x)
 | .binOp b t x y _=>eM y=false∧iw P b t (vZ x) (vZ y) (ev fr x) (ev fr y) K
 | .unOp b _ x=>Ad b (ev fr x) K
 | .convert s d x=>gC (tk P s) (tk P d) (ev fr x) K
 | .makeInterface t x=>nP (tk P t)=false∧eK (ev fr x)=true∧K (.im t (ev fr x))
 | .makeFunc fn a b=>jQ fn (a.toList.map (ev fr)) (b.toList.map (ev fr)) K
 | .slice t x lo hi mx=>(mx.isSome=true→hi.isSome=true)∧qX (ev fr x)=true∧fy (tk P t) (ev fr x) (lo.map (ev fr)) (hi.map (ev fr)) (mx.map (ev fr)) K
 | .build t parts=>(parts.toList.map fun p=>ev fr p.2).all eK=true∧eA P t ((parts.toList.map (·.1)).zip (parts.toList.map fun p=>ev fr p.2)) K
 | .buildSlice t len parts=>(parts.toList.map fun p=>ev fr p.2).all eK=true∧aL (tk P t) (zD P (de P t)) len ((parts.toList.map (·.1)).zip (parts.toList.map fun p=>ev fr p.2)) K
 | .lookup t x y ok=>bM (kP P t) S (ev fr x) (ev fr y) ok K
 | .call c=>match c.callee with
  | .builtin .len=>(match c.args.toList,c.argTypes.toList with
   |[x],[t]=>mc (tk P t) (ev fr x) K
   |_,_=>False)
  | .builtin .cap=>(match c.args.toList,c.argTypes.toList with
   |[x],[t]=>pQ (tk P t) (ev fr x) K
   |_,_=>False)
  | .builtin .min=>(match c.args.toList with
   |[x,y]=>pS (ev fr x) (ev fr y) K
   |_=>False)
  | .builtin .max=>(match c.args.toList with
   |[x,y]=>pF (ev fr x) (ev fr y) K
   |_=>False)
  | .value cal=>lJ P w0 (ev fr cal) (c.args.toList.map (ev fr)) S K
  | .invoke r name=>xD P (ev fr r) name fun f d=>lJ P w0 (.v (.func (.func f) #[] #[])) (d::c.args.toList.map (ev fr)) S K
  |_=>False
 |_=>False
theorem jO{o:Oper}{fr:List DV}(hs:fw o.op=true)(h:aV P w0 o.op fr S K):∃d,QY P w0 S o fr d∧K d:=by
 have fin:∀{d:DV},aG P w0 o.op fr S (fun d' S'=>d'=d∧S'=S)→K d→∃d,QY P w0 S o fr d∧K d:=fun h1 h2=>⟨_,cT hs h1,h2⟩
 cases hop:o.op with
 |move x=>rw[hop]at h;exact fin (by rw[hop];exact⟨rfl,rfl⟩) h
 |assign x=>rw[hop]at h;exact fin (by rw[hop];exact⟨rfl,rfl⟩) h
 |pick c a b=>rw[hop]at h;obtain⟨d,q1,q2⟩:=qb h;exact fin (by rw[hop];simpa[aG]using q1) q2
 |load t x=>rw[hop]at h;obtain⟨d,q1,q2⟩:=vK h;exact fin (by rw[hop];simpa[aG]using q1) q2
 |fieldAddr t x f=>rw[hop]at h;obtain⟨d,q1,q2⟩:=nr h;exact fin (by rw[hop];simpa[aG]using q1) q2
 |indexAddr t x i=>
  rw[hop]at h
  cases x with
  |global b=>
   obtain⟨us,hg,h⟩:=(show nM w0 b fun d=>aD (tk P t) d (ev fr i) K from h);obtain⟨d,q1,q2⟩:=bO h;exact fin (by rw[hop];exact⟨us,hg,by simpa using q1⟩) q2
  |tmp n=>obtain⟨d,q1,q2⟩:=bO (show aD (tk P t) (ev fr (.tmp n)) (ev fr i) K from h);exact fin (by rw[hop];simpa[aG,AB]using q1) q2
  |const u=>obtain⟨d,q1,q2⟩:=bO (show aD (tk P t) (ev fr (.const u)) (ev fr i) K from h);exact fin (by rw[hop];simpa[aG,AB]using q1) q2
  |func f=>obtain⟨d,q1,q2⟩:=bO (show aD (tk P t) (ev fr (.func f)) (ev fr i) K from h);exact fin (by rw[hop];simpa[aG,AB]using q1) q2
 |index t x i=>rw[hop]at h;obtain⟨d,q1,q2⟩:=mI h;exact fin (by rw[hop];simpa[aG]using q1) q2
 |field t x f=>rw[hop]at h;obtain⟨d,q1,q2⟩:=lj h;exact fin (by rw[hop];simpa[aG]using q1) q2
 |extract x i=>rw[hop]at h;obtain⟨d,q1,q2⟩:=j9 h;exact fin (by rw[hop];simpa[aG]using q1) q2
 |nilCheck x=>rw[hop]at h;exact fin (by rw[hop];exact⟨h.1,rfl,rfl⟩) h.2
 |binOp b t x y t'=>rw[hop]at h;obtain⟨d,q1,q2⟩:=px h.2;exact fin (by rw[hop];simp only[aG,h.1];simpa using q1) q2
 |unOp b t x=>rw[hop]at h;obtain⟨d,q1,q2⟩:=xI h;exact fin (by rw[hop];simpa[aG]using q1) q2
 |convert s d x=>rw[hop]at h;obtain⟨d',q1,q2⟩:=pf h;exact fin (by rw[hop];simpa[aG]using Bn (ke:=tk P (de P s)) (kb:=tk P (de P d)) (S:=S) q1) q2
 |makeInterface t x=>rw[hop]at h;exact fin (by rw[hop];exact⟨h.1,FX h.2.1 ⟨rfl,rfl⟩⟩) h.2.2
 |makeFunc fn a b=>rw[hop]at h;obtain⟨d,q1,q2⟩:=pO h;exact fin (by rw[hop];simpa[aG]using q1) q2
 |slice t x lo hi mx=>rw[hop]at h;obtain⟨d,q1,q2⟩:=nu h.2.2;exact fin (by rw[hop];exact⟨h.1,BD h.2.1 (zu h.2.1 (by simpa using q1))⟩) q2
 |lookup t x y ok=>rw[hop]at h;obtain⟨d,q1,q2⟩:=o9 h;exact fin (by rw[hop];simpa[aG]using q1) q2
 |build t parts=>rw[hop]at h;obtain⟨d,q1,q2⟩:=mX h.2;exact fin (by rw[hop];exact ox h.1 (by simpa using q1)) q2
 |buildSlice t len parts=>rw[hop]at h;obtain⟨d,q1,q2⟩:=gk h.2;exact fin (by rw[hop];exact ox h.1 (by simpa using q1)) q2
 |call c=>
  rw[hop]at h;obtain⟨callee,args,ts⟩:=c;simp only[aV]at h;split at h
  ·split at h
   ·rename_i x t e1 e2;obtain⟨d,q1,q2⟩:=sT h;exact fin (by rw[hop];simp only[aG,e1,e2];simpa using q1) q2
   ·exact h.elim
  ·split at h
   ·rename_i x t e1 e2;obtain⟨d,q1,q2⟩:=sC h;exact fin (by rw[hop];simp only[aG,e1,e2];simpa using q1) q2
   ·exact h.elim
  ·split at h
   ·rename_i x y e1;obtain⟨d,q1,q2⟩:=sV h;exact fin (by rw[hop];simp only[aG,e1];simpa using q1) q2
   ·exact h.elim
  ·split at h
   ·rename_i x y e1;obtain⟨d,q1,q2⟩:=tm h;exact fin (by rw[hop];simp only[aG,e1];simpa using q1) q2
   ·exact h.elim
  ·rename_i cal;unfold lJ at h;split at h
   ·rename_i f a cap hcal;obtain⟨h1,h2,h3,h4,d,h5,h6⟩:=h;exact fin (by rw[hop];simp only[aG,hcal];exact vB h1 h3 (by rw[h2,Lp];exact pc h4 h5)) h6
   ·exact h.elim
  ·rename_i r name;unfold xD at h;split at h
   ·rename_i t hx;split at h
    ·rename_i f hi;obtain⟨hf,_,h2,h3,h4,d,h5,h6⟩:=h;have h5':aa P w0 f (.agg []::args.toList.map (ev fr)) S (fun d' S'=>d'=d∧S'=S):=by simpa using h5
     exact fin (by rw[hop];simp only[aG,xD,hx,hi];exact⟨hf,pc h4 h5'⟩) h6
    ·exact h.elim
   ·exact h.elim
  ·exact h.elim
 |_=>rw[hop]at h;exact h.elim
end
end Aml
namespace Aml
open Go Go.RowKit
def dI(n:Int):DV:= .v (.int .i64 n)
def dU(n:Int):DV:= .v (.int .u64 n)
def dY(n:Int):DV:= .v (.int .u8 n)
def dB(b:Bool):DV:= .v (.bool b)
def dS(s:ByteArray):DV:= .v (.string s)
theorem SY{n:Int}(h0:0≤n)(h1:n≤18446744073709551615):IntKind.u64.wrap n=n:=by
 show n%18446744073709551616=n;omega
section
variable {P:Program} {w0:W0}
end
end Aml
namespace Aml
open Go Go.RowKit
def ng:Op→Bool
 | .store ..| .box ..| .alloc ..| .makeSlice ..| .mapUpdate ..| .insert ..| .makeMap ..=>false
 | .call c=>match c.callee with
  | .builtin .append| .builtin .clear| .builtin .delete| .builtin .copy=>false
  |_=>true
 |_=>true
def qm(md:Region.Mode)(ops:Array Oper):Nat→Nat→Nat→Bool
 |0,_,_=>false
 |n+1,k,i=>match ops[k]? with
  |none=>false
  |some o=>o.after.any fun e=>Region.binds md e&&(e.on==i||qm md ops n e.on i)
def Le(md:Region.Mode)(ops:Array Oper):Bool:=(List.range ops.size).all fun k=>match ops[k]? with
 |none=>true
 |some o=>o.after.all fun e=>!Region.binds md e||decide (e.on<k)
def nT(md:Region.Mode)(ops:Array Oper)(n:Nat):Bool:=Le md ops&&
 ((List.range ops.size).all fun k=>decide (k<n)||(List.range k).all fun i=>qm md ops ops.size k i)&&
 (ops.toList.take n).all fun o=>match o.guard with|none=>true|some (j,_)=>decide (j<n)
section
variable {P:Program} {w0:W0} {ops:Array Oper} {md:Region.Mode}
theorem iA(h:Le md ops=true){k:Nat}{o:Oper}(hk:ops[k]? =some o):∀e∈o.after,Region.binds md e=true→e.on<k:=by
 intro e he hb;have hlt:k<ops.size:=(W9.1 hk).1;have:=Xq.1 h k (X9.2 hlt);simp only[hk]at this;have:=Array.all_eq_true'.1 this e he;simpa[hb]using this
def Jy(md:Region.Mode)(ops:Array Oper)(L:Array Bool):Prop:=∀(j:Nat) (o:Oper),ops[j]? =some o→L[j]? =some true→∀e∈o.after,Region.binds md e=true→L[e.on]? =some true
theorem jh{L:Array Bool}(hc:Jy md ops L):∀(n k i:Nat) (o:Oper),ops[k]? =some o→(∀e∈o.after,Region.binds md e=true→L[e.on]? =some true)→qm md ops n k i=true→L[i]? =some true
 |0,_,_,_,_,_,h=>by cases h
 |n+1,k,i,o,hk,ha,h=>by
  simp only[qm,hk]at h;obtain⟨e,he,h⟩:=Array.any_eq_true'.1 h;simp only[W8,Yq,beq_iff_eq]at h;rcases h.2 with h'|h'
  ·rw[←h'];exact ha e he h.1
  ·have hl:=ha e he h.1
   cases ho:ops[e.on]? with
   |none=>cases n <;>simp[qm,ho]at h'
   |some o'=>exact jh hc n e.on i o' ho (hc e.on o' ho hl) h'
theorem cf{L:Array Bool}{i:Nat}:L.getD i false=true↔L[i]? =some true:=by
 rw[Xt];cases L[i]? <;>simp
theorem cr{L:Array Bool}{i:Nat}:L.getD i true=false↔L[i]? =some false:=by
 rw[Xt];cases L[i]? <;>simp
theorem Js{ro:Option Nat}{g0 g:Gh}{Q:Exit→List DV→St→Prop}{o:Oper}{fr:List DV}{S:St}{a:Act}{w:World}{K:List DV→St→Prop}{K':Act→World→Prop}(k:g0.le g)(h1:Rel w0 g S w)(h2:ae g fr a.tmps.toList)(h3:Dk w0 g a w)
 (hK:∀fr S g a w,g0.le g→Rel w0 g S w→ae g fr a.tmps.toList→Dk w0 g a w→K fr S→K' a w)
 (h:bI ops fr o.guard (fun fr=>ah P w0 o (ev fr) S fun d S'=>K (pt fr o.dst d) S') (fun fr=>K (pt fr o.dst ud) S)) {i:Nat} (hi:ops[i]? =some o):
 wpOpIn (fz ro) 0 P ops (Good w0 g0 Q) i K' a w:=by
 unfold wpOpIn;simp only[hi];rcases gI h2 h with⟨hw,fr',h2',hA⟩|⟨hw,fr',h2',hB⟩
 ·rw[if_pos hw];refine dJ hA h1 (fun x _=>ee h2' x) h3 k h2' fun g' d u S' w' k1 k2 k3 k4 k5=>?_;exact hK _ _ g' _ _ (k.trans k1) k2 (bD (h2'.mono k1) _ k3) (k1.dk k5) k4
 ·rw[if_neg (by simp[hw])];exact⟨fun _ _=>trivial,hK _ _ g _ _ k h1 (bD h2' _ (gp g)) (h3.ba (put_defers _ _ _) fun _ _ h _=>h) hB⟩
theorem tY{S:St}{K K':List DV→Prop}(hk:∀fr,K fr→K' fr):∀{l:List Oper} {fr:List DV},LQ P w0 S ops K l fr→LQ P w0 S ops K' l fr
 |[],fr,h=>hk _ h
 |o::rest,fr,h=>gJ (fun fr ⟨d,q1,q2⟩=>⟨d,q1,tY hk q2⟩) (fun fr h=>tY hk h) h
theorem xk{ro:Option Nat}{g0:Gh}{Q:Exit→List DV→St→Prop}{n:Nat}(hB:nT md ops n=true):∀(l:List Oper) (k fuel:Nat) (L:Array Bool) (fr:List DV) (S:St) (g:Gh) (a:Act) (w:World),
 (∀j,l[j]? =ops[k+j]?)→n≤k→k≤ops.size→l.length≤fuel→L.size=ops.size→(∀i,i<k→L[i]? =some true)→(∀i,k≤i→i<ops.size→L[i]? =some false)→g0.le g→Rel w0 g S w→ae g fr a.tmps.toList→Dk w0 g a w→
 zP P w0 ops (fun fr S=>Q .normal fr S) l fr S→wpAnyIn (fz ro) 0 P md ops (Good w0 g0 Q) fuel L a w:=by
 simp only[nT,W8]at hB;obtain⟨⟨hb,ha⟩, -⟩:=hB
 have none_ready:∀(k:Nat) (L:Array Bool),ops.size≤k→L.size=ops.size→(∀i,i<k→L[i]? =some true∨ops.size≤i)→∀i,i∉Region.ready md ops L:=by
  intro k L hk hs hl i hi;obtain⟨h1,o,ho,_⟩:=mem_ready.1 hi;rw[cr]at h1;have hlt:i<ops.size:=(W9.1 ho).1;rcases hl i (by omega)with h|h
  ·rw[h]at h1;cases h1
  ·omega
 intro l
 induction l with
 |nil=>
  intro k fuel L fr S g a w hl hn hk hf hs ht hu k1 h1 h2 h3 h
  have hk':ops.size≤k:=by
   have:=hl 0;simp only[List.getElem?_nil,YJ]at this;exact Array.getElem?_eq_none_iff.1 this.symm
  have hno:=none_ready k L hk' hs (fun i hi=> .inl (ht i hi));have hemp:Region.ready md ops L=[]:=List.eq_nil_iff_forall_not_mem.2 hno
  cases fuel with
  |zero=>exact⟨hemp,k1.kd h3,g,fr,S,k1,h1,h2,h⟩
  |succ fuel=>exact⟨fun _=>⟨k1.kd h3,g,fr,S,k1,h1,h2,h⟩,fun i hi=>absurd hi (hno i)⟩
 |cons o rest ih=>
  intro k fuel L fr S g a w hl hn hk hf hs ht hu k1 h1 h2 h3 h;have h0:ops[k]? =some o:=by simpa using(hl 0).symm
  have hklt:k<ops.size:=(W9.1 h0).1;have hready:k∈Region.ready md ops L:=mem_ready.2 ⟨cr.2 (hu k (Xa _) hklt),o,h0,fun e he hbe=>cf.2 (ht _ (iA hb h0 e he hbe))⟩
  cases fuel with
  |zero=>simp at hf
  |succ fuel=>
   refine⟨fun h=>(by rw[h]at hready;cases hready),fun i hi=>?_⟩;obtain⟨hi1,oi,hoi,hia⟩:=mem_ready.1 hi;rw[cr]at hi1;have hilt:i<ops.size:=(W9.1 hoi).1
   have hclo:Jy md ops L:=fun j oj hj hlj e he hbe=>by
    have hjk:j<k:=by
     rcases XH j k with h|h
     ·exact h
     ·rw[hu j h (W9.1 hj).1]at hlj;cases hlj
    exact ht _ (Nat.lt_trans (iA hb hj e he hbe) hjk)
   have hik:i=k:=by
    rcases Yl i k with h|h|h
    ·rw[ht i h]at hi1;cases hi1
    ·exact h
    ·have hr:=Xq.1 ha i (X9.2 hilt);rw[Yq]at hr;rcases hr with hr|hr
     ·have:=of_decide_eq_true hr;omega
     ·have hr:=Xq.1 hr k (X9.2 h);have:=jh hclo _ i k oi hoi (fun e he hbe=>cf.1 (hia e he hbe)) hr;rw[hu k (Xa _) hklt]at this;cases this
   subst hik;refine Js (o:=o) k1 h1 h2 h3 (K:=zP P w0 ops (fun fr S=>Q .normal fr S) rest) ?_ h h0;intro fr' S' g' a' w' q1 q2 q3 q4 q5;refine ih (i+1) fuel (L.setIfInBounds i true) fr' S' g' a' w' (fun j=>by have:=hl (j+1);simpa[Ya,YL 1 j]using this) (by omega) (by omega) (by simpa using hf) (by simpa using hs) ?_ ?_ q1 q2 q3 q4 q5
   ·intro j hj;rw[Xu];split
    ·rename_i e;rw[if_pos (by omega)]
    ·exact ht j (by omega)
   ·intro j hj hj';rw[Xu,if_neg (by omega)];exact hu j (by omega) hj'
theorem B7{ro:Option Nat}{g0:Gh}{Q:Exit→List DV→St→Prop}{S:St}{n:Nat}(hB:nT md ops n=true)(hn:n≤ops.size):∀(fuel F:Nat) (L M:Array Bool) (fr:List DV) (g:Gh) (a:Act) (w:World),
 L.size=n→M.size=ops.size→(∀i,i<n→M[i]? =L[i]?)→(∀i,n≤i→i<ops.size→M[i]? =some false)→Jy md ops M→fuel+(ops.size-n)≤F→g0.le g→Rel w0 g S w→ae g fr a.tmps.toList→Dk w0 g a w→
 nk P w0 S md (ops.toList.take n).toArray (fun fr=>zP P w0 ops (fun fr S=>Q .normal fr S) (ops.toList.drop n) fr S) fuel L fr→wpAnyIn (fz ro) 0 P md ops (Good w0 g0 Q) F M a w:=by
 have hB':=hB;simp only[nT,W8]at hB';obtain⟨⟨hb,ha⟩,hg⟩:=hB';have hpre:∀i,i<n→(ops.toList.take n).toArray[i]? =ops[i]? :=fun i hi=>by simp[XU,hi]
 have full:∀(L M:Array Bool),L.size=n→M.size=ops.size→(∀i,i<n→M[i]? =L[i]?)→Region.ready md (ops.toList.take n).toArray L=[]→∀i,i<n→M[i]? =some true:=by
  intro L M hs hM hLM hr i
  induction i using Nat.strongRecOn with
  |_ i ih=>
   intro hi;have hlt:i<M.size:=by omega
   have hsome:∃o,ops[i]? =some o:=⟨_,Yg (by omega)⟩;obtain⟨o,ho⟩:=hsome
   cases hx:M[i]? with
   |none=>rw[Yg hlt]at hx;cases hx
   |some x=>
    cases x with
    |true=>rfl
    |false=>
     have:i∈Region.ready md (ops.toList.take n).toArray L:=mem_ready.2 ⟨cr.2 (by rw[←hLM i hi];exact hx),o,by rw[hpre i hi];exact ho,fun e he hbe=>by
      have hlt':=iA hb ho e he hbe;rw[cf,←hLM _ (by omega)];exact ih _ hlt' (by omega)⟩
     rw[hr]at this;cases this
 have tail:∀(F:Nat) (L M:Array Bool) (fr:List DV) (g:Gh) (a:Act) (w:World),L.size=n→M.size=ops.size→(∀i,i<n→M[i]? =L[i]?)→(∀i,n≤i→i<ops.size→M[i]? =some false)→ops.size-n≤F→g0.le g→Rel w0 g S w→ae g fr a.tmps.toList→Dk w0 g a w→
  Region.ready md (ops.toList.take n).toArray L=[]→zP P w0 ops (fun fr S=>Q .normal fr S) (ops.toList.drop n) fr S→wpAnyIn (fz ro) 0 P md ops (Good w0 g0 Q) F M a w:=by
  intro F L M fr g a w hs hM hLM hM0 hF q1 q2 q3 q4 hr h;exact xk hB (ops.toList.drop n) n F M fr S g a w (fun j=>by simp[XV]) (Xa _) hn (by simp;omega) hM (full L M hs hM hLM hr) hM0 q1 q2 q3 q4 h
 intro fuel
 induction fuel with
 |zero=>
  intro F L M fr g a w hs hM hLM hM0 hc hF q1 q2 q3 q4 h;exact tail F L M fr g a w hs hM hLM hM0 (by omega) q1 q2 q3 q4 h.1 h.2
 |succ fuel ih=>
  intro F L M fr g a w hs hM hLM hM0 hc hF q1 q2 q3 q4 h;by_cases hr:Region.ready md (ops.toList.take n).toArray L=[]
  ·exact tail F L M fr g a w hs hM hLM hM0 (by omega) q1 q2 q3 q4 hr (h.1 hr)
  ·obtain⟨F,rfl⟩:∃F',F=F'+1:=⟨F-1,by omega⟩
   have up:∀i,i∈Region.ready md (ops.toList.take n).toArray L→i∈Region.ready md ops M:=by
    intro i hi;obtain⟨h1,o,ho,h2⟩:=mem_ready.1 hi;have hi':i<n:=by have:=(W9.1 ho).1;simp at this;omega
    rw[hpre i hi']at ho;refine mem_ready.2 ⟨cr.2 (by rw[hLM i hi'];exact cr.1 h1),o,ho,fun e he hbe=>?_⟩;have hlt:=iA hb ho e he hbe;rw[cf,hLM _ (by omega)];exact cf.1 (h2 e he hbe)
   refine⟨fun h0=>?_,fun i hi=>?_⟩
   ·exfalso
    obtain⟨x,xs,hx⟩:∃x xs,Region.ready md (ops.toList.take n).toArray L=x::xs:=by
     cases he:Region.ready md (ops.toList.take n).toArray L with
     |nil=>exact absurd he hr
     |cons x xs=>exact⟨x,xs,rfl⟩
    have:=up x (by rw[hx];exact Xf);rw[h0]at this;cases this
   ·obtain⟨hi1,oi,hoi,hia⟩:=mem_ready.1 hi;rw[cr]at hi1;have hilt:i<ops.size:=(W9.1 hoi).1;by_cases hin:i<n
    ·have hiL:i∈Region.ready md (ops.toList.take n).toArray L:=mem_ready.2 ⟨cr.2 (by rw[←hLM i hin];exact hi1),oi,by rw[hpre i hin];exact hoi,fun e he hbe=>by
      have hlt:=iA hb hoi e he hbe;rw[cf,←hLM _ (by omega)];exact cf.1 (hia e he hbe)⟩
     have hq:=h.2 i hiL
     have hgi:∀j want,oi.guard=some (j,want)→j<n:=by
      intro j want hgj
      have hmem:oi∈ops.toList.take n:=by
       have:(ops.toList.take n)[i]? =some oi:=by rw[XU,if_pos hin];simpa using hoi
       exact W7 this
      have:=Xq.1 hg oi hmem;simpa[hgj]using this
     have hwant:∀fr,cH (ops.toList.take n).toArray fr oi.guard=cH ops fr oi.guard:=by
      intro fr
      cases hgo:oi.guard with
      |none=>rfl
      |some p=>
       obtain⟨j,want⟩:=p;simp only[cH,hpre j (hgi j want hgo)]
     have hLs:(L.setIfInBounds i true).size=n:=by simpa using hs
     have hMs:(M.setIfInBounds i true).size=ops.size:=by simpa using hM
     have hLM':∀j,j<n→(M.setIfInBounds i true)[j]? =(L.setIfInBounds i true)[j]? :=by
      intro j hj;rw[Xu,Xu,hLM j hj];split
      ·rw[if_pos (by omega),if_pos (by omega)]
      ·rfl
     have hM0':∀j,n≤j→j<ops.size→(M.setIfInBounds i true)[j]? =some false:=by
      intro j hj hj';rw[Xu,if_neg (by omega)];exact hM0 j hj hj'
     have hc':Jy md ops (M.setIfInBounds i true):=by
      intro j oj hj hlj e he hbe;rw[Xu];split
      ·rw[if_pos (by omega)]
      ·rw[Xu]at hlj;split at hlj
       ·rename_i hij;subst hij;rw[hoi]at hj;cases hj;exact cf.1 (hia e he hbe)
       ·exact hc j oj hj hlj e he hbe
     have cont:∀fr' g' a' w',g0.le g'→Rel w0 g' S w'→ae g' fr' a'.tmps.toList→Dk w0 g' a' w'→nk P w0 S md (ops.toList.take n).toArray (fun fr=>zP P w0 ops (fun fr S=>Q .normal fr S) (ops.toList.drop n) fr S) fuel (L.setIfInBounds i true) fr'→
      wpAnyIn (fz ro) 0 P md ops (Good w0 g0 Q) F (M.setIfInBounds i true) a' w':=fun fr' g' a' w' p1 p2 p3 p4 p5=>
      ih F _ _ fr' g' a' w' hLs hMs hLM' hM0' hc' (by omega) p1 p2 p3 p4 p5
     unfold qOp at hq;rw[hpre i hin]at hq;unfold wpOpIn;simp only[hoi]at hq ⊢;rcases hq with⟨hw,d,hy,hk⟩|⟨hw,hk⟩
     ·rw[hwant]at hw;have hw':=dz (o:=oi) q3 hw;rw[if_pos hw'];refine dJ hy q2 (fun x _=>ee q3 x) q4 q1 q3 fun g' d' u S' w' k1 k2 k3 k4 k5=>?_;obtain⟨hd,hS⟩:=k4;rw[hS]at k2;rw[hd]at k3;exact cont _ g' _ _ (q1.trans k1) k2 (bD (q3.mono k1) _ k3) (k1.dk k5) hk
     ·rw[hwant]at hw;have hw':=dz (o:=oi) q3 hw;rw[if_neg (by simp[hw'])];exact⟨fun _ _=>trivial,cont _ g _ _ q1 q2 (bD q3 _ (gp g)) (q4.ba (put_defers _ _ _) fun _ _ h _=>h) hk⟩
    ·exfalso
     have hall:∀j,j<n→M[j]? =some true:=by
      intro j hj;have hr':=Xq.1 ha i (X9.2 hilt);rw[Yq]at hr';rcases hr' with hr'|hr'
      ·exact absurd (of_decide_eq_true hr') hin
      ·have hr':=Xq.1 hr' j (X9.2 (by omega));exact jh hc _ i j oi hoi (fun e he hbe=>cf.1 (hia e he hbe)) hr'
     refine hr (List.eq_nil_iff_forall_not_mem.2 fun j hj=>?_);obtain⟨h1,o,ho,_⟩:=mem_ready.1 hj;have hj':j<n:=by have:=(W9.1 ho).1;simp at this;omega
     rw[cr,←hLM j hj',hall j hj']at h1;cases h1
def kB(l:List Oper):Nat:=(l.takeWhile fun o=>ng o.op).length
theorem AF{id:Nat}{l:List Oper}{fr:List DV}{S:St}{Q:Exit→List DV→St→Prop}(n:Nat)(hn:n≤l.length)(hm:P.follows .mixedOrders=true)(hB:Region.lexB .any (l.take n).toArray=true)(hT:nT .any l.toArray n=true)(hs:l.all (fun o=>fw o.op)=true)
 (h:LQ P w0 S (l.take n).toArray (fun fr=>oE P w0 l.toArray (fun fr S=>Q .normal fr S) (l.drop n) fr S) (l.take n) fr):fL P w0 (.region id l.toArray true) fr S Q:=by
 intro g a w h1 h2 h3;simp only[Region.lexB,W8]at hB;refine dO hm fun ro=>?_;have hR:Rel w0 g S {w with drawn:=w.drawn+1}:=h1.grow (iQ w);have hs1:(l.take n).all (fun o=>fw o.op)=true:=Xq.2 fun o ho=>Xq.1 hs o (X5 ho);have hs2:(l.drop n).all (fun o=>fw o.op)=true:=Xq.2 fun o ho=>Xq.1 hs o (XN ho)
 have hLQ:LQ P w0 S (l.take n).toArray (fun fr=>zP P w0 l.toArray (fun fr S=>Q .normal fr S) (l.drop n) fr S) (l.take n) fr:=by
  exact tY (fun fr h=>fT _ hs2 h) h
 have:=qy (P:=P) (w0:=w0) (S:=S) (md:= .any) (ops:=(l.take n).toArray) (l.take n) 0 (Array.replicate (l.take n).toArray.size false) fr (by simp) (by simpa using hB.2) hLQ;refine B7 (n:=n) (S:=S) hT (by simpa using hn) (l.take n).length _ (Array.replicate (l.take n).toArray.size false) _ fr g a _ (by simp;omega) (by simp) ?_ ?_ ?_ (by simp;omega) (.refl g) hR h2 (h3.ba rfl fun _ _ h _=>h) (by simpa using this)
 ·intro i hi;simp only[Y7,Zi,XT];rw[if_pos (by omega),if_pos (by omega)]
 ·intro i hi hi';simp only[Y7];rw[if_pos hi']
 ·intro j o hj hl;simp[Y7]at hl
end
end Aml
namespace Aml
open Go Go.RowKit
@[congr] theorem RE {d:DV} {d':DV} {A:Prop} {B:Prop} (hd:d=d'):cu d A B=cu d' A B:=by cases hd;rfl
@[congr] theorem Ur {ds:List DV} {ds':List DV} {K:DV→Prop} (hds:ds=ds'):Of ds K=Of ds' K:=by cases hds;rfl
@[congr] theorem Uq {k:TK} {k':TK} {ds:List DV} {ds':List DV} {K:DV→Prop} (hk:k=k') (hds:ds=ds'):nf k ds K=nf k' ds' K:=by cases hk;cases hds;rfl
@[congr] theorem R8 {c:DV} {c':DV} {a:DV} {a':DV} {b:DV} {b':DV} {K:DV→Prop} (hc:c=c') (ha:a=a') (hb:b=b'):gm c a b K=gm c' a' b' K:=by cases hc;cases ha;cases hb;rfl
@[congr] theorem Sa {k:TK} {k':TK} {S:St} {S':St} {x:DV} {x':DV} {K:DV→Prop} (hk:k=k') (hS:S=S') (hx:x=x'):ck k S x K=ck k' S' x' K:=by cases hk;cases hS;cases hx;rfl
@[congr] theorem Ra {k:TK} {k':TK} {f:Nat} {f':Nat} {x:DV} {x':DV} {K:DV→Prop} (hk:k=k') (hf:f=f') (hx:x=x'):eL k f x K=eL k' f' x' K:=by cases hk;cases hf;cases hx;rfl
@[congr] theorem HL {k:TK} {k':TK} {x:DV} {x':DV} {i:DV} {i':DV} {K:DV→Prop} (hk:k=k') (hx:x=x') (hi:i=i'):aD k x i K=aD k' x' i' K:=by cases hk;cases hx;cases hi;rfl
@[congr] theorem Mq {i:Nat} {i':Nat} {x:DV} {x':DV} {K:DV→Prop} (hi:i=i') (hx:x=x'):cq i x K=cq i' x' K:=by cases hi;cases hx;rfl
@[congr] theorem OH {k:TK} {k':TK} {f:Nat} {f':Nat} {x:DV} {x':DV} {K:DV→Prop} (hk:k=k') (hf:f=f') (hx:x=x'):fI k f x K=fI k' f' x' K:=by cases hk;cases hf;cases hx;rfl
@[congr] theorem Rq {op:BinOp} {k:IntKind} {m:Int} {m':Int} {n:Int} {n':Int} {K:DV→Prop} (hm:m=m') (hn:n=n'):kZ op k m n K=kZ op k m' n' K:=by cases hm;cases hn;rfl
@[congr] theorem Sc {op:BinOp} {x:ByteArray} {x':ByteArray} {y:ByteArray} {y':ByteArray} {K:DV→Prop} (hx:x=x') (hy:y=y'):gl op x y K=gl op x' y' K:=by cases hx;cases hy;rfl
@[congr] theorem SV {op:BinOp} {t:TK} {t':TK} {cx:Bool} {cx':Bool} {cy:Bool} {cy':Bool} {x:DV} {x':DV} {y:DV} {y':DV} {K:DV→Prop} (ht:t=t') (hcx:cx=cx') (hcy:cy=cy') (hx:x=x') (hy:y=y'):jK op t cx cy x y K=jK op t' cx' cy' x' y' K:=by cases ht;cases hcx;cases hcy;cases hx;cases hy;rfl
@[congr] theorem O7 {o:Option (List FK)} {o':Option (List FK)} {op:BinOp} {al:List DV} {al':List DV} {y:DV} {y':DV} {K:DV→Prop} (ho:o=o') (hal:al=al') (hy:y=y'):jH o op al y K=jH o' op al' y' K:=by cases ho;cases hal;cases hy;rfl
@[congr] theorem TL {ks:List FK} {al:List DV} {al':List DV} {bs:List DV} {bs':List DV} {r:Bool} {r':Bool} {F:Bool→Prop} (hal:al=al') (hbs:bs=bs') (hr:r=r'):eI ks al bs r F=eI ks al' bs' r' F:=by cases hal;cases hbs;cases hr;rfl
@[congr] theorem Ue {op:UnOp} {x:DV} {x':DV} {K:DV→Prop} (hx:x=x'):Ad op x K=Ad op x' K:=by cases hx;rfl
@[congr] theorem RW {a:TK} {a':TK} {b:TK} {b':TK} {x:DV} {x':DV} {K:DV→Prop} (ha:a=a') (hb:b=b') (hx:x=x'):gC a b x K=gC a' b' x' K:=by cases ha;cases hb;cases hx;rfl
@[congr] theorem Qd {a:TK} {a':TK} {b:TK} {b':TK} {ke:TK} {ke':TK} {kb:TK} {kb':TK} {S:St} {S':St} {x:DV} {x':DV} {K:DV→Prop} (ha:a=a') (hb:b=b') (hke:ke=ke') (hkb:kb=kb') (hS:S=S') (hx:x=x'):il a b ke kb S x K=il a' b' ke' kb' S' x' K:=by cases ha;cases hb;cases hke;cases hkb;cases hS;cases hx;rfl
@[congr] theorem PI {k:TK} {k':TK} {x:DV} {x':DV} {i:DV} {i':DV} {K:DV→Prop} (hk:k=k') (hx:x=x') (hi:i=i'):iW k x i K=iW k' x' i' K:=by cases hk;cases hx;cases hi;rfl
@[congr] theorem Uw {d:Option DV} {d':Option DV} {z:Int} {z':Int} {K:Int→Prop} (hd:d=d') (hz:z=z'):kF d z K=kF d' z' K:=by cases hd;cases hz;rfl
@[congr] theorem Qy {k:TK} {k':TK} {x:DV} {x':DV} {lo:Option DV} {lo':Option DV} {hi:Option DV} {hi':Option DV} {mx:Option DV} {mx':Option DV} {K:DV→Prop} (hk:k=k') (hx:x=x') (hlo:lo=lo') (hhi:hi=hi') (hmx:mx=mx'):fy k x lo hi mx K=fy k' x' lo' hi' mx' K:=by cases hk;cases hx;cases hlo;cases hhi;cases hmx;rfl
@[congr] theorem Tf {k:TK} {k':TK} {x:DV} {x':DV} {K:DV→Prop} (hk:k=k') (hx:x=x'):mc k x K=mc k' x' K:=by cases hk;cases hx;rfl
@[congr] theorem SX {k:TK} {k':TK} {x:DV} {x':DV} {K:DV→Prop} (hk:k=k') (hx:x=x'):pQ k x K=pQ k' x' K:=by cases hk;cases hx;rfl
@[congr] theorem SM {x:DV} {x':DV} {y:DV} {y':DV} {K:DV→Prop} (hx:x=x') (hy:y=y'):pS x y K=pS x' y' K:=by cases hx;cases hy;rfl
@[congr] theorem SK {x:DV} {x':DV} {y:DV} {y':DV} {K:DV→Prop} (hx:x=x') (hy:y=y'):pF x y K=pF x' y' K:=by cases hx;cases hy;rfl
@[congr] theorem P9 {n:Nat} {n':Nat} {S:St} {S':St} {x:DV} {x':DV} {y:DV} {y':DV} {K:St→Prop} (hn:n=n') (hS:S=S') (hx:x=x') (hy:y=y'):lD n S x y K=lD n' S' x' y' K:=by cases hn;cases hS;cases hx;cases hy;rfl
@[congr] theorem OV {n:Nat} {n':Nat} {S:St} {S':St} {x:DV} {x':DV} {y:DV} {y':DV} {K:St→Prop} (hn:n=n') (hS:S=S') (hx:x=x') (hy:y=y'):cZ n S x y K=cZ n' S' x' y' K:=by cases hn;cases hS;cases hx;cases hy;rfl
@[congr] theorem Hy {k:TK} {k':TK} {z:DV} {z':DV} {len:Nat} {len':Nat} {parts:List (Nat×DV)} {parts':List (Nat×DV)} {K:DV→Prop} (hk:k=k') (hz:z=z') (hlen:len=len') (hparts:parts=parts'):aL k z len parts K=aL k' z' len' parts' K:=by cases hk;cases hz;cases hlen;cases hparts;rfl
@[congr] theorem Rm {S:St} {S':St} {d:DV} {d':DV} {K:Nat→List DV→Prop} (hS:S=S') (hd:d=d'):iG S d K=iG S' d' K:=by cases hS;cases hd;rfl
@[congr] theorem SN {s:Nat} {s':Nat} {b:Nat} {b':Nat} {S:St} {S':St} {x:DV} {x':DV} {ys:List DV} {ys':List DV} {K:DV→St→Prop} (hs:s=s') (hb:b=b') (hS:S=S') (hx:x=x') (hys:ys=ys'):tZ s b S x ys K=tZ s' b' S' x' ys' K:=by cases hs;cases hb;cases hS;cases hx;cases hys;rfl
@[congr] theorem OR {k:TK} {k':TK} {k2:TK} {k2':TK} {S:St} {S':St} {x:DV} {x':DV} {y:DV} {y':DV} {K:DV→St→Prop} (hk:k=k') (hk2:k2=k2') (hS:S=S') (hx:x=x') (hy:y=y'):iZ k k2 S x y K=iZ k' k2' S' x' y' K:=by cases hk;cases hk2;cases hS;cases hx;cases hy;rfl
@[congr] theorem OL {k:TK} {k':TK} {z:DV} {z':DV} {S:St} {S':St} {x:DV} {x':DV} {y:DV} {y':DV} {K:DV→St→Prop} (hk:k=k') (hz:z=z') (hS:S=S') (hx:x=x') (hy:y=y'):iT k z S x y K=iT k' z' S' x' y' K:=by cases hk;cases hz;cases hS;cases hx;cases hy;rfl
@[congr] theorem Rx {k:TK} {k':TK} {k2:TK} {k2':TK} {S:St} {S':St} {x:DV} {x':DV} {y:DV} {y':DV} {K:DV→St→Prop} (hk:k=k') (hk2:k2=k2') (hS:S=S') (hx:x=x') (hy:y=y'):sd k k2 S x y K=sd k' k2' S' x' y' K:=by cases hk;cases hk2;cases hS;cases hx;cases hy;rfl
@[congr] theorem RJ {k:TK} {k':TK} {z:DV} {z':DV} {S:St} {S':St} {x:DV} {x':DV} {y:DV} {y':DV} {K:DV→St→Prop} (hk:k=k') (hz:z=z') (hS:S=S') (hx:x=x') (hy:y=y'):se k z S x y K=se k' z' S' x' y' K:=by cases hk;cases hz;cases hS;cases hx;cases hy;rfl
@[congr] theorem Ry {k:TK} {k':TK} {S:St} {S':St} {x:DV} {x':DV} {y:DV} {y':DV} {K:DV→St→Prop} (hk:k=k') (hS:S=S') (hx:x=x') (hy:y=y'):vf k S x y K=vf k' S' x' y' K:=by cases hk;cases hS;cases hx;cases hy;rfl
@[congr] theorem Pu {k:TK} {k':TK} {z:DV} {z':DV} {S:St} {S':St} {x:DV} {x':DV} {K:DV→St→Prop} (hk:k=k') (hz:z=z') (hS:S=S') (hx:x=x'):kg k z S x K=kg k' z' S' x' K:=by cases hk;cases hz;cases hS;cases hx;rfl
@[congr] theorem RT {S:St} {S':St} {s:Nat} {s':Nat} {ds:List DV} {ds':List DV} {o:Nat} {o':Nat} {b:Nat} {n:Nat} {n':Nat} {y:DV} {y':DV} {K:DV→St→Prop} (hS:S=S') (hs:s=s') (hds:ds=ds') (ho:o=o') (hn:n=n') (hy:y=y'):La S s ds o b n y K=La S' s' ds' o' b n' y' K:=by cases hS;cases hs;cases hds;cases ho;cases hn;cases hy;rfl
@[congr] theorem Rt {S:St} {S':St} {s:Nat} {s':Nat} {y:DV} {y':DV} {F:Nat→List DV→Prop} (hS:S=S') (hs:s=s') (hy:y=y'):vu S s y F=vu S' s' y' F:=by cases hS;cases hs;cases hy;rfl
@[congr] theorem Q5 {op:BinOp} {k:TK} {k':TK} {x:DV} {x':DV} {K:DV→Prop} (hk:k=k') (hx:x=x'):lE op k x K=lE op k' x' K:=by cases hk;cases hx;rfl
@[congr] theorem RX {S:St} {S':St} {x:DV} {x':DV} {z:Nat} {z':Nat} {K:DV→St→Prop} (hS:S=S') (hx:x=x') (hz:z=z'):rQ S x z K=rQ S' x' z' K:=by cases hS;cases hx;cases hz;rfl
@[congr] theorem OI {k:TK} {k':TK} {S:St} {S':St} {x:DV} {x':DV} {lo:Option DV} {lo':Option DV} {hi:Option DV} {hi':Option DV} {mx:Option DV} {mx':Option DV} {K:DV→St→Prop} (hk:k=k') (hS:S=S') (hx:x=x') (hlo:lo=lo') (hhi:hi=hi') (hmx:mx=mx'):fJ k S x lo hi mx K=fJ k' S' x' lo' hi' mx' K:=by cases hk;cases hS;cases hx;cases hlo;cases hhi;cases hmx;rfl
@[congr] theorem OU {k:TK} {k':TK} {S:St} {S':St} {x:DV} {x':DV} {lo:Option DV} {lo':Option DV} {hi:Option DV} {hi':Option DV} {mx:Option DV} {mx':Option DV} {K:DV→St→Prop} (hk:k=k') (hS:S=S') (hx:x=x') (hlo:lo=lo') (hhi:hi=hi') (hmx:mx=mx'):gN k S x lo hi mx K=gN k' S' x' lo' hi' mx' K:=by cases hk;cases hS;cases hx;cases hlo;cases hhi;cases hmx;rfl
@[congr] theorem HR {k:TK} {k':TK} {z:DV} {z':DV} {x:DV} {x':DV} {y:DV} {y':DV} {S:St} {S':St} {K:DV→St→Prop} (hk:k=k') (hz:z=z') (hx:x=x') (hy:y=y') (hS:S=S'):du k z x y S K=du k' z' x' y' S' K:=by cases hk;cases hz;cases hx;cases hy;cases hS;rfl
@[congr] theorem Ty {S:St} {S':St} {d:DV} {d':DV} {K:DV→St→Prop} (hS:S=S') (hd:d=d'):jy S d K=jy S' d' K:=by cases hS;cases hd;rfl
@[congr] theorem RD {S:St} {S':St} {d:List DV} {d':List DV} {K:List DV→St→Prop} (hS:S=S') (hd:d=d'):jZ S d K=jZ S' d' K:=by cases hS;cases hd;rfl
@[congr] theorem UE {S:St} {S':St} {d:DV} {d':DV} {K:DV→St→Prop} (hS:S=S') (hd:d=d'):shr S d K=shr S' d' K:=by cases hS;cases hd;rfl
@[congr] theorem Tz {S:St} {S':St} {d:List DV} {d':List DV} {K:List DV→St→Prop} (hS:S=S') (hd:d=d'):e9 S d K=e9 S' d' K:=by cases hS;cases hd;rfl
@[congr] theorem Ss {S:St} {S':St} {d:DV} {d':DV} {K:DV→St→Prop} (hS:S=S') (hd:d=d'):ot S d K=ot S' d' K:=by cases hS;cases hd;rfl
@[congr] theorem Sb {S:St} {S':St} {d:List DV} {d':List DV} {F:List DV→St→Prop} (hS:S=S') (hd:d=d'):fG S d F=fG S' d' F:=by cases hS;cases hd;rfl
@[congr] theorem TV {p:Option (Nat×Nat×Bool)} {p':Option (Nat×Nat×Bool)} {x:DV} {x':DV} {K:DV→Prop} (hp:p=p') (hx:x=x'):OF p x K=OF p' x' K:=by cases hp;cases hx;rfl
@[congr] theorem TZ {p:Option (Nat×Nat×Bool)} {p':Option (Nat×Nat×Bool)} {ds:List DV} {ds':List DV} {K:DV→Prop} (hp:p=p') (hds:ds=ds'):Uj p ds K=Uj p' ds' K:=by cases hp;cases hds;rfl
@[congr] theorem VT {t:Nat} {t':Nat} {d:DV} {d':DV} {fr:List DV} {fr':List DV} {want:Bool} {want':Bool} {A:List DV→Prop} {B:List DV→Prop} (ht:t=t') (hd:d=d') (hfr:fr=fr') (hwant:want=want'):gD t d fr want A B=gD t' d' fr' want' A B:=by cases ht;cases hd;cases hfr;cases hwant;rfl
@[congr] theorem VN {t:Option Tmp} {t':Option Tmp} {fr:List DV} {fr':List DV} {want:Bool} {want':Bool} {A:List DV→Prop} {B:List DV→Prop} (ht:t=t') (hfr:fr=fr') (hwant:want=want'):gK t fr want A B=gK t' fr' want' A B:=by cases ht;cases hfr;cases hwant;rfl
@[congr] theorem PE {ops:Array Oper} {fr:List DV} {fr':List DV} {gd:Option (Nat×Bool)} {gd':Option (Nat×Bool)} {A:List DV→Prop} {B:List DV→Prop} (hfr:fr=fr') (hgd:gd=gd'):bI ops fr gd A B=bI ops fr' gd' A B:=by cases hfr;cases hgd;rfl
@[congr] theorem Uh {k:TK} {k':TK} {z:DV} {z':DV} {parts:List (Nat×DV)} {parts':List (Nat×DV)} {K:DV→Prop} (hk:k=k') (hz:z=z') (hparts:parts=parts'):QS k z parts K=QS k' z' parts' K:=by cases hk;cases hz;cases hparts;rfl
@[congr] theorem UJ {xs:List DV} {xs':List DV} {i:Nat} {i':Nat} {F:DV→Prop} (hxs:xs=xs') (hi:i=i'):C4 xs i F=C4 xs' i' F:=by cases hxs;cases hi;rfl
@[congr] theorem Uk {xs:List DV} {xs':List DV} {i:Nat} {i':Nat} {F:DV→Prop} (hxs:xs=xs') (hi:i=i'):Kg xs i F=Kg xs' i' F:=by cases hxs;cases hi;rfl
@[congr] theorem Vu {o:Option Ob} {o':Option Ob} {F:Nat→List DV→Prop} {G:Nat→List DV→Prop} (ho:o=o'):bK o F G=bK o' F G:=by cases ho;rfl
@[congr] theorem Vz {o:Option Ob} {o':Option Ob} {F:KK→List (Value×DV×Nat)→Nat→Prop} (ho:o=o'):xK o F=xK o' F:=by cases ho;rfl
@[congr] theorem UP {o:Option Ob} {o':Option Ob} {F:Nat→Nat→List Nat→Nat→Prop} (ho:o=o'):iK o F=iK o' F:=by cases ho;rfl
@[congr] theorem Ut {o:Option Ob} {o':Option Ob} {G:Prop} {F:Nat→Nat→List Nat→Nat→Prop} (ho:o=o'):OC o G F=OC o' G F:=by cases ho;rfl
@[congr] theorem UD {o:Option DV} {o':Option DV} {F:DV→Prop} {G:Prop} (ho:o=o'):Nd o F G=Nd o' F G:=by cases ho;rfl
@[congr] theorem OQ {m:Option (KK×DV)} {m':Option (KK×DV)} {S:St} {S':St} {x:DV} {x':DV} {y:DV} {y':DV} {ok:Bool} {ok':Bool} {K:DV→Prop} (hm:m=m') (hS:S=S') (hx:x=x') (hy:y=y') (hok:ok=ok'):bM m S x y ok K=bM m' S' x' y' ok' K:=by cases hm;cases hS;cases hx;cases hy;cases hok;rfl
@[congr] theorem O2 {m:Option (KK×DV)} {m':Option (KK×DV)} {S:St} {S':St} {x:DV} {x':DV} {y:DV} {y':DV} {d:DV} {d':DV} {K:St→Prop} (hm:m=m') (hS:S=S') (hx:x=x') (hy:y=y') (hd:d=d'):dK m S x y d K=dK m' S' x' y' d' K:=by cases hm;cases hS;cases hx;cases hy;cases hd;rfl
@[congr] theorem OT {m:Option (KK×DV)} {m':Option (KK×DV)} {S:St} {S':St} {x:DV} {x':DV} {y:DV} {y':DV} {K:St→Prop} (hm:m=m') (hS:S=S') (hx:x=x') (hy:y=y'):ic m S x y K=ic m' S' x' y' K:=by cases hm;cases hS;cases hx;cases hy;rfl
@[congr] theorem Uy {k:TK} {k':TK} {m:Option (KK×DV)} {m':Option (KK×DV)} {S:St} {S':St} {x:DV} {x':DV} {K:DV→St→Prop} (hk:k=k') (hm:m=m') (hS:S=S') (hx:x=x'):KA k m S x K=KA k' m' S' x' K:=by cases hk;cases hm;cases hS;cases hx;rfl
@[congr] theorem O3 {S:St} {S':St} {x:DV} {x':DV} {K:DV→St→Prop} (hS:S=S') (hx:x=x'):jg S x K=jg S' x' K:=by cases hS;cases hx;rfl
@[congr] theorem Ul {b:Bool} {b':Bool} {S:St} {S':St} {x:DV} {x':DV} {K:DV→St→Prop} (hb:b=b') (hS:S=S') (hx:x=x'):Oc b S x K=Oc b' S' x' K:=by cases hb;cases hS;cases hx;rfl
@[congr] theorem P8 {S:St} {S':St} {x:DV} {x':DV} {K:DV→St→Prop} (hS:S=S') (hx:x=x'):jz S x K=jz S' x' K:=by cases hS;cases hx;rfl
@[congr] theorem Uz {o:Option Ob} {o':Option Ob} {F:ByteArray→Nat→Prop} (ho:o=o'):Pn o F=Pn o' F:=by cases ho;rfl
@[congr] theorem Qb {m:Option (KK×DV)} {m':Option (KK×DV)} {S:St} {S':St} {x:DV} {x':DV} {K:DV→St→Prop} (hm:m=m') (hS:S=S') (hx:x=x'):ji m S x K=ji m' S' x' K:=by cases hm;cases hS;cases hx;rfl
@[congr] theorem LV {m:Option (KK×DV)} {m':Option (KK×DV)} {r:Option Operand} {S:St} {S':St} {K:DV→St→Prop} (hm:m=m') (hS:S=S'):gu m r S K=gu m' r S' K:=by cases hm;cases hS;rfl
@[congr] theorem RR {S:St} {S':St} {x:DV} {x':DV} {s:Bool} {s':Bool} {K:DV→St→Prop} (hS:S=S') (hx:x=x') (hs:s=s'):qH S x s K=qH S' x' s' K:=by cases hS;cases hx;cases hs;rfl
@[congr] theorem Pz {S:St} {S':St} {x:DV} {x':DV} {K:DV→Prop} (hS:S=S') (hx:x=x'):jC S x K=jC S' x' K:=by cases hS;cases hx;rfl
@[congr] theorem U2 {α:Type} {o o':Option α} {F:α→Prop} (h:o=o'):oK o F=oK o' F:=by cases h;rfl
@[congr] theorem SG {P:Program} {w0:W0} {op:Op} {fr:List DV} {fr':List DV} {S:St} {S':St} {K:DV→St→Prop} (hfr:fr=fr') (hS:S=S'):aG P w0 op fr S K=aG P w0 op fr' S' K:=by cases hfr;cases hS;rfl
@[congr] theorem Rp {P:Program} {w0:W0} {op:Op} {fr:List DV} {fr':List DV} {S:St} {S':St} {K:DV→Prop} (hfr:fr=fr') (hS:S=S'):aV P w0 op fr S K=aV P w0 op fr' S' K:=by cases hfr;cases hS;rfl
@[congr] theorem RB {P:Program} {w0:W0} {cal:DV} {cal':DV} {ds:List DV} {ds':List DV} {S:St} {S':St} {K:DV→St→Prop} (hcal:cal=cal') (hds:ds=ds') (hS:S=S'):ml P w0 cal ds S K=ml P w0 cal' ds' S' K:=by cases hcal;cases hds;cases hS;rfl
@[congr] theorem Pf {P:Program} {w0:W0} {cal:DV} {cal':DV} {ds:List DV} {ds':List DV} {S:St} {S':St} {K:DV→Prop} (hcal:cal=cal') (hds:ds=ds') (hS:S=S'):lJ P w0 cal ds S K=lJ P w0 cal' ds' S' K:=by cases hcal;cases hds;cases hS;rfl
@[congr] theorem TS {P:Program} {w0:W0} {ops:Array Oper} {K:List DV→St→Prop} {l:List Oper} {fr:List DV} {fr':List DV} {S:St} {S':St} (hfr:fr=fr') (hS:S=S'):oE P w0 ops K l fr S=oE P w0 ops K l fr' S':=by cases hfr;cases hS;rfl
@[congr] theorem R0 {P:Program} {op:BinOp} {t:TypeId} {cx:Bool} {cx':Bool} {cy:Bool} {cy':Bool} {x:DV} {x':DV} {y:DV} {y':DV} {K:DV→Prop} (hcx:cx=cx') (hcy:cy=cy') (hx:x=x') (hy:y=y'):iw P op t cx cy x y K=iw P op t cx' cy' x' y' K:=by cases hcx;cases hcy;cases hx;cases hy;rfl
@[congr] theorem Qw {P:Program} {t:TypeId} {parts:List (Nat×DV)} {parts':List (Nat×DV)} {K:DV→Prop} (hparts:parts=parts'):eA P t parts K=eA P t parts' K:=by cases hparts;rfl
@[congr] theorem OO {P:Program} {t:TypeId} {ok:Bool} {ok':Bool} {x:DV} {x':DV} {K:DV→Prop} (hok:ok=ok') (hx:x=x'):oG P t ok x K=oG P t ok' x' K:=by cases hok;cases hx;rfl
@[congr] theorem R6 {P:Program} {fr:List DV} {fr':List DV} {S:St} {S':St} {K:DV→Prop} {r:ResultVar} (hfr:fr=fr') (hS:S=S'):nU P fr S K r=nU P fr' S' K r:=by cases hfr;cases hS;rfl
@[congr] theorem RI {P:Program} {fr:List DV} {fr':List DV} {S:St} {S':St} {r:List ResultVar} {K:List DV→Prop} (hfr:fr=fr') (hS:S=S'):qv P fr S r K=qv P fr' S' r K:=by cases hfr;cases hS;rfl
@[congr] theorem Sq {P:Program} {fr:List DV} {fr':List DV} {S:St} {S':St} {r:List ResultVar} {K:DV→Prop} (hfr:fr=fr') (hS:S=S'):kJ P fr S r K=kJ P fr' S' r K:=by cases hfr;cases hS;rfl
def cj(b:Bool)(A B:Prop):Prop:=match b with
 |true=>A
 |false=>B
theorem H2(A B:Prop):cj true A B=A:=rfl
theorem JW(A B:Prop):cj false A B=B:=rfl
@[congr] theorem TH {b b':Bool} {A B:Prop} (h:b=b'):cj b A B=cj b' A B:=by cases h;rfl
theorem HX(S:St)(ds:List DV)(F:List DV→St→Prop):fG S ds F=cj (dZ ds) (F ds S∨e9 S ds F) (e9 S ds F):=by
 unfold fG cj;cases dZ ds <;>rfl
attribute [go_sem ↓] H2 JW HX
def Hx(S:St)(d:DV)(K:DV→St→Prop):Prop:=∀b,iu S.box b→K (.v (.pointer (some ⟨b,0,none⟩))) ⟨(b,cd d)::S.box,S.acc⟩
@[congr] theorem Ui {S S':St} {d d':DV} {K:DV→St→Prop} (h1:S=S') (h2:d=d'):Hx S d K=Hx S' d' K:=by cases h1;cases h2;rfl
theorem xR(x:Operand):ng (.move x)=true:=rfl
theorem sy(x:Operand):ng (.assign x)=true:=rfl
theorem y0(c a b:Operand):ng (.pick c a b)=true:=rfl
theorem wL(t:TypeId)(x:Operand):ng (.load t x)=true:=rfl
theorem oe(t:TypeId)(x:Operand)(f:Nat):ng (.fieldAddr t x f)=true:=rfl
theorem og(t:TypeId)(x i:Operand):ng (.indexAddr t x i)=true:=rfl
theorem qY(x:Operand)(i:Nat):ng (.extract x i)=true:=rfl
theorem p0(x:Operand):ng (.nilCheck x)=true:=rfl
theorem vp(b:BinOp)(t:TypeId)(x y:Operand)(t':TypeId):ng (.binOp b t x y t')=true:=rfl
theorem yB(b:UnOp)(t:TypeId)(x:Operand):ng (.unOp b t x)=true:=rfl
theorem wu(t:TypeId)(parts:Array (Nat×Operand)):ng (.build t parts)=true:=rfl
theorem mK(t:TypeId)(len:Nat)(parts:Array (Nat×Operand)):ng (.buildSlice t len parts)=true:=rfl
theorem ph(fn:Fn)(a b:Array Operand):ng (.makeFunc fn a b)=true:=rfl
theorem uy(t:TypeId)(x:Operand)(lo hi mx:Option Operand):ng (.slice t x lo hi mx)=true:=rfl
theorem wy(t:TypeId)(x y:Operand):ng (.store t x y)=false:=rfl
theorem sI(t:TypeId)(x i:Operand)(ok:Bool):ng (.lookup t x i ok)=true:=rfl
theorem oc(t:TypeId)(m k v:Operand):ng (.mapUpdate t m k v)=false:=rfl
theorem AD(x:Operand)(a:Array Operand)(ts:Array TypeId):ng (.call ⟨.value x,a,ts⟩)=true:=rfl
theorem wc(a:Array Operand)(ts:Array TypeId):ng (.call ⟨.builtin .len,a,ts⟩)=true:=rfl
theorem o0(a:Array Operand)(ts:Array TypeId):ng (.call ⟨.builtin .append,a,ts⟩)=false:=rfl
theorem qB(a:Array Operand)(ts:Array TypeId):ng (.call ⟨.builtin .delete,a,ts⟩)=false:=rfl
theorem Fv(fr:List DV)(t:Nat):ev fr (.tmp t)=fr.getD t ud:=rfl
theorem xp(fr:List DV)(u:Value):ev fr (.const u)=cv u:=rfl
theorem Bw(fr:List DV)(f:FuncId):ev fr (.func f)= .v (.func (.func f) #[] #[]):=rfl
theorem CL(fr:List DV)(t:Nat)(d:DV):pt fr (some t) d=fr.set t d:=rfl
theorem Ay(fr:List DV)(d:DV):pt fr none d=fr:=rfl
theorem Hj(k:IntKind)(n:Int):cv (.int k n)= .v (.int k n):=rfl
theorem AS(b:Bool):cv (.bool b)= .v (.bool b):=rfl
theorem EF(s:ByteArray):cv (.string s)= .v (.string s):=rfl
theorem EN:cv (.slice none 0 0)= .sl 0 true []:=rfl
theorem Gr(a:Option Addr):cv (.pointer a)= .v (.pointer a):=rfl
theorem Ga(a:Option Nat):cv (.map a)= .v (.map a):=rfl
theorem Ej:cv (.nilFunc)= .v .nilFunc:=rfl
theorem uo:nP (.str)=false:=rfl
theorem vx(k:IntKind):nP (.int k)=false:=rfl
theorem x0(k:IntKind):rp (.int k)=true:=rfl
theorem Av(e s b:Nat)(i:Bool):rp (.sl e s b i)=false:=rfl
theorem um(e s b:Nat)(i:Bool):pj (.sl e s b i)=true:=rfl
theorem Dp(u:Value):qX (.v u)=true:=rfl
theorem B6(s:Nat)(f:Bool)(xs:List DV):qX (.sl s f xs)=true:=rfl
theorem AJ(u:Value):eK (.v u)=true:=rfl
theorem yH(s:Nat)(f:Bool)(xs:List DV):eK (.sl s f xs)=true:=rfl
theorem vn(ds:List DV):eK (.agg ds)=ds.all qX:=rfl
theorem Cc(t:Nat):vZ (.tmp t)=false:=rfl
theorem vX(u:Value):vZ (.const u)=true:=rfl
theorem wV:cK []=some []:=rfl
theorem Ge(u:Value)(ds:List DV):cK (.v u::ds)=(cK ds).map (u::·):=rfl
theorem vO(fs:List (Nat×Nat×Bool))(ds:List DV):iF fs ds []=some ds:=rfl
def S8(p:Option (Nat×Nat×Bool))(fs:List (Nat×Nat×Bool))(d:DV)(ds:List DV)(rest:List (Nat×DV)):Option (List DV):=match p with
 |none=>none
 |some (off,sz,_)=>if dH d&&(cd d).length==sz&&decide (off+sz≤ds.length)then iF fs (eW ds off (cd d)) rest else none
theorem sY(fs:List (Nat×Nat×Bool))(ds:List DV)(i:Nat)(d:DV)(rest:List (Nat×DV)):iF fs ds ((i,d)::rest)=S8 (fs[i]?) fs d ds rest:=by rw[iF];unfold S8;cases fs[i]? <;>rfl
theorem Q6(off sz:Nat)(ag:Bool)(fs:List (Nat×Nat×Bool))(d:DV)(ds:List DV)(rest:List (Nat×DV)):S8 (some (off,sz,ag)) fs d ds rest=if dH d&&(cd d).length==sz&&decide (off+sz≤ds.length)then iF fs (eW ds off (cd d)) rest else none:=rfl
theorem vd(s:Nat)(ds:List DV):kQ s ds []=some ds:=rfl
theorem sG(s:Nat)(ds:List DV)(i:Nat)(d:DV)(rest:List (Nat×DV)):kQ s ds ((i,d)::rest)=if dH d&&(cd d).length==s&&decide (i<ds.length)then kQ s (ds.set i d) rest else none:=rfl
theorem sN(ds:List DV)(o:Nat):eW ds o []=ds:=rfl
theorem qZ(ds:List DV)(o:Nat)(c:DV)(cs:List DV):eW ds o (c::cs)=eW (ds.set o c) (o+1) cs:=rfl
theorem uF(d:DV)(n:Nat)(y:DV):pJ d 0 n n y=some y:=by simp[pJ]
theorem yC(k:Nat)(x:Ob)(t:List (Nat×Ob))(p:Nat×Ob):Ix ((k,x)::t) k p=p::t:=by simp[Ix]
theorem xE(k:IntKind):sameKind .add k k=true:=by simp[sameKind]
theorem xe(k:IntKind):sameKind .sub k k=true:=by simp[sameKind]
theorem yT(k:IntKind):sameKind .mul k k=true:=by simp[sameKind]
theorem ye(k:IntKind):sameKind .quo k k=true:=by simp[sameKind]
theorem wM(k:IntKind):sameKind .rem k k=true:=by simp[sameKind]
theorem yS(k:IntKind):sameKind .and k k=true:=by simp[sameKind]
theorem BO(k:IntKind):sameKind .or k k=true:=by simp[sameKind]
theorem xq(k:IntKind):sameKind .xor k k=true:=by simp[sameKind]
theorem x5(k:IntKind):sameKind .eql k k=true:=by simp[sameKind]
theorem yQ(k:IntKind):sameKind .neq k k=true:=by simp[sameKind]
theorem wO(k:IntKind):sameKind .lss k k=true:=by simp[sameKind]
theorem wI(k:IntKind):sameKind .leq k k=true:=by simp[sameKind]
theorem yN(k:IntKind):sameKind .gtr k k=true:=by simp[sameKind]
theorem xa(k:IntKind):sameKind .geq k k=true:=by simp[sameKind]
theorem yJ(k k':IntKind):sameKind .shl k k'=true:=rfl
theorem yk(k k':IntKind):sameKind .shr k k'=true:=rfl
theorem rn{α:Type}(a:α):List.replicate 0 a=[]:=rfl
theorem rq{α:Type}(n:Nat)(a:α):List.replicate (n+1) a=a::List.replicate n a:=rfl
theorem H6{α:Type}(a b:α)(l:List α):(a::l).set 0 b=b::l:=rfl
theorem JT{α:Type}(a b:α)(l:List α)(n:Nat):(a::l).set (n+1) b=a::l.set n b:=rfl
theorem TQ(live:List Nat)(fr:List DV):wk live fr=cJ (rN fr 0 live):=rfl
theorem Bs(i:Nat)(js:List Nat):rN [] i js=[]:=rfl
theorem JO(d:DV)(ds:List DV)(i:Nat):rN (d::ds) i []= .any::rN ds (i+1) []:=rfl
theorem HP(d:DV)(ds:List DV)(i j:Nat)(js:List Nat):rN (d::ds) i (j::js)=if i=j then d::rN ds (i+1) js else .any::rN ds (i+1) (j::js):=rfl
theorem yW(fr:List DV):kE fr []=fr:=rfl
theorem vY(fr:List DV)(i:Nat)(d:DV)(us:List (Nat×DV)):kE fr ((i,d)::us)=kE (fr.set i d) us:=rfl
theorem BR(w0:W0)(fr:List DV)(n:Nat)(F:DV→Prop):AB w0 fr (.tmp n) F=F (ev fr (.tmp n)):=rfl
theorem y9(w0:W0)(fr:List DV)(b:Nat)(F:DV→Prop):AB w0 fr (.global b) F=nM w0 b F:=rfl
theorem NQ{P:Program}{w0:W0}{fr:List DV}{S:St}{K:DV→St→Prop}(x:Operand):aG P w0 (.move x) fr S K=(K (ev fr x) S):=rfl
theorem EH{P:Program}{w0:W0}{fr:List DV}{S:St}{K:DV→St→Prop}(x:Operand):aG P w0 (.assign x) fr S K=(K (ev fr x) S):=rfl
theorem Mi{P:Program}{w0:W0}{fr:List DV}{S:St}{K:DV→St→Prop}(c a b:Operand):aG P w0 (.pick c a b) fr S K=(gm (ev fr c) (ev fr a) (ev fr b) (K · S)):=rfl
theorem Np{P:Program}{w0:W0}{fr:List DV}{S:St}{K:DV→St→Prop}(t:TypeId)(x:Operand):aG P w0 (.load t x) fr S K=(ck (tk P t) S (ev fr x) (K · S)):=rfl
theorem wv{P:Program}{w0:W0}{fr:List DV}{S:St}{K:DV→St→Prop}(t:TypeId)(x:Operand)(f:Nat):aG P w0 (.fieldAddr t x f) fr S K=(eL (tk P t) f (ev fr x) (K · S)):=rfl
theorem we{P:Program}{w0:W0}{fr:List DV}{S:St}{K:DV→St→Prop}(t:TypeId)(x i:Operand):aG P w0 (.indexAddr t x i) fr S K=(AB w0 fr x fun d=>aD (tk P t) d (ev fr i) (K · S)):=rfl
theorem CR{P:Program}{w0:W0}{fr:List DV}{S:St}{K:DV→St→Prop}(x:Operand)(i:Nat):aG P w0 (.extract x i) fr S K=(cq i (ev fr x) (K · S)):=rfl
theorem xP{P:Program}{w0:W0}{fr:List DV}{S:St}{K:DV→St→Prop}(x:Operand):aG P w0 (.nilCheck x) fr S K=(notNil (ev fr x)=true∧K (ev fr x) S):=rfl
theorem IB{P:Program}{w0:W0}{fr:List DV}{S:St}{K:DV→St→Prop}(b:BinOp)(t:TypeId)(x y:Operand)(t':TypeId):aG P w0 (.binOp b t x y t') fr S K=(cj (eM y) (lE b (tk P t) (ev fr x) (K · S)) (iw P b t (vZ x) (vZ y) (ev fr x) (ev fr y) (K · S))):=by simp only[aG];unfold cj;cases eM y <;>rfl
theorem N0{P:Program}{w0:W0}{fr:List DV}{S:St}{K:DV→St→Prop}(b:UnOp)(t:TypeId)(x:Operand):aG P w0 (.unOp b t x) fr S K=(Ad b (ev fr x) (K · S)):=rfl
theorem AT{P:Program}{w0:W0}{fr:List DV}{S:St}{K:DV→St→Prop}(s d:TypeId)(x:Operand):aG P w0 (.convert s d x) fr S K=(il (tk P s) (tk P d) (tk P (de P s)) (tk P (de P d)) S (ev fr x) (K · S)):=rfl
theorem Jn{P:Program}{w0:W0}{fr:List DV}{S:St}{K:DV→St→Prop}(t:TypeId)(x:Operand):aG P w0 (.makeInterface t x) fr S K=(nP (tk P t)=false∧shr S (ev fr x) fun d S=>K (.im t d) S):=rfl
theorem JU{P:Program}{w0:W0}{fr:List DV}{S:St}{K:DV→St→Prop}(t:TypeId)(parts:List (Nat×Operand)):aG P w0 (.build t parts.toArray) fr S K=(e9 S (parts.map fun p=>ev fr p.2) fun ds S=>eA P t ((parts.map (·.1)).zip ds) (K · S)):=rfl
theorem tp{P:Program}{w0:W0}{fr:List DV}{S:St}{K:DV→St→Prop}(t:TypeId)(len:Nat)(parts:List (Nat×Operand)):aG P w0 (.buildSlice t len parts.toArray) fr S K=(e9 S (parts.map fun p=>ev fr p.2) fun ds S=>aL (tk P t) (zD P (de P t)) len ((parts.map (·.1)).zip ds) (K · S)):=rfl
theorem xz{P:Program}{w0:W0}{fr:List DV}{S:St}{K:DV→St→Prop}(fn:Fn)(a b:List Operand):aG P w0 (.makeFunc fn a.toArray b.toArray) fr S K=(jQ fn (a.map (ev fr)) (b.map (ev fr)) (K · S)):=rfl
theorem JC{P:Program}{w0:W0}{fr:List DV}{S:St}{K:DV→St→Prop}(t:TypeId)(x:Operand)(lo hi mx:Option Operand):aG P w0 (.slice t x lo hi mx) fr S K=((mx.isSome=true→hi.isSome=true)∧fJ (tk P t) S (ev fr x) (lo.map (ev fr)) (hi.map (ev fr)) (mx.map (ev fr)) K):=rfl
theorem Q1{P:Program}{w0:W0}{fr:List DV}{S:St}{K:DV→St→Prop}(t:TypeId)(x:Operand):aG P w0 (.box t x) fr S K=(dH (ev fr x)=true∧Hx S (ev fr x) K):=rfl
theorem IG{P:Program}{w0:W0}{fr:List DV}{S:St}{K:DV→St→Prop}(t:TypeId):aG P w0 (.alloc t) fr S K=(dH (zD P t)=true∧Hx S (zD P t) K):=rfl
theorem Ki{P:Program}{w0:W0}{fr:List DV}{S:St}{K:DV→St→Prop}(t:TypeId)(x y:Operand):aG P w0 (.store t x y) fr S K=((P.info? t).isSome=true∧cZ (P.cellsOf t) S (ev fr x) (ev fr y) (K ud)):=rfl
theorem uU{P:Program}{w0:W0}{fr:List DV}{S:St}{K:DV→St→Prop}(t:TypeId)(x y:Operand):aG P w0 (.makeSlice t x y) fr S K=(du (tk P t) (zD P (de P t)) (ev fr x) (ev fr y) S K):=rfl
theorem PO{P:Program}{w0:W0}{fr:List DV}{S:St}{K:DV→St→Prop}(x:Operand)(t:TypeId):aG P w0 (.call ⟨.builtin .len, #[x], #[t]⟩) fr S K=(mc (tk P t) (ev fr x) (K · S)):=rfl
theorem Qn{P:Program}{w0:W0}{fr:List DV}{S:St}{K:DV→St→Prop}(x:Operand)(t:TypeId):aG P w0 (.call ⟨.builtin .cap, #[x], #[t]⟩) fr S K=(pQ (tk P t) (ev fr x) (K · S)):=rfl
theorem C5{P:Program}{w0:W0}{fr:List DV}{S:St}{K:DV→St→Prop}(x y:Operand)(t t':TypeId):aG P w0 (.call ⟨.builtin .append, #[x,y], #[t,t']⟩) fr S K=(cj (sk (ev fr x)) (cj (rp (tk P t')) (se (tk P t) (zD P (de P t)) S (ev fr x) (ev fr y) K) (sd (tk P t) (tk P t') S (ev fr x) (ev fr y) K)) (cj (rp (tk P t')) (iT (tk P t) (zD P (de P t)) S (ev fr x) (ev fr y) K) (iZ (tk P t) (tk P t') S (ev fr x) (ev fr y) K))):=by simp only[aG];unfold cj;cases sk (ev fr x) <;>cases rp (tk P t') <;>rfl
theorem Ii{P:Program}{w0:W0}{fr:List DV}{S:St}{K:DV→St→Prop}(x:Operand)(t:TypeId):aG P w0 (.call ⟨.builtin .clear, #[x], #[t]⟩) fr S K=(kg (tk P t) (zD P (de P t)) S (ev fr x) K):=rfl
theorem Pe{P:Program}{w0:W0}{fr:List DV}{S:St}{K:DV→St→Prop}(x y:Operand)(ts:Array TypeId):aG P w0 (.call ⟨.builtin .min, #[x,y],ts⟩) fr S K=(pS (ev fr x) (ev fr y) (K · S)):=rfl
theorem Qe{P:Program}{w0:W0}{fr:List DV}{S:St}{K:DV→St→Prop}(x y:Operand)(ts:Array TypeId):aG P w0 (.call ⟨.builtin .max, #[x,y],ts⟩) fr S K=(pF (ev fr x) (ev fr y) (K · S)):=rfl
theorem Mu{P:Program}{w0:W0}{fr:List DV}{S:St}{K:DV→St→Prop}(cal:Operand)(a:List Operand)(ts:Array TypeId):aG P w0 (.call ⟨.value cal,a.toArray,ts⟩) fr S K=(ml P w0 (ev fr cal) (a.map (ev fr)) S K):=rfl
theorem Dt{P:Program}{w0:W0}{fr:List DV}{S:St}{K:DV→St→Prop}(t:TypeId)(x y:Operand)(ok:Bool):aG P w0 (.lookup t x y ok) fr S K=(bM (kP P t) S (ev fr x) (ev fr y) ok (K · S)):=rfl
theorem GK{P:Program}{w0:W0}{fr:List DV}{S:St}{K:DV→St→Prop}(t:TypeId)(x y z:Operand):aG P w0 (.insert t x y z) fr S K=(dK (kP P t) S (ev fr x) (ev fr y) (ev fr z) (K ud)):=rfl
theorem u4{P:Program}{w0:W0}{fr:List DV}{S:St}{K:DV→St→Prop}(t:TypeId)(x y z:Operand):aG P w0 (.mapUpdate t x y z) fr S K=(dK (kP P t) S (ev fr x) (ev fr y) (ev fr z) (K ud)):=rfl
theorem BX{P:Program}{w0:W0}{fr:List DV}{S:St}{K:DV→St→Prop}(t:TypeId)(r:Option Operand):aG P w0 (.makeMap t r) fr S K=(gu (kP P t) r S K):=rfl
theorem Kl{P:Program}{w0:W0}{fr:List DV}{S:St}{K:DV→St→Prop}(t:TypeId)(x:Operand):aG P w0 (.range t x) fr S K=(KA (tk P t) (kP P t) S (ev fr x) K):=rfl
theorem Lv{P:Program}{w0:W0}{fr:List DV}{S:St}{K:DV→St→Prop}(x:Operand)(s:Bool):aG P w0 (.next x s) fr S K=(Oc s S (ev fr x) K):=rfl
theorem IJ{P:Program}{w0:W0}{fr:List DV}{S:St}{K:DV→St→Prop}(x:Operand):aG P w0 (.entry x) fr S K=(jC S (ev fr x) (K · S)):=rfl
theorem G1{P:Program}{w0:W0}{fr:List DV}{S:St}{K:DV→St→Prop}(x y:Operand)(t t':TypeId):aG P w0 (.call ⟨.builtin .delete, #[x,y], #[t,t']⟩) fr S K=(ic (kP P t) S (ev fr x) (ev fr y) (K ud)):=rfl
theorem Na{P:Program}{w0:W0}{fr:List DV}{S:St}{K:DV→Prop}(x:Operand):aV P w0 (.move x) fr S K=(K (ev fr x)):=rfl
theorem Gc{P:Program}{w0:W0}{fr:List DV}{S:St}{K:DV→Prop}(x:Operand):aV P w0 (.assign x) fr S K=(K (ev fr x)):=rfl
theorem NY{P:Program}{w0:W0}{fr:List DV}{S:St}{K:DV→Prop}(c a b:Operand):aV P w0 (.pick c a b) fr S K=(gm (ev fr c) (ev fr a) (ev fr b) K):=rfl
theorem Nv{P:Program}{w0:W0}{fr:List DV}{S:St}{K:DV→Prop}(t:TypeId)(x:Operand):aV P w0 (.load t x) fr S K=(ck (tk P t) S (ev fr x) K):=rfl
theorem vR{P:Program}{w0:W0}{fr:List DV}{S:St}{K:DV→Prop}(t:TypeId)(x:Operand)(f:Nat):aV P w0 (.fieldAddr t x f) fr S K=(eL (tk P t) f (ev fr x) K):=rfl
theorem vS{P:Program}{w0:W0}{fr:List DV}{S:St}{K:DV→Prop}(t:TypeId)(x i:Operand):aV P w0 (.indexAddr t x i) fr S K=(AB w0 fr x fun d=>aD (tk P t) d (ev fr i) K):=rfl
theorem Bo{P:Program}{w0:W0}{fr:List DV}{S:St}{K:DV→Prop}(x:Operand)(i:Nat):aV P w0 (.extract x i) fr S K=(cq i (ev fr x) K):=rfl
theorem yF{P:Program}{w0:W0}{fr:List DV}{S:St}{K:DV→Prop}(x:Operand):aV P w0 (.nilCheck x) fr S K=(notNil (ev fr x)=true∧K (ev fr x)):=rfl
theorem HN{P:Program}{w0:W0}{fr:List DV}{S:St}{K:DV→Prop}(b:BinOp)(t:TypeId)(x y:Operand)(t':TypeId):aV P w0 (.binOp b t x y t') fr S K=(eM y=false∧iw P b t (vZ x) (vZ y) (ev fr x) (ev fr y) K):=rfl
theorem Oo{P:Program}{w0:W0}{fr:List DV}{S:St}{K:DV→Prop}(b:UnOp)(t:TypeId)(x:Operand):aV P w0 (.unOp b t x) fr S K=(Ad b (ev fr x) K):=rfl
theorem xL{P:Program}{w0:W0}{fr:List DV}{S:St}{K:DV→Prop}(fn:Fn)(a b:List Operand):aV P w0 (.makeFunc fn a.toArray b.toArray) fr S K=(jQ fn (a.map (ev fr)) (b.map (ev fr)) K):=rfl
theorem Is{P:Program}{w0:W0}{fr:List DV}{S:St}{K:DV→Prop}(t:TypeId)(x:Operand)(lo hi mx:Option Operand):aV P w0 (.slice t x lo hi mx) fr S K=((mx.isSome=true→hi.isSome=true)∧qX (ev fr x)=true∧fy (tk P t) (ev fr x) (lo.map (ev fr)) (hi.map (ev fr)) (mx.map (ev fr)) K):=rfl
theorem FP{P:Program}{w0:W0}{fr:List DV}{S:St}{K:DV→Prop}(t:TypeId)(x y:Operand)(ok:Bool):aV P w0 (.lookup t x y ok) fr S K=(bM (kP P t) S (ev fr x) (ev fr y) ok K):=rfl
theorem Ja{P:Program}{w0:W0}{fr:List DV}{S:St}{K:DV→Prop}(t:TypeId)(parts:List (Nat×Operand)):aV P w0 (.build t parts.toArray) fr S K=((parts.map fun p=>ev fr p.2).all eK=true∧eA P t ((parts.map (·.1)).zip (parts.map fun p=>ev fr p.2)) K):=rfl
theorem tW{P:Program}{w0:W0}{fr:List DV}{S:St}{K:DV→Prop}(t:TypeId)(len:Nat)(parts:List (Nat×Operand)):aV P w0 (.buildSlice t len parts.toArray) fr S K=((parts.map fun p=>ev fr p.2).all eK=true∧aL (tk P t) (zD P (de P t)) len ((parts.map (·.1)).zip (parts.map fun p=>ev fr p.2)) K):=rfl
theorem Pp{P:Program}{w0:W0}{fr:List DV}{S:St}{K:DV→Prop}(x:Operand)(t:TypeId):aV P w0 (.call ⟨.builtin .len, #[x], #[t]⟩) fr S K=(mc (tk P t) (ev fr x) K):=rfl
theorem L0{P:Program}{w0:W0}{fr:List DV}{S:St}{K:DV→Prop}(cal:Operand)(a:List Operand)(ts:Array TypeId):aV P w0 (.call ⟨.value cal,a.toArray,ts⟩) fr S K=(lJ P w0 (ev fr cal) (a.map (ev fr)) S K):=rfl
attribute [go_sem ↓] NQ EH Mi Np wv we CR xP IB N0 AT Jn JU tp xz JC Q1 IG Ki uU PO Qn C5 Ii Pe Qe Mu Dt GK u4 BX Kl Lv IJ G1
attribute [go_sem ↓] Na Gc NY Nv vR vS Bo yF HN Oo xL Is FP Ja tW Pp L0
attribute [go_sem] xR sy y0 wL oe og qY p0 vp yB wu mK ph uy wy sI oc AD wc o0 qB
attribute [go_sem] Fv xp Bw CL Ay Hj AS EF EN Gr Ga Ej uo vx x0 Av
attribute [go_sem] um Dp B6 AJ yH vn Cc vX wV Ge vO sY Q6
attribute [go_sem] vd sG sN qZ uF yC xE xe yT ye wM yS BO xq x5 yQ wO wI yN xa yJ yk rn rq H6 JT TQ Bs JO HP yW vY BR
attribute [go_sem] y9
section
variable {P:Program} {w0:W0} {K:DV→Prop} {A B:Prop} {F G:List DV→Prop}
/- Tests:what is known is gone by;what can't be known parts the VU. -/
theorem DS:cu (.v (.bool true)) A B=A:=by simp[cu]
theorem Fw:cu (.v (.bool false)) A B=B:=by simp[cu]
theorem GA(p:Prop)[Decidable p]:cu (.v (.bool (decide p))) A B=((p→A)∧(¬p→B)):=by simp[cu]
theorem DT(b:Bool):cu (.v (.bool (!b))) A B=cu (.v (.bool b)) B A:=by
 simp only[cu,Bool.not_eq_eq_eq_not,Bool.not_true,Bool.not_false];exact propext ⟨fun h=>⟨h.2,h.1⟩,fun h=>⟨h.2,h.1⟩⟩
theorem E6(b:Bool):cu (.v (.bool b)) A B=((b=true→A)∧(b=false→B)):=rfl
theorem Dg(a b:DV):gm (.v (.bool true)) a b K=K a:=by simp[gm]
theorem Ft(a b:DV):gm (.v (.bool false)) a b K=K b:=by simp[gm]
/- A choice between what is known is the test itself. -/
theorem JN(t:Nat)(fr:List DV):gD t (.v (.bool true)) fr true F G=F (fr.set t (.v (.bool true))):=by simp[gD]
theorem Kv(t:Nat)(fr:List DV):gD t (.v (.bool true)) fr false F G=G (fr.set t (.v (.bool true))):=by simp[gD]
theorem JV(t:Nat)(fr:List DV):gD t (.v (.bool false)) fr true F G=G (fr.set t (.v (.bool false))):=by simp[gD]
theorem Kf(t:Nat)(fr:List DV):gD t (.v (.bool false)) fr false F G=F (fr.set t (.v (.bool false))):=by simp[gD]
theorem J5(p:Prop)[Decidable p](t:Nat)(fr:List DV):gD t (.v (.bool (decide p))) fr true F G=((p→F (fr.set t (.v (.bool true))))∧(¬p→G (fr.set t (.v (.bool false))))):=by simp[gD]
theorem Ji(p:Prop)[Decidable p](t:Nat)(fr:List DV):gD t (.v (.bool (decide p))) fr false F G=((p→G (fr.set t (.v (.bool true))))∧(¬p→F (fr.set t (.v (.bool false))))):=by
 simp only[gD,decide_eq_false_iff_not,Bool.not_false,decide_eq_true_eq];exact propext ⟨fun h=>⟨h.2,h.1⟩,fun h=>⟨h.2,h.1⟩⟩
theorem zG(b:Bool)(t:Nat)(fr:List DV):gD t (.v (.bool b)) fr true F G=((b=true→F (fr.set t (.v (.bool true))))∧(b=false→G (fr.set t (.v (.bool false))))):=by simp[gD]
theorem zM(b:Bool)(t:Nat)(fr:List DV):gD t (.v (.bool b)) fr false F G=((b=true→G (fr.set t (.v (.bool true))))∧(b=false→F (fr.set t (.v (.bool false))))):=by
 simp only[gD,Bool.not_false];exact propext ⟨fun h=>⟨h.2,h.1⟩,fun h=>⟨h.2,h.1⟩⟩
end
attribute [go_sem ↓] DS Fw GA DT Dg Ft JN Kv JV Kf J5 Ji
attribute [go_sem ↓ low] E6 zG zM
attribute [go_sem] List.length_cons List.length_nil List.length_map List.cons_append List.nil_append List.map_cons List.map_nil List.zip_cons_cons List.zip_nil_right
section
variable {P:Program} {w0:W0} {ops:Array Oper} {K:List DV→St→Prop} {fr:List DV} {S:St} {rest:List Oper} {dst:Option Tmp} {op:Op} {ty:TypeId} {pos:String} {aft:Array Edge}
theorem BN:oE P w0 ops K [] fr S=K fr S:=rfl
theorem xn:oE P w0 ops K (⟨dst,op,ty,pos,aft,none⟩::rest) fr S=aG P w0 op fr S fun d S'=>oE P w0 ops K rest (pt fr dst d) S':=rfl
theorem xu(j:Nat)(want:Bool):oE P w0 ops K (⟨dst,op,ty,pos,aft,some (j,want)⟩::rest) fr S=gK ((ops[j]?).bind (·.dst)) fr want (fun fr=>aG P w0 op fr S fun d S'=>oE P w0 ops K rest (pt fr dst d) S') (fun fr=>oE P w0 ops K rest (pt fr dst ud) S):=oL _ _ _ _ _ _
end
def QC(P:Program)(w0:W0)(f:FuncId)(ds:List DV)(S:St)[K:Cn (DV→Prop)]:Prop:=∃d,aa P w0 f ds S (fun d' S'=>d'=d∧S'=S)∧K.k d
theorem IV{P:Program}{w0:W0}(f:FuncId)(a cap:Array Value)(ds:List DV)(S:St)(K:DV→Prop):lJ P w0 (.v (.func (.func f) a cap)) ds S K=(a.size=0∧okF P f=true∧cap.toList.all (fun u=>u.oneCell')=true∧ds.all eK=true∧@QC P w0 f (ds++cap.toList.map .v) S ⟨K⟩):=rfl
attribute [go_sem ↓] BN xn xu IV gq eN kZ gN qv rQ
attribute [go_sem] List.getD_cons_succ List.getD_cons_zero List.getElem?_cons_succ List.getElem?_cons_zero List.getElem?_toArray Option.bind_some List.all_cons List.all_nil Bool.and_self Bool.and_true
attribute [go_sem] Nat.zero_add true_and and_true List.drop_zero List.drop_succ_cons List.take_succ_cons List.take_zero Option.map_some Option.map_none Option.isSome_some Option.isSome_none Option.isNone_none Option.isNone_some
attribute [go_sem] Bool.false_eq_true if_true if_false or_true true_or false_or or_false forall_const false_implies imp_self Bool.not_true Bool.not_false beq_self_eq_true decide_eq_true_eq decide_eq_false_iff_not decide_true decide_false
attribute [go_sem] Int.toNat_natCast Int.natCast_nonneg Int.ofNat_lt Int.ofNat_le Int.natCast_inj List.getElem?_map Option.map_eq_some_iff forall_exists_index and_imp forall_apply_eq_imp_iff₂ forall_eq_apply_imp_iff ne_eq not_false_eq_true not_true_eq_false
attribute [go_sem] List.size_toArray List.append_nil Int.le_refl Nat.le_refl List.drop_nil List.take_nil Int.toNat_zero Int.natCast_zero Int.natCast_one Int.cast_ofNat_Int Bool.or_true Bool.or_false Bool.true_or Bool.false_or Bool.false_and Bool.and_false Bool.true_and List.isEmpty_nil List.isEmpty_cons
attribute [go_sem] dI dU dY dB dS Nat.lt_add_one forall_eq forall_eq' true_implies implies_true Option.some.injEq
structure FN{α:Type}(l:List (Nat×α)) where
 m:Nat
 h:iu l m
def FN.n{α:Type}{l:List (Nat×α)}(b:FN l):Nat:=b.m
theorem oC{α:Type}(l:List (Nat×α))(F:Nat→Prop):(∀b,iu l b→F b)=∀b:FN l,F b.n:=propext ⟨fun h b=>h b.n b.h,fun h b hb=>h ⟨b,hb⟩⟩
theorem qi{α:Type}:∀{l:List (Nat×α)} {b:Nat},iu l b→lk l b=none
 |[],_,_=>rfl
 |(k,x)::t,b,h=>by
  simp only[iu]at h;unfold lk;rw[if_neg (by first|exact fun e=>h.1 e|exact fun e=>h.1 e.symm)];exact qi (by first|exact h.2|exact h.2.2)
theorem ak{α:Type}{l:List (Nat×α)}(b:FN l):lk l b.n=none:=qi b.h
theorem aw{α:Type}{l:List (Nat×α)}(b:FN l)(c:Nat)(h:(lk l c).isSome=true):(b.n=c)=False:=by
 refine eq_false fun e=>?_;subst e;rw[show lk l b.n=none from qi b.h]at h;cases h
theorem D1{α:Type}{l:List (Nat×α)}(b:FN l)(c:Nat)(h:(lk l c).isSome=true):(c=b.n)=False:=by
 refine eq_false fun e=>?_;subst e;rw[show lk l b.n=none from qi b.h]at h;cases h
section
variable {S:St} {K:DV→St→Prop}
theorem JR(d:DV):Hx S d K=∀b:FN S.box,K (.v (.pointer (some ⟨b.n,0,none⟩))) ⟨(b.n,cd d)::S.box,S.acc⟩:=oC S.box fun b=>K (.v (.pointer (some ⟨b,0,none⟩))) ⟨(b,cd d)::S.box,S.acc⟩
theorem EY(ds:List DV):Hx S (.agg ds) K=∀b:FN S.box,K (.v (.pointer (some ⟨b.n,0,none⟩))) ⟨(b.n,ds)::S.box,S.acc⟩:=JR _
theorem NJ(u:Value):Hx S (.v u) K=∀b:FN S.box,K (.v (.pointer (some ⟨b.n,0,none⟩))) ⟨(b.n,[.v u])::S.box,S.acc⟩:=JR _
theorem JI(s:Nat)(f:Bool)(xs:List DV):Hx S (.sl s f xs) K=∀b:FN S.box,K (.v (.pointer (some ⟨b.n,0,none⟩))) ⟨(b.n,[.sl s f xs])::S.box,S.acc⟩:=JR _
end
theorem Aw(kk:KK)(z:DV)(S:St)(K:DV→St→Prop):gu (some (kk,z)) none S K=∀l:FN S.acc,K (.mp l.n) ⟨S.box,(l.n,.xo (.mp kk [] 0))::S.acc⟩:=by
 unfold gu;simp only[oK,true_and];exact oC S.acc fun l=>K (.mp l) ⟨S.box,(l,.xo (.mp kk [] 0))::S.acc⟩
def OS(S:St)(f:XO)(K:DV→St→Prop):Prop:=∀l,iu S.acc l→K (.it l) ⟨S.box,(l,.xo f)::S.acc⟩
theorem PY(S:St)(f:XO)(K:DV→St→Prop):OS S f K=∀l:FN S.acc,K (.it l.n) ⟨S.box,(l.n,.xo f)::S.acc⟩:=oC S.acc fun l=>K (.it l) ⟨S.box,(l,.xo f)::S.acc⟩
theorem HT(p:KK×DV)(S:St)(l:Nat)(K:DV→St→Prop):ji (some p) S (.mp l) K=xK (lk S.acc l) fun kk es clk=>OS S (.it l clk [] clk) K:=by
 unfold ji OS;simp only[xK,Zf,true_and]
theorem GP(p:KK×DV)(S:St)(K:DV→St→Prop):ji (some p) S (.v (.map none)) K=OS S .ni K:=by
 unfold ji OS;simp only[Zf,true_and]
theorem F7(s:ByteArray)(S:St)(K:DV→St→Prop):jg S (.v (.string s)) K=OS S (.si s 0) K:=rfl
theorem D6(m:Option (KK×DV))(S:St)(x:DV)(K:DV→St→Prop):KA .str m S x K=jg S x K:=rfl
theorem Gt(k e:TypeId)(m:Option (KK×DV))(S:St)(x:DV)(K:DV→St→Prop):KA (.map k e) m S x K=ji m S x K:=rfl
theorem Ox(S:St)(x:DV)(K:DV→St→Prop):Oc true S x K=jz S x K:=rfl
theorem OA(S:St)(x:DV)(K:DV→St→Prop):Oc false S x K=qH S x false K:=rfl
attribute [go_sem ↓] Aw PY HT GP F7 D6 Gt Ox OA QN H7
attribute [go_sem ↓] oC EY NJ JI
attribute [go_sem] aw D1 Option.isSome_some
noncomputable def pB(P:Prop):Bool:=@decide P (Classical.propDecidable P)
theorem dj{P:Prop}(h:P):pB P=true:=@decide_eq_true _ (Classical.propDecidable _) h
theorem j0{P:Prop}(h:¬P):pB P=false:=@decide_eq_false _ (Classical.propDecidable _) h
theorem nH(P:Prop):(pB P=true)=P:=propext ⟨fun h=>@of_decide_eq_true _ (Classical.propDecidable _) h,dj⟩
theorem wo(P:Prop):(pB P=false)=¬P:=propext ⟨fun h=>@of_decide_eq_false _ (Classical.propDecidable _) h,j0⟩
theorem P2(P:Prop):(true=pB P)=P:=(propext eq_comm).trans (nH P)
theorem Qq(P:Prop):(false=pB P)=¬P:=(propext eq_comm).trans (wo P)
theorem Sv(P:Prop)[Decidable P]:(true=decide P)=P:=(propext eq_comm).trans decide_eq_true_eq
theorem SZ(P:Prop)[Decidable P]:(false=decide P)=¬P:=(propext eq_comm).trans (propext decide_eq_false_iff_not)
theorem C6(P A B:Prop):cu (.v (.bool (pB P))) A B=((P→A)∧(¬P→B)):=by
 show((pB P=true→A)∧(pB P=false→B))=_;rw[nH,wo]
theorem Jk(P:Prop)(t:Nat)(fr:List DV)(F G:List DV→Prop):gD t (.v (.bool (pB P))) fr true F G=((P→F (fr.set t (.v (.bool true))))∧(¬P→G (fr.set t (.v (.bool false))))):=by
 rw[zG,nH,wo]
theorem Iw(P:Prop)(t:Nat)(fr:List DV)(F G:List DV→Prop):gD t (.v (.bool (pB P))) fr false F G=((P→G (fr.set t (.v (.bool true))))∧(¬P→F (fr.set t (.v (.bool false))))):=by
 rw[zM,nH,wo]
theorem G6(P:Prop):(!pB P)=pB (¬P):=by
 by_cases h:P
 ·rw[dj h,j0 (fun k=>k h)];rfl
 ·rw[j0 h,dj h];rfl
theorem I4{P Q:Prop}(h:P↔Q):pB P=pB Q:=by rw[propext h]
attribute [go_sem ↓] C6 Jk Iw
attribute [go_sem] nH wo P2 Qq Sv SZ G6
theorem yj{α β:Type}(f:α→β)(n:Nat)(l:List α):List.take n (List.map f l)=List.map f (List.take n l):=List.map_take.symm
theorem yv{α β:Type}(f:α→β)(n:Nat)(l:List α):List.drop n (List.map f l)=List.map f (List.drop n l):=List.map_drop.symm
theorem Cv{α β:Type}(f:α→β)(a b:List α):List.map f a++List.map f b=List.map f (a++b):=Xw.symm
attribute [go_sem] yj yv Cv List.length_append List.length_take List.length_drop List.take_length List.drop_length Nat.min_self
theorem TF(P Q:Prop)[Decidable P]:(decide P=pB Q)=(P↔Q):=propext ⟨fun h=>⟨fun p=>(nH Q).mp (h▸decide_eq_true p),fun q=>of_decide_eq_true (h.trans (dj q))⟩,fun h=>by
 by_cases p:P
 ·rw[dj (h.1 p),decide_eq_true p]
 ·rw[j0 (fun q=>p (h.2 q)),decide_eq_false p]⟩
theorem Sh(P Q:Prop):(pB P=pB Q)=(P↔Q):=propext ⟨fun h=>⟨fun p=>(nH Q).mp (h▸dj p),fun q=>(nH P).mp (h.trans (dj q))⟩,I4⟩
theorem SF(P Q:Prop)[Decidable P][Decidable Q]:(decide P=decide Q)=(P↔Q):=propext decide_eq_decide
attribute [go_sem] TF Sh SF
theorem H9(P:Prop)[Decidable P]:(!decide P)=decide (¬P):=(decide_not).symm
attribute [go_sem] H9 Bool.not_eq_true' Bool.not_eq_false'
attribute [go_sem] Value.oneCell' false_and and_false and_self List.length_set
attribute [go_sem] Lp
attribute [go_sem ↓] Gx yI NB LD xH Fg E1
attribute [go_sem] Hw Qf LS CH xh Ms LL wX ub rr uC MQ
attribute [go_sem ↓] Qx QK CG CZ Gl J4 Ih SJ TG Py Lt wP xt F8 Gf DL L8 Jv
attribute [go_sem] vF wa EC Fh
attribute [go_sem ↓] DF Hn BP Ck EM GR DY Kw Hb Iv Fm G5 JY AZ IA Bb DN Ho Fi AH B0 Ep GJ Hs GH Ec G4 EE Ch ux tu IY Fu Cy Bf wK uT Hg Cd w5 xi xy xb xJ FL Ci A2 PN Qu uH sD Po wR GI xc wD Pw Cr Dw Ar LG B8 CP BE yi xS w9 w7 rT Hi Kb yo Au Fy IH D0 It An xw Ij u6 Cw oL CY HS LW JK Sy QE
attribute [go_sem] Ie G0 Ap Cu M6 IZ DQ DI Fc BK tn Az Io FE Pj Jz wS yz xB xZ xx s8 tJ wQ vj tV wZ u5
theorem Dz(r:RG)(l:List DV)(n:Nat)(d:DV):(rc r l).getD (n+16) d=l.getD n d:=rfl
theorem ER(r:RG)(l:List DV)(n:Nat)(d:DV):(rc r l).set (n+16) d=rc r (l.set n d):=rfl
theorem E3(a0 a1 a2 a3 a4 a5 a6 a7 a8 a9 bE bG a12 bP bS bT:DV)(l:List DV)(d:DV):(rc ⟨a0,a1,a2,a3,a4,a5,a6,a7,a8,a9,bE,bG,a12,bP,bS,bT⟩ l).getD 0 d=a0:=rfl
theorem Ex(a0 a1 a2 a3 a4 a5 a6 a7 a8 a9 bE bG a12 bP bS bT:DV)(l:List DV)(d:DV):(rc ⟨a0,a1,a2,a3,a4,a5,a6,a7,a8,a9,bE,bG,a12,bP,bS,bT⟩ l).set 0 d=rc ⟨d,a1,a2,a3,a4,a5,a6,a7,a8,a9,bE,bG,a12,bP,bS,bT⟩ l:=rfl
theorem ED(a0 a1 a2 a3 a4 a5 a6 a7 a8 a9 bE bG a12 bP bS bT:DV)(l:List DV)(d:DV):(rc ⟨a0,a1,a2,a3,a4,a5,a6,a7,a8,a9,bE,bG,a12,bP,bS,bT⟩ l).getD 1 d=a1:=rfl
theorem Di(a0 a1 a2 a3 a4 a5 a6 a7 a8 a9 bE bG a12 bP bS bT:DV)(l:List DV)(d:DV):(rc ⟨a0,a1,a2,a3,a4,a5,a6,a7,a8,a9,bE,bG,a12,bP,bS,bT⟩ l).set 1 d=rc ⟨a0,d,a2,a3,a4,a5,a6,a7,a8,a9,bE,bG,a12,bP,bS,bT⟩ l:=rfl
theorem G2(a0 a1 a2 a3 a4 a5 a6 a7 a8 a9 bE bG a12 bP bS bT:DV)(l:List DV)(d:DV):(rc ⟨a0,a1,a2,a3,a4,a5,a6,a7,a8,a9,bE,bG,a12,bP,bS,bT⟩ l).getD 2 d=a2:=rfl
theorem FC(a0 a1 a2 a3 a4 a5 a6 a7 a8 a9 bE bG a12 bP bS bT:DV)(l:List DV)(d:DV):(rc ⟨a0,a1,a2,a3,a4,a5,a6,a7,a8,a9,bE,bG,a12,bP,bS,bT⟩ l).set 2 d=rc ⟨a0,a1,d,a3,a4,a5,a6,a7,a8,a9,bE,bG,a12,bP,bS,bT⟩ l:=rfl
theorem G7(a0 a1 a2 a3 a4 a5 a6 a7 a8 a9 bE bG a12 bP bS bT:DV)(l:List DV)(d:DV):(rc ⟨a0,a1,a2,a3,a4,a5,a6,a7,a8,a9,bE,bG,a12,bP,bS,bT⟩ l).getD 3 d=a3:=rfl
theorem Ey(a0 a1 a2 a3 a4 a5 a6 a7 a8 a9 bE bG a12 bP bS bT:DV)(l:List DV)(d:DV):(rc ⟨a0,a1,a2,a3,a4,a5,a6,a7,a8,a9,bE,bG,a12,bP,bS,bT⟩ l).set 3 d=rc ⟨a0,a1,a2,d,a4,a5,a6,a7,a8,a9,bE,bG,a12,bP,bS,bT⟩ l:=rfl
theorem DR(a0 a1 a2 a3 a4 a5 a6 a7 a8 a9 bE bG a12 bP bS bT:DV)(l:List DV)(d:DV):(rc ⟨a0,a1,a2,a3,a4,a5,a6,a7,a8,a9,bE,bG,a12,bP,bS,bT⟩ l).getD 4 d=a4:=rfl
theorem FW(a0 a1 a2 a3 a4 a5 a6 a7 a8 a9 bE bG a12 bP bS bT:DV)(l:List DV)(d:DV):(rc ⟨a0,a1,a2,a3,a4,a5,a6,a7,a8,a9,bE,bG,a12,bP,bS,bT⟩ l).set 4 d=rc ⟨a0,a1,a2,a3,d,a5,a6,a7,a8,a9,bE,bG,a12,bP,bS,bT⟩ l:=rfl
theorem DM(a0 a1 a2 a3 a4 a5 a6 a7 a8 a9 bE bG a12 bP bS bT:DV)(l:List DV)(d:DV):(rc ⟨a0,a1,a2,a3,a4,a5,a6,a7,a8,a9,bE,bG,a12,bP,bS,bT⟩ l).getD 5 d=a5:=rfl
theorem Fq(a0 a1 a2 a3 a4 a5 a6 a7 a8 a9 bE bG a12 bP bS bT:DV)(l:List DV)(d:DV):(rc ⟨a0,a1,a2,a3,a4,a5,a6,a7,a8,a9,bE,bG,a12,bP,bS,bT⟩ l).set 5 d=rc ⟨a0,a1,a2,a3,a4,d,a6,a7,a8,a9,bE,bG,a12,bP,bS,bT⟩ l:=rfl
theorem Da(a0 a1 a2 a3 a4 a5 a6 a7 a8 a9 bE bG a12 bP bS bT:DV)(l:List DV)(d:DV):(rc ⟨a0,a1,a2,a3,a4,a5,a6,a7,a8,a9,bE,bG,a12,bP,bS,bT⟩ l).getD 6 d=a6:=rfl
theorem Em(a0 a1 a2 a3 a4 a5 a6 a7 a8 a9 bE bG a12 bP bS bT:DV)(l:List DV)(d:DV):(rc ⟨a0,a1,a2,a3,a4,a5,a6,a7,a8,a9,bE,bG,a12,bP,bS,bT⟩ l).set 6 d=rc ⟨a0,a1,a2,a3,a4,a5,d,a7,a8,a9,bE,bG,a12,bP,bS,bT⟩ l:=rfl
theorem E8(a0 a1 a2 a3 a4 a5 a6 a7 a8 a9 bE bG a12 bP bS bT:DV)(l:List DV)(d:DV):(rc ⟨a0,a1,a2,a3,a4,a5,a6,a7,a8,a9,bE,bG,a12,bP,bS,bT⟩ l).getD 7 d=a7:=rfl
theorem EW(a0 a1 a2 a3 a4 a5 a6 a7 a8 a9 bE bG a12 bP bS bT:DV)(l:List DV)(d:DV):(rc ⟨a0,a1,a2,a3,a4,a5,a6,a7,a8,a9,bE,bG,a12,bP,bS,bT⟩ l).set 7 d=rc ⟨a0,a1,a2,a3,a4,a5,a6,d,a8,a9,bE,bG,a12,bP,bS,bT⟩ l:=rfl
theorem FD(a0 a1 a2 a3 a4 a5 a6 a7 a8 a9 bE bG a12 bP bS bT:DV)(l:List DV)(d:DV):(rc ⟨a0,a1,a2,a3,a4,a5,a6,a7,a8,a9,bE,bG,a12,bP,bS,bT⟩ l).getD 8 d=a8:=rfl
theorem GC(a0 a1 a2 a3 a4 a5 a6 a7 a8 a9 bE bG a12 bP bS bT:DV)(l:List DV)(d:DV):(rc ⟨a0,a1,a2,a3,a4,a5,a6,a7,a8,a9,bE,bG,a12,bP,bS,bT⟩ l).set 8 d=rc ⟨a0,a1,a2,a3,a4,a5,a6,a7,d,a9,bE,bG,a12,bP,bS,bT⟩ l:=rfl
theorem Gd(a0 a1 a2 a3 a4 a5 a6 a7 a8 a9 bE bG a12 bP bS bT:DV)(l:List DV)(d:DV):(rc ⟨a0,a1,a2,a3,a4,a5,a6,a7,a8,a9,bE,bG,a12,bP,bS,bT⟩ l).getD 9 d=a9:=rfl
theorem ES(a0 a1 a2 a3 a4 a5 a6 a7 a8 a9 bE bG a12 bP bS bT:DV)(l:List DV)(d:DV):(rc ⟨a0,a1,a2,a3,a4,a5,a6,a7,a8,a9,bE,bG,a12,bP,bS,bT⟩ l).set 9 d=rc ⟨a0,a1,a2,a3,a4,a5,a6,a7,a8,d,bE,bG,a12,bP,bS,bT⟩ l:=rfl
theorem CJ(a0 a1 a2 a3 a4 a5 a6 a7 a8 a9 bE bG a12 bP bS bT:DV)(l:List DV)(d:DV):(rc ⟨a0,a1,a2,a3,a4,a5,a6,a7,a8,a9,bE,bG,a12,bP,bS,bT⟩ l).getD 10 d=bE:=rfl
theorem AO(a0 a1 a2 a3 a4 a5 a6 a7 a8 a9 bE bG a12 bP bS bT:DV)(l:List DV)(d:DV):(rc ⟨a0,a1,a2,a3,a4,a5,a6,a7,a8,a9,bE,bG,a12,bP,bS,bT⟩ l).set 10 d=rc ⟨a0,a1,a2,a3,a4,a5,a6,a7,a8,a9,d,bG,a12,bP,bS,bT⟩ l:=rfl
theorem B5(a0 a1 a2 a3 a4 a5 a6 a7 a8 a9 bE bG a12 bP bS bT:DV)(l:List DV)(d:DV):(rc ⟨a0,a1,a2,a3,a4,a5,a6,a7,a8,a9,bE,bG,a12,bP,bS,bT⟩ l).getD 11 d=bG:=rfl
theorem BG(a0 a1 a2 a3 a4 a5 a6 a7 a8 a9 bE bG a12 bP bS bT:DV)(l:List DV)(d:DV):(rc ⟨a0,a1,a2,a3,a4,a5,a6,a7,a8,a9,bE,bG,a12,bP,bS,bT⟩ l).set 11 d=rc ⟨a0,a1,a2,a3,a4,a5,a6,a7,a8,a9,bE,d,a12,bP,bS,bT⟩ l:=rfl
theorem FT(a0 a1 a2 a3 a4 a5 a6 a7 a8 a9 bE bG a12 bP bS bT:DV)(l:List DV):(rc ⟨a0,a1,a2,a3,a4,a5,a6,a7,a8,a9,bE,bG,a12,bP,bS,bT⟩ l)[11]? =some bG:=rfl
theorem As(a0 a1 a2 a3 a4 a5 a6 a7 a8 a9 bE bG a12 bP bS bT:DV)(l:List DV)(d:DV):(rc ⟨a0,a1,a2,a3,a4,a5,a6,a7,a8,a9,bE,bG,a12,bP,bS,bT⟩ l).getD 12 d=a12:=rfl
theorem Cj(a0 a1 a2 a3 a4 a5 a6 a7 a8 a9 bE bG a12 bP bS bT:DV)(l:List DV)(d:DV):(rc ⟨a0,a1,a2,a3,a4,a5,a6,a7,a8,a9,bE,bG,a12,bP,bS,bT⟩ l).set 12 d=rc ⟨a0,a1,a2,a3,a4,a5,a6,a7,a8,a9,bE,bG,d,bP,bS,bT⟩ l:=rfl
theorem Ax(a0 a1 a2 a3 a4 a5 a6 a7 a8 a9 bE bG a12 bP bS bT:DV)(l:List DV)(d:DV):(rc ⟨a0,a1,a2,a3,a4,a5,a6,a7,a8,a9,bE,bG,a12,bP,bS,bT⟩ l).getD 13 d=bP:=rfl
theorem Co(a0 a1 a2 a3 a4 a5 a6 a7 a8 a9 bE bG a12 bP bS bT:DV)(l:List DV)(d:DV):(rc ⟨a0,a1,a2,a3,a4,a5,a6,a7,a8,a9,bE,bG,a12,bP,bS,bT⟩ l).set 13 d=rc ⟨a0,a1,a2,a3,a4,a5,a6,a7,a8,a9,bE,bG,a12,d,bS,bT⟩ l:=rfl
theorem Am(a0 a1 a2 a3 a4 a5 a6 a7 a8 a9 bE bG a12 bP bS bT:DV)(l:List DV)(d:DV):(rc ⟨a0,a1,a2,a3,a4,a5,a6,a7,a8,a9,bE,bG,a12,bP,bS,bT⟩ l).getD 14 d=bS:=rfl
theorem B2(a0 a1 a2 a3 a4 a5 a6 a7 a8 a9 bE bG a12 bP bS bT:DV)(l:List DV)(d:DV):(rc ⟨a0,a1,a2,a3,a4,a5,a6,a7,a8,a9,bE,bG,a12,bP,bS,bT⟩ l).set 14 d=rc ⟨a0,a1,a2,a3,a4,a5,a6,a7,a8,a9,bE,bG,a12,bP,d,bT⟩ l:=rfl
theorem BU(a0 a1 a2 a3 a4 a5 a6 a7 a8 a9 bE bG a12 bP bS bT:DV)(l:List DV)(d:DV):(rc ⟨a0,a1,a2,a3,a4,a5,a6,a7,a8,a9,bE,bG,a12,bP,bS,bT⟩ l).getD 15 d=bT:=rfl
theorem AN(a0 a1 a2 a3 a4 a5 a6 a7 a8 a9 bE bG a12 bP bS bT:DV)(l:List DV)(d:DV):(rc ⟨a0,a1,a2,a3,a4,a5,a6,a7,a8,a9,bE,bG,a12,bP,bS,bT⟩ l).set 15 d=rc ⟨a0,a1,a2,a3,a4,a5,a6,a7,a8,a9,bE,bG,a12,bP,bS,d⟩ l:=rfl
theorem Ny(a0 a1 a2 a3 a4 a5 a6 a7 a8 a9 bE bG a12 bP bS bT:DV)(l:List DV)(i:Nat)(js:List Nat):rN (rc ⟨a0,a1,a2,a3,a4,a5,a6,a7,a8,a9,bE,bG,a12,bP,bS,bT⟩ l) i js=rN (a0::a1::a2::a3::a4::a5::a6::a7::a8::a9::bE::bG::a12::bP::bS::bT::l) i js:=rfl
theorem Mx(a0 a1 a2 a3 a4 a5 a6 a7 a8 a9 bE bG a12 bP bS bT:DV)(l:List DV):cJ (a0::a1::a2::a3::a4::a5::a6::a7::a8::a9::bE::bG::a12::bP::bS::bT::l)=rc ⟨a0,a1,a2,a3,a4,a5,a6,a7,a8,a9,bE,bG,a12,bP,bS,bT⟩ (cJ l):=rfl
theorem LB:cJ []=[]:=rfl
theorem MC(a0:DV):cJ [a0]=[a0]:=rfl
theorem N4(a0 a1:DV):cJ [a0,a1]=[a0,a1]:=rfl
theorem Nx(a0 a1 a2:DV):cJ [a0,a1,a2]=[a0,a1,a2]:=rfl
theorem Nu(a0 a1 a2 a3:DV):cJ [a0,a1,a2,a3]=[a0,a1,a2,a3]:=rfl
theorem Ni(a0 a1 a2 a3 a4:DV):cJ [a0,a1,a2,a3,a4]=[a0,a1,a2,a3,a4]:=rfl
theorem MB(a0 a1 a2 a3 a4 a5:DV):cJ [a0,a1,a2,a3,a4,a5]=[a0,a1,a2,a3,a4,a5]:=rfl
theorem Nq(a0 a1 a2 a3 a4 a5 a6:DV):cJ [a0,a1,a2,a3,a4,a5,a6]=[a0,a1,a2,a3,a4,a5,a6]:=rfl
theorem L2(a0 a1 a2 a3 a4 a5 a6 a7:DV):cJ [a0,a1,a2,a3,a4,a5,a6,a7]=[a0,a1,a2,a3,a4,a5,a6,a7]:=rfl
theorem Od(a0 a1 a2 a3 a4 a5 a6 a7 a8:DV):cJ [a0,a1,a2,a3,a4,a5,a6,a7,a8]=[a0,a1,a2,a3,a4,a5,a6,a7,a8]:=rfl
theorem Kk(a0 a1 a2 a3 a4 a5 a6 a7 a8 a9:DV):cJ [a0,a1,a2,a3,a4,a5,a6,a7,a8,a9]=[a0,a1,a2,a3,a4,a5,a6,a7,a8,a9]:=rfl
theorem Il(a0 a1 a2 a3 a4 a5 a6 a7 a8 a9 bE:DV):cJ [a0,a1,a2,a3,a4,a5,a6,a7,a8,a9,bE]=[a0,a1,a2,a3,a4,a5,a6,a7,a8,a9,bE]:=rfl
theorem IC(a0 a1 a2 a3 a4 a5 a6 a7 a8 a9 bE bG:DV):cJ [a0,a1,a2,a3,a4,a5,a6,a7,a8,a9,bE,bG]=[a0,a1,a2,a3,a4,a5,a6,a7,a8,a9,bE,bG]:=rfl
theorem JQ(a0 a1 a2 a3 a4 a5 a6 a7 a8 a9 bE bG a12:DV):cJ [a0,a1,a2,a3,a4,a5,a6,a7,a8,a9,bE,bG,a12]=[a0,a1,a2,a3,a4,a5,a6,a7,a8,a9,bE,bG,a12]:=rfl
theorem J6(a0 a1 a2 a3 a4 a5 a6 a7 a8 a9 bE bG a12 bP:DV):cJ [a0,a1,a2,a3,a4,a5,a6,a7,a8,a9,bE,bG,a12,bP]=[a0,a1,a2,a3,a4,a5,a6,a7,a8,a9,bE,bG,a12,bP]:=rfl
theorem Ic(a0 a1 a2 a3 a4 a5 a6 a7 a8 a9 bE bG a12 bP bS:DV):cJ [a0,a1,a2,a3,a4,a5,a6,a7,a8,a9,bE,bG,a12,bP,bS]=[a0,a1,a2,a3,a4,a5,a6,a7,a8,a9,bE,bG,a12,bP,bS]:=rfl
attribute [go_sem] Dz ER E3 Ex ED Di G2 FC G7 Ey DR FW DM Fq Da Em E8 EW FD GC Gd ES CJ AO B5 BG FT As Cj Ax Co Am B2 BU AN Ny Mx LB MC N4 Nx Nu Ni MB Nq L2 Od Kk Il IC JQ J6 Ic
end Aml
namespace Aml
open Go Go.RowKit
def lz(P:Program)(w0:W0)(S:St)(ops:Array Oper)(K:List DV→St→Prop):List Oper→List DV→Prop
 |[],fr=>K fr S
 |o::rest,fr=>cj (ng o.op)
  (bI ops fr o.guard (fun fr=>aV P w0 o.op fr S fun d=>lz P w0 S ops K rest (pt fr o.dst d)) (fun fr=>lz P w0 S ops K rest (pt fr o.dst ud)))
  (oE P w0 ops K (o::rest) fr S)
section
variable {P:Program} {w0:W0}
theorem lH{S:St}{ops:Array Oper}{K:List DV→St→Prop}:∀{l:List Oper} {fr:List DV},l.all (fun o=>fw o.op)=true→lz P w0 S ops K l fr→LQ P w0 S ops (fun fr=>oE P w0 ops K (l.drop (kB l)) fr S) (l.take (kB l)) fr
 |[],fr,_,h=>h
 |o::rest,fr,hs,h=>by
  simp only[Zc,W8]at hs;unfold lz cj at h
  cases hq:ng o.op with
  |true=>
   rw[hq]at h;simp only at h;have e:kB (o::rest)=kB rest+1:=by simp[kB,List.takeWhile_cons,hq]
   rw[e,List.take_succ_cons,List.drop_succ_cons];refine gJ (fun fr h=>?_) (fun fr h=>lH hs.2 h) h;obtain⟨d,q1,q2⟩:=jO hs.1 h;exact⟨d,q1,lH hs.2 q2⟩
  |false=>
   rw[hq]at h;have e:kB (o::rest)=0:=by simp[kB,List.takeWhile_cons,hq]
   rw[e];exact h
theorem xG{S:St}{a b:Array Oper}{K:List DV→Prop}:∀{l:List Oper} {fr:List DV},(∀o,o∈l→∀j want,o.guard=some (j,want)→a[j]? =b[j]?)→LQ P w0 S a K l fr→LQ P w0 S b K l fr
 |[],fr,_,h=>h
 |o::rest,fr,hg,h=>by
  have h':bI a fr o.guard (fun fr=>∃d,QY P w0 S o fr d∧LQ P w0 S b K rest (pt fr o.dst d)) (fun fr=>LQ P w0 S b K rest (pt fr o.dst ud)):=
   gJ (fun fr ⟨d,q1,q2⟩=>⟨d,q1,xG (fun o ho=>hg o (Xc _ ho)) q2⟩) (fun fr h=>xG (fun o ho=>hg o (Xc _ ho)) h) h
  unfold bI at h';show bI b fr o.guard _ _;unfold bI
  cases hgo:o.guard with
  |none=>rw[hgo]at h';exact h'
  |some p=>
   obtain⟨j,want⟩:=p;rw[hgo]at h';simp only at h' ⊢;rw[←hg o Xf j want hgo];exact h'
theorem Aq{id:Nat}{l:List Oper}{fr:List DV}{S:St}{Q:Exit→List DV→St→Prop}(hm:P.follows .mixedOrders=true)(hB:Region.lexB .any (l.take (kB l)).toArray=true)(hT:nT .any l.toArray (kB l)=true)(hs:l.all (fun o=>fw o.op)=true)
 (h:lz P w0 S l.toArray (fun fr S=>Q .normal fr S) l fr):fL P w0 (.region id l.toArray true) fr S Q:=by
 have hn:kB l≤l.length:=by
  unfold kB;exact List.Sublist.length_le (List.takeWhile_sublist _)
 refine AF (kB l) hn hm hB hT hs (xG ?_ (lH hs h));intro o ho j want hg;simp only[nT,W8]at hT;have:=Xq.1 hT.2 o (by simpa using ho);simp only[hg,decide_eq_true_eq]at this;simp[XU,this]
def AL(P:Program)(w0:W0)(fr:List DV)(S:St)[c:Cn (Code×(Exit→List DV→St→Prop))]:Prop:=fL P w0 c.k.1 fr S c.k.2
def vw(P:Program)(w0:W0)(ss:List Nat):Code→List DV→St→(Exit→List DV→St→Prop)→Prop
 | .skip,fr,S,Q=>Q .normal fr S
 | .seq x y,fr,S,Q=>vw P w0 ss x fr S (gq (fun fr S=>vw P w0 ss y fr S Q) Q)
 | .cond c x y,fr,S,Q=>cu (ev fr c) (vw P w0 ss x fr S Q) (vw P w0 ss y fr S Q)
 | .block n c,fr,S,Q=>cj (ss.contains (n+1000)) (@AL P w0 fr S ⟨((.block n c),Q)⟩) (vw P w0 ss c fr S (eN n Q))
 | .exit n,fr,S,Q=>Q (.exit n) fr S
 | .ret,fr,S,Q=>Q .ret fr S
 | .region n ops dr,fr,S,Q=>cj (ss.contains n) (@AL P w0 fr S ⟨((.region n ops dr),Q)⟩)
  (cj dr (lz P w0 S ops (fun fr S=>Q .normal fr S) ops.toList fr) (oE P w0 ops (fun fr S=>Q .normal fr S) ops.toList fr S))
 |c,fr,S,Q=>@AL P w0 fr S ⟨(c,Q)⟩
/- How it goes. -/
section
variable {P:Program} {w0:W0} {ss:List Nat} {fr:List DV} {S:St} {Q:Exit→List DV→St→Prop}
theorem A9:vw P w0 ss .skip fr S Q=Q .normal fr S:=rfl
theorem GY(x y:Code):vw P w0 ss (.seq x y) fr S Q=vw P w0 ss x fr S (gq (fun fr S=>vw P w0 ss y fr S Q) Q):=rfl
theorem CN(c:Operand)(x y:Code):vw P w0 ss (.cond c x y) fr S Q=cu (ev fr c) (vw P w0 ss x fr S Q) (vw P w0 ss y fr S Q):=rfl
theorem yx(n:Nat)(c:Code):vw P w0 ss (.block n c) fr S Q=cj (ss.contains (n+1000)) (@AL P w0 fr S ⟨((.block n c),Q)⟩) (vw P w0 ss c fr S (eN n Q)):=rfl
theorem Bi(n:Nat):vw P w0 ss (.exit n) fr S Q=Q (.exit n) fr S:=rfl
theorem FU:vw P w0 ss .ret fr S Q=Q .ret fr S:=rfl
def gQ(fr:List DV)(F:List DV→Prop):Prop:=F fr
@[congr] theorem RZ {fr fr':List DV} {F:List DV→Prop} (h:fr=fr'):gQ fr F=gQ fr' F:=by cases h;rfl
theorem Jd(d:DV)(fr:List DV)(F:List DV→Prop):gQ (d::fr) F=F (d::fr):=rfl
theorem xd(r:RG)(fr:List DV)(F:List DV→Prop):gQ (rc r fr) F=F (rc r fr):=rfl
attribute [go_sem ↓] Jd xd
theorem BB(n:Nat)(l:List Oper):vw P w0 ss (.region n l.toArray false) fr S Q=cj (ss.contains n) (@AL P w0 fr S ⟨((.region n l.toArray false),Q)⟩) (oE P w0 l.toArray (fun fr S=>gQ fr fun fr=>Q .normal fr S) l fr S):=by simp[vw,cj,gQ]
theorem B3(n:Nat)(l:List Oper):vw P w0 ss (.region n l.toArray true) fr S Q=cj (ss.contains n) (@AL P w0 fr S ⟨((.region n l.toArray true),Q)⟩) (lz P w0 S l.toArray (fun fr S=>gQ fr fun fr=>Q .normal fr S) l fr):=by simp[vw,cj,gQ]
section
variable {ops:Array Oper} {K:List DV→St→Prop} {rest:List Oper} {dst:Option Tmp} {op:Op} {ty:TypeId} {pos:String} {aft:Array Edge}
theorem Er:lz P w0 S ops K [] fr=K fr S:=rfl
theorem Cg:lz P w0 S ops K (⟨dst,op,ty,pos,aft,none⟩::rest) fr=cj (ng op) (aV P w0 op fr S fun d=>lz P w0 S ops K rest (pt fr dst d)) (oE P w0 ops K (⟨dst,op,ty,pos,aft,none⟩::rest) fr S):=rfl
theorem BI(j:Nat)(want:Bool):lz P w0 S ops K (⟨dst,op,ty,pos,aft,some (j,want)⟩::rest) fr=cj (ng op) (gK ((ops[j]?).bind (·.dst)) fr want (fun fr=>aV P w0 op fr S fun d=>lz P w0 S ops K rest (pt fr dst d)) (fun fr=>lz P w0 S ops K rest (pt fr dst ud))) (oE P w0 ops K (⟨dst,op,ty,pos,aft,some (j,want)⟩::rest) fr S):=by
 rw[←oL];rfl
end
def KX(l:List Oper)(F:List Oper→Prop):Prop:=F l
@[congr] theorem Rv {l l':List Oper} {F:List Oper→Prop} (h:l=l'):KX l F=KX l' F:=by cases h;rfl
theorem CE(c:Code):vw P w0 ss (.loop c) fr S Q= @AL P w0 fr S ⟨((.loop c),Q)⟩:=rfl
@[congr] theorem Vb {c:Code} {fr':List DV} {S':St} (h1:fr=fr') (h2:S=S'):vw P w0 ss c fr S Q=vw P w0 ss c fr' S' Q:=by cases h1;cases h2;rfl
@[congr] theorem Tw {ops:Array Oper} {K:List DV→St→Prop} {l:List Oper} {fr':List DV} {S':St} (h1:fr=fr') (h2:S=S'):lz P w0 S ops K l fr=lz P w0 S' ops K l fr':=by cases h1;cases h2;rfl
@[congr] theorem UB {c:Code} {fr':List DV} {S':St} (h1:fr=fr') (h2:S=S'):fL P w0 c fr S Q=fL P w0 c fr' S' Q:=by cases h1;cases h2;rfl
end
attribute [go_sem] List.contains_nil List.contains_cons
attribute [go_sem ↓] Er Cg BI A9 GY CN yx Bi FU BB B3 CE
section
variable {md:Region.Mode} {ops:Array Oper}
def DJ(md:Region.Mode)(ops:Array Oper):Nat→List Oper→Bool
 |_,[]=>true
 |k,o::l=>o.after.toList.all (fun e=>!Region.binds md e||decide (e.on<k))&&l.all (fun oj=>oj.after.toList.any (fun e=>Region.binds md e&&e.on==k)||o.apart ops oj)&&DJ md ops (k+1) l
theorem oZ:∀(l:List Oper) (k:Nat) (listed:Array Bool),(∀j,l[j]? =ops[k+j]?)→listed.size=ops.size→(∀i,i<k→listed[i]? =some true)→(∀i,k≤i→i<ops.size→listed[i]? =some false)→DJ md ops k l=true→Region.lexFrom md ops l.length k listed=true
 |[],k,listed,hl,hs,h1,h2,_=>by
  simp only[XK,Region.lexFrom]
  have:Region.ready md ops listed=[]:=List.eq_nil_iff_forall_not_mem.2 fun i hi=>by
   obtain⟨hun,o,ho,_⟩:=mem_ready.1 hi;rw[cr]at hun;rcases XH i k with h|h
   ·rw[h1 i h]at hun;cases hun
   ·have:=hl (i-k);rw[show k+(i-k)=i by omega,ho]at this;simp at this
  rw[this];rfl
 |o::l,k,listed,hl,hs,h1,h2,hG=>by
  have h0:ops[k]? =some o:=by simpa using(hl 0).symm
  have hk:k<ops.size:=(W9.1 h0).1;simp only[DJ,W8]at hG;obtain⟨⟨ha,hb⟩,hc⟩:=hG;simp only[Xi,Region.lexFrom,W8]
  have hr:k∈Region.ready md ops listed:=mem_ready.2 ⟨cr.2 (h2 k (Xa _) hk),o,h0,fun e he hbind=>by
   have:=Xq.1 ha e (Array.mem_toList_iff.2 he);rw[hbind]at this;simp at this;exact cf.2 (h1 _ this)⟩
  refine⟨⟨by simpa using hr,?_⟩,?_⟩
  ·unfold Region.free;rw[h0];simp only[Xq,X9];intro j hj;rcases Yl j k with h|h|h
   ·have:listed.getD j true=true:=by rw[Xt,h1 j h];rfl
    simp[this]
   ·simp[h]
   ·have hj2:=hl (j-k);rw[show k+(j-k)=j by omega,show j-k=(j-k-1)+1 by omega,Zb]at hj2;rw[←hj2]
    cases hq:l[j-k-1]? with
    |none=>simp
    |some oj=>
     have:=Xq.1 hb oj (W7 hq);simp only[Yq]at this ⊢;refine .inr ?_;rcases this with h|h
     ·refine .inl ?_;obtain⟨e,he,h⟩:=List.any_eq_true.1 h;exact Array.any_eq_true'.2 ⟨e,Array.mem_toList_iff.1 he,h⟩
     ·exact .inr h
  ·refine oZ l (k+1) _ (fun j=>?_) (by simpa using hs) (fun i hi=>?_) (fun i hi hi2=>?_) hc
   ·have:=hl (j+1);simpa[Ya,YL 1 j]using this
   ·rw[Xu];by_cases h:k=i
    ·subst h;rw[if_pos rfl,if_pos (by omega)]
    ·rw[if_neg h];exact h1 i (by omega)
   ·rw[Xu,if_neg (by omega)];exact h2 i (by omega) hi2
theorem yM{l:List Oper}(hs:Region.noSelect l.toArray=true)(h:DJ md l.toArray 0 l=true):Region.lexB md l.toArray=true:=by
 unfold Region.lexB;rw[hs,Yw];have:=oZ (md:=md) (ops:=l.toArray) l 0 (Array.replicate l.toArray.size false) (fun j=>by simp) (by simp) (fun i hi=>absurd hi (by omega)) (fun i _ hi=>by rw[Y7,if_pos hi]) h;simpa using this
end
def qp(ss:List Nat):Code→Bool
 | .seq x y=>qp ss x&&qp ss y
 | .cond _ x y=>qp ss x&&qp ss y
 | .block n c=>ss.contains (n+1000)||qp ss c
 | .region n ops false=>ss.contains n||ops.toList.all (fun o=>fw o.op)
 | .region n ops true=>ss.contains n||(ops.toList.all (fun o=>fw o.op)&&Region.noSelect (ops.toList.take (kB ops.toList)).toArray&&DJ .any (ops.toList.take (kB ops.toList)).toArray 0 (ops.toList.take (kB ops.toList))&&nT .any ops (kB ops.toList))
 |_=>true
theorem aQ{ss:List Nat}(hm:P.follows .mixedOrders=true):∀(c:Code) {fr:List DV} {S:St} {Q:Exit→List DV→St→Prop},qp ss c=true→vw P w0 ss c fr S Q→fL P w0 c fr S Q
 | .skip,fr,S,Q,_,h=>F4 h
 | .seq x y,fr,S,Q,ho,h=>by
  simp only[qp,W8]at ho;exact IX ((aQ hm x ho.1 h).mono fun e fr S hq=>by cases e <;>first|exact aQ hm y ho.2 hq|exact hq)
 | .cond c x y,fr,S,Q,ho,h=>by
  simp only[qp,W8]at ho;exact C7 (yd (fun h=>aQ hm x ho.1 h) (fun h=>aQ hm y ho.2 h) h)
 | .block n c,fr,S,Q,ho,h=>by
  unfold vw cj at h;unfold qp at ho;split at h
  ·exact h
  ·rename_i hn;rw[hn,YE]at ho;exact B4 (aQ hm c ho h)
 | .exit n,fr,S,Q,_,h=>DP h
 | .ret,fr,S,Q,_,h=>J3 h
 | .region n ops false,fr,S,Q,ho,h=>by
  unfold vw at h;unfold cj at h;unfold qp at ho;split at h
  ·exact h
  rename_i hn;rw[hn,YE]at ho;simp only at h;have:=fT _ ho h;have:=xF (id:=n) (l:=ops.toList) this;simpa using this
 | .region n ops true,fr,S,Q,ho,h=>by
  unfold vw at h;unfold cj at h;unfold qp at ho;split at h
  ·exact h
  rename_i hn;rw[hn,YE]at ho;simp only[W8]at ho;simp only at h;have:=Aq (id:=n) (l:=ops.toList) (fr:=fr) (S:=S) (Q:=Q) hm (yM ho.1.1.2 ho.1.2) ho.2 ho.1.1.1 h;simpa using this
 | .loop c,fr,S,Q,_,h=>h
 | .rangeFunc f ps a b,fr,S,Q,_,h=>h
 | .scope c,fr,S,Q,_,h=>h
 | .label l,fr,S,Q,_,h=>h
 | .goto l,fr,S,Q,_,h=>h
 | .refuse w,fr,S,Q,_,h=>h
theorem kj(ss:List Nat){f:FuncId}{fn:Func}{c:Code}{rs:List ResultVar}{args:List DV}{S:St}{K:DV→St→Prop}(hm:P.follows .mixedOrders=true)(hf:P.funcs[f]? =some fn)(hb:fn.body=some c)(hrs:fn.results=rs.toArray)(hc:qp ss c=true)
 (h:vw P w0 ss c (cJ (args++List.replicate (fn.ntmps-args.length) ud)) S fun e fr S'=>(e= .normal∨e= .ret)∧kJ P fr S' rs fun d=>K d S'):aa P w0 f args S K:=
 pb hf hb hrs (aQ hm c hc h)
end
end Aml
namespace Aml
open Go Go.RowKit
def Wk(d e:DV):Prop:=∀g u,az g d u→az g e u
def fp:List DV→List DV→Prop
 |[],[]=>True
 |d::ds,e::es=>Wk d e∧fp ds es
 |_,_=>False
theorem Wk.refl(d:DV):Wk d d:=fun _ _ h=>h
theorem Wk.trans{a b c:DV}(h:Wk a b)(k:Wk b c):Wk a c:=fun g u r=>k g u (h g u r)
theorem Wk.any(d:DV):Wk d .any:=fun g u _=> .any u
theorem Wk.nil(s s':Nat)(f:Bool):Wk (.sl s true []) (.sl s' f []):=fun g u r=>by
 obtain⟨o,h⟩:=cC r;rw[h];exact .nil _ _ _ _ fun _=>rfl
theorem Wk.S7(s s':Nat)(f:Bool):Wk (.sl s f []) (.sl s' false []):=fun g u r=>by
 rcases fD r with⟨_,o',c,hv,hf⟩|⟨b,o',c',us,hv',hl,_⟩
 ·rw[hv];exact .nil _ _ _ _ (by simp)
 ·have:us=[]:=Xn (by have:=hl.len;simpa using this.symm);rw[hv'];exact .nil _ _ _ _ (by simp)
theorem Wk.full(s:Nat)(f:Bool)(xs:List DV):Wk (.sl s f xs) (.sl s false xs):=fun g u r=>by
 cases r with
 |nil _ _ o c hc=>exact .nil _ _ _ _ (by simp)
 |sl _ _ _ b o c us hl hf hc hm hr hz h1 hi=>exact .sl _ _ _ _ _ _ us hl (by simp) hc hm hr hz h1 hi
theorem fp.refl:∀ds,fp ds ds
 |[]=>trivial
 |d::ds=>⟨.refl d,fp.refl ds⟩
theorem fp.spec:∀{ds es:List DV},fp ds es→∀{g:Gh} {us:List Value},ae g ds us→ae g es us
 |[],[],_,_,_,r=>r
 |d::ds,e::es,h,g,us,r=>by
  obtain⟨u,us',rfl,r1,r2⟩:=r.cM;exact ae.cons (h.1 _ _ r1) (fp.spec h.2 r2)
theorem fp.length:∀{ds es:List DV},fp ds es→ds.length=es.length
 |[],[],_=>rfl
 |d::ds,e::es,h=>by simp[fp.length h.2]
theorem fp.trans:∀{a b c:List DV},fp a b→fp b c→fp a c
 |[],[],[],_,_=>trivial
 |_::_,_::_,_::_,h,k=>⟨h.1.trans k.1,h.2.trans k.2⟩
theorem Wk.agg{ds es:List DV}(h:fp ds es):Wk (.agg ds) (.agg es):=fun g u r=>by
 cases r with
 |agg _ us hl hr h1=>
  have:=h.spec (g:=g) (us:=us) ⟨hl,hr⟩;exact .agg _ _ this.len this.at_ h1
theorem Wk.cQ{ds es:List DV}(h:fp ds es):Wk (.cQ ds) (.cQ es):=fun g u r=>by
 cases r with
 |cQ _ us hl hr=>
  have:=h.spec (g:=g) (us:=us) ⟨hl,hr⟩;exact .cQ _ _ this.len this.at_
theorem Wk.im{t:TypeId}{d e:DV}(h:Wk d e):Wk (.im t d) (.im t e):=fun g u r=>by
 cases r with
 |im _ _ u r=>exact .im _ _ _ (h _ _ r)
theorem Wk.sl{s:Nat}{f:Bool}{xs ys:List DV}(h:fp xs ys):Wk (.sl s f xs) (.sl s f ys):=fun g u r=>by
 cases r with
 |nil _ _ o c hc=>
  cases ys with
  |nil=>exact .nil _ _ _ _ hc
  |cons y ys=>exact h.elim
 |sl _ _ _ b o c us hl hf hc hm hr hz h1 hi=>
  have:=h.spec (g:=g) (us:=us) ⟨hl,hr⟩;exact .sl _ _ _ _ _ _ us this.len hf hc hm this.at_ hz h1 hi
theorem fp.map{α:Type}{f g:α→DV}(h:∀a,Wk (f a) (g a)):∀(l:List α),fp (l.map f) (l.map g)
 |[]=>trivial
 |a::l=>⟨h a,fp.map h l⟩
theorem fp.nil:fp [] []:=trivial
theorem fp.cons{d e:DV}{ds es:List DV}(h:Wk d e)(k:fp ds es):fp (d::ds) (e::es):=⟨h,k⟩
theorem Fo(d e:DV)(ds es:List DV):fp (d::ds) (e::es)=(Wk d e∧fp ds es):=rfl
theorem Jr:fp [] []=True:=rfl
theorem Nk(a0 a1 a2 a3 a4 a5 a6 a7 a8 a9 bE bG a12 bP bS bT:DV)(b0 b1 b2 b3 b4 b5 b6 b7 b8 b9 b10 b11 b12 b13 b14 b15:DV)(l m:List DV):fp (rc ⟨a0,a1,a2,a3,a4,a5,a6,a7,a8,a9,bE,bG,a12,bP,bS,bT⟩ l) (rc ⟨b0,b1,b2,b3,b4,b5,b6,b7,b8,b9,b10,b11,b12,b13,b14,b15⟩ m)=(Wk a0 b0∧Wk a1 b1∧Wk a2 b2∧Wk a3 b3∧Wk a4 b4∧Wk a5 b5∧Wk a6 b6∧Wk a7 b7∧Wk a8 b8∧Wk a9 b9∧Wk bE b10∧Wk bG b11∧Wk a12 b12∧Wk bP b13∧Wk bS b14∧Wk bT b15∧fp l m):=rfl
theorem Kq(d:DV):Wk d d=True:=eq_true (.refl d)
theorem LN{u u':Value}(h:u.oneCell'=true):Wk (.v u) (.v u')↔u=u':=
 ⟨fun k=>by have:=k ⟨fun _ _=>none,fun _ _=>none,fun _=>none,[]⟩ u (.v u h);cases this;rfl,fun e=>e▸ .refl _⟩
theorem N9(k:IntKind)(a b:Int):Wk (.v (.int k a)) (.v (.int k b))=(a=b):=propext ((LN rfl).trans ⟨fun h=>(Value.int.inj h).2,fun h=>by rw[h]⟩)
theorem Ik(a b:Bool):Wk (.v (.bool a)) (.v (.bool b))=(a=b):=propext ((LN rfl).trans ⟨fun h=>Value.bool.inj h,fun h=>by rw[h]⟩)
theorem MF(a b:ByteArray):Wk (.v (.string a)) (.v (.string b))=(a=b):=propext ((LN rfl).trans ⟨fun h=>Value.string.inj h,fun h=>by rw[h]⟩)
theorem Mf(s s':Nat)(f:Bool):Wk (.sl s true []) (.sl s' f [])=True:=eq_true (.nil s s' f)
section
variable {P:Program} {w0:W0}
theorem iC{f:FuncId}{args args':List DV}{S:St}{K K':DV→St→Prop}(h:aa P w0 f args' S K')(ha:fp args args')(hk:∀d S',K' d S'→∃e,Wk d e∧K e S'):aa P w0 f args S K:=
 fun g vs w h1 h2=>(h g vs w h1 (ha.spec h2)).mono fun e w' k=>k.imp (.refl _) fun r g' d S' q2 q3 q4 q5=>
  let⟨e',k1,k2⟩:=hk _ _ q5
  ⟨g',e',S',q2,q3,k1 _ _ q4,k2⟩
theorem mT{f:FuncId}{args args':List DV}{S:St}{K:DV→St→Prop}{r:DV}(h:aa P w0 f args' S (fun d S'=>d=r∧S'=S))(ha:fp args args')(hk:K r S):aa P w0 f args S K:=
 iC h ha fun d S' ⟨h1,h2⟩=>⟨d,.refl d,by rw[h1,h2];exact hk⟩
theorem ao{f:FuncId}{args args':List DV}{S:St}{K:DV→St→Prop}{r:DV}(h:aa P w0 f args' S (fun d S'=>d=r∧S'=S))(hk:K r S)(ha:fp args args':=by exact fp.refl _):@AC P w0 f args S ⟨K⟩:=mT h ha hk
theorem an{f:FuncId}{args args':List DV}{S:St}{K K':DV→St→Prop}(h:aa P w0 f args' S K')(hk:∀d S',K' d S'→K d S')(ha:fp args args':=by exact fp.refl _):@AC P w0 f args S ⟨K⟩:=iC h ha fun d S' q=>⟨d,.refl d,hk d S' q⟩
theorem eu{f:FuncId}{args args':List DV}{S:St}{K:DV→Prop}{r:DV}(h:aa P w0 f args' S (fun d S'=>d=r∧S'=S))(hk:K r)(ha:fp args args':=by exact fp.refl _):@QC P w0 f args S ⟨K⟩:=
 ⟨r,mT h ha ⟨rfl,rfl⟩,hk⟩
structure Sub(S S':St):Prop where
 box:S.box.Sublist S'.box
 acc:S.acc.Sublist S'.acc
theorem Sub.refl(S:St):Sub S S:=⟨List.Sublist.refl _,List.Sublist.refl _⟩
theorem Sub.aP{S:St}{B:List (Nat×List DV)}{A:List (Nat×Ob)}{x:Nat×List DV}(h:Sub S ⟨B,A⟩):Sub S ⟨x::B,A⟩:=⟨h.box.cons _,h.acc⟩
theorem Sub.pC{S:St}{B:List (Nat×List DV)}{A:List (Nat×Ob)}{x:Nat×Ob}(h:Sub S ⟨B,A⟩):Sub S ⟨B,x::A⟩:=⟨h.box,h.acc.cons _⟩
theorem Sub.PS{B B':List (Nat×List DV)}{A A':List (Nat×Ob)}{x:Nat×Ob}(h:Sub ⟨B,A⟩ ⟨B',A'⟩):Sub ⟨B,x::A⟩ ⟨B',x::A'⟩:=⟨h.box,h.acc.cons_cons _⟩
theorem Eh(S:St):Sub S S=True:=eq_true (.refl S)
theorem NC{B B':List (Nat×List DV)}{A A':List (Nat×Ob)}(x:Nat×Ob)(h:Sub ⟨B,A⟩ ⟨B',A'⟩):Sub ⟨B,x::A⟩ ⟨B',x::A'⟩=True:=eq_true h.PS
theorem Ml(S:St){B:List (Nat×List DV)}{A:List (Nat×Ob)}(x:Nat×List DV)(h:Sub S ⟨B,A⟩):Sub S ⟨x::B,A⟩=True:=eq_true h.aP
theorem N6(S:St){B:List (Nat×List DV)}{A:List (Nat×Ob)}(x:Nat×Ob)(h:Sub S ⟨B,A⟩):Sub S ⟨B,x::A⟩=True:=eq_true h.pC
def qg:List Nat→List DV→St→(List DV→St→Prop)→Prop
 |[],fr,S,K=>K fr S
 |i::is,fr,S,K=>oK (fr[i]?) fun d=>shr S d fun d S=>qg is (fr.set i d) S K
theorem Cq(fr:List DV)(S:St)(K:List DV→St→Prop):qg [] fr S K=K fr S:=rfl
theorem x9(i:Nat)(is:List Nat)(fr:List DV)(S:St)(K:List DV→St→Prop):qg (i::is) fr S K=oK (fr[i]?) fun d=>shr S d fun d S=>qg is (fr.set i d) S K:=rfl
theorem uX{K:List DV→St→Prop}:∀(is:List Nat) {fr:List DV} {S:St} {g:Gh} {w:World} {us:List Value},Rel w0 g S w→ae g fr us→qg is fr S K→∃g' fr' S',g.le g'∧Rel w0 g' S' w∧ae g' fr' us∧K fr' S'
 |[],fr,S,g,w,us,h1,h2,h=>⟨g,fr,S,.refl g,h1,h2,h⟩
 |i::is,fr,S,g,w,us,h1,h2,h=>by
  unfold qg at h
  cases hi:fr[i]? with
  |none=>rw[hi]at h;exact h.elim
  |some d=>
   rw[hi,rT]at h;have hlt:i<us.length:=by rw[←h2.len];exact(W6.1 hi).1
   have hr:=h2.at_ i _ _ hi (W5 hlt);obtain⟨g1,d',S1,k1,k2,k3,k4⟩:=jI h1 hr h;obtain⟨g2,fr2,S2,q1,q2,q3,q4⟩:=uX is k2 (fY (h2.mono k1) (W5 hlt) k3) k4;exact⟨g2,fr2,S2,k1.trans q1,q2,q3,q4⟩
theorem Ky{σ:Type}(live:List Nat)(cK:σ→List (Nat×DV))(st:σ→St)(inv:σ→Prop)(meas:σ→Nat)(s0:σ){c:Code}{fr:List DV}{S:St}{Q:Exit→List DV→St→Prop}
 (h0:inv s0∧fp (wk live fr) (kE (wk live fr) (cK s0))∧Sub (st s0) S)
 (round:∀s,inv s→fL P w0 c (kE (wk live fr) (cK s)) (st s) (gq (fun fr' S'=>∃s',inv s'∧meas s'<meas s∧fp (wk live fr') (kE (wk live fr) (cK s'))∧Sub (st s') S') Q)):
 fL P w0 (.loop c) fr S Q:=by
 intro g a w h1 h2 h3;refine l7 (fun m a w=>Dk w0 g a w∧∃g' s,g.le g'∧Rel w0 g' (st s) w∧ae g' (kE (wk live fr) (cK s)) a.tmps.toList∧inv s∧meas s=m) (m:=meas s0) ⟨h3,g,s0,.refl g,h1.forget h0.2.2.box h0.2.2.acc,h0.2.1.spec (ia live h2),h0.1,rfl⟩ ?_;rintro m a w ⟨hd,g',s,k1,k2,k3,k4,rfl⟩;refine aU (round s k4 g' a w k2 k3 (k1.dk hd)) ?_;rintro e a' w' ⟨hd',g'',fr'',S'',q1,q2,q3,q4⟩
 cases e with
 |normal=>
  obtain⟨s',hi,hm,hf,hS⟩:=q4;exact⟨meas s',hm,k1.kd hd',g'',s',k1.trans q1,q2.forget hS.box hS.acc,hf.spec (ia live q3),hi,rfl⟩
 |exit n=>exact⟨k1.kd hd',g'',fr'',S'',k1.trans q1,q2,q3,q4⟩
 |goto n=>exact⟨k1.kd hd',g'',fr'',S'',k1.trans q1,q2,q3,q4⟩
 |ret=>exact⟨k1.kd hd',g'',fr'',S'',k1.trans q1,q2,q3,q4⟩
 |panic ch=>exact⟨k1.kd hd',g'',fr'',S'',k1.trans q1,q2,q3,q4⟩
 |outgrown=>exact⟨k1.kd hd',g'',fr'',S'',k1.trans q1,q2,q3,q4⟩
theorem fc{σ:Type}(ss:List Nat:=[])(live:List Nat)(cK:σ→List (Nat×DV))(st:σ→St)(inv:σ→Prop)(meas:σ→Nat)(s0:σ){c:Code}{fr:List DV}{S:St}{Q:Exit→List DV→St→Prop}(hm:P.follows .mixedOrders=true)(hc:qp ss c=true)
 (h0:inv s0∧fp (wk live fr) (kE (wk live fr) (cK s0))∧Sub (st s0) S)
 (round:∀s,inv s→vw P w0 ss c (kE (wk live fr) (cK s)) (st s) (gq (fun fr' S'=>∃s',inv s'∧meas s'<meas s∧fp (wk live fr') (kE (wk live fr) (cK s'))∧Sub (st s') S') Q)):
 fL P w0 (.loop c) fr S Q:=Ky live cK st inv meas s0 h0 fun s hs=>aQ hm c hc (round s hs)
theorem xN{σ:Type}(ss:List Nat:=[])(live:List Nat)(cK:σ→List (Nat×DV))(st:σ→St)(inv:σ→Prop){c:Code}{fr:List DV}{S:St}{Q:Exit→List DV→St→Prop}(hm:P.follows .mixedOrders=true)(hc:qp ss c=true)
 (h1:vw P w0 ss c fr S (gq (fun fr' S'=>∃s,inv s∧fp (wk live fr') (kE (wk live fr) (cK s))∧Sub (st s) S') Q))
 (h2:∀s,inv s→Q .normal (kE (wk live fr) (cK s)) (st s)):fL P w0 c fr S Q:=by
 intro g a w q1 q2 q3;refine aU (aQ hm c hc h1 g a w q1 q2 q3) ?_;rintro e a' w' ⟨hd,g',fr',S',k1,k2,k3,k4⟩
 cases e with
 |normal=>
  obtain⟨s,hi,hw,hS⟩:=k4;exact⟨hd,g',_,_,k1,k2.forget hS.box hS.acc,hw.spec (ia live k3),h2 s hi⟩
 |exit n=>exact⟨hd,g',fr',S',k1,k2,k3,k4⟩
 |goto n=>exact⟨hd,g',fr',S',k1,k2,k3,k4⟩
 |ret=>exact⟨hd,g',fr',S',k1,k2,k3,k4⟩
 |panic ch=>exact⟨hd,g',fr',S',k1,k2,k3,k4⟩
 |outgrown=>exact⟨hd,g',fr',S',k1,k2,k3,k4⟩
theorem Mn(ss:List Nat:=[]){c:Code}{fr:List DV}{S:St}{Q:Exit→List DV→St→Prop}(hm:P.follows .mixedOrders=true)(hc:qp ss c=true)(h:vw P w0 ss c fr S Q):fL P w0 c fr S Q:=aQ hm c hc h
theorem aX(ss:List Nat:=[])(n:Nat)(live:List Nat)(cK:Nat→List (Nat×DV))(st:Nat→St)(inv:Nat→Prop){c:Code}{fr:List DV}{S:St}{Q:Exit→List DV→St→Prop}(hm:P.follows .mixedOrders=true)(hc:qp ss c=true)
 (h0:inv 0∧fp (wk live fr) (kE (wk live fr) (cK 0))∧Sub (st 0) S)
 (round:∀k,k≤n→inv k→vw P w0 ss c (kE (wk live fr) (cK k)) (st k) (gq (fun fr' S'=>k<n∧inv (k+1)∧fp (wk live fr') (kE (wk live fr) (cK (k+1)))∧Sub (st (k+1)) S') Q)):
 fL P w0 (.loop c) fr S Q:=by
 refine Ky live cK st (fun k=>k≤n∧inv k) (fun k=>n-k) 0 ⟨⟨Xl _,h0.1⟩,h0.2⟩ ?_;rintro k ⟨h1,h2⟩;refine(aQ hm c hc (round k h1 h2)).mono ?_;intro e fr' S' q
 cases e with
 |normal=>
  obtain⟨q1,q2,q3,q4⟩:=q;exact⟨k+1,⟨q1,q2⟩,by omega,q3,q4⟩
 |exit n=>exact q
 |goto n=>exact q
 |ret=>exact q
 |panic ch=>exact q
 |outgrown=>exact q
theorem bW(ss:List Nat:=[]){f:FuncId}{fn:Func}{c:Code}{rs:List ResultVar}{args:List DV}{S:St}{r:DV}(hm:P.follows .mixedOrders=true)(hf:P.funcs[f]? =some fn)(hb:fn.body=some c)(hrs:fn.results=rs.toArray)(hc:qp ss c=true)
 (h:vw P w0 ss c (cJ (args++List.replicate (fn.ntmps-args.length) ud)) S fun e fr S'=>(e= .normal∨e= .ret)∧kJ P fr S' rs fun d=>ot S' d fun d S''=>Wk d r∧Sub S S''):aa P w0 f args S (fun d S'=>d=r∧S'=S):=by
 have h1:aa P w0 f args S (fun d S'=>ot S' d fun d S''=>Wk d r∧Sub S S''):=pb hf hb hrs (aQ hm c hc h);intro g vs w k1 k2;refine(h1 g vs w k1 k2).mono ?_;intro e w' k;refine k.imp (.refl _) ?_;rintro v g' d S' q2 q3 q4 q5;obtain⟨g2,d',S2,p1,p2,p3,p4,p5⟩:=Ac q3 q4 q5;exact⟨g2,r,S,q2.trans p1,p2.forget p5.box p5.acc,p4 _ _ p3,rfl,rfl⟩
theorem _root_.Aml.Rel.Lm{g:Gh}{S:St}{w:World}(h:Rel w0 g S w){b:Nat}{ds ds':List DV}(hl:lk S.box b=some ds)(hw:∀us e,w.heap[b]? =some (.cells us e (0,0))→ae g ds us.toList→ae g ds' us.toList):Rel w0 g ⟨up S.box b ds',S.acc⟩ w:=by
 refine⟨h.below,h.aN,by rw[lB];exact h.nb,h.na,h.dD,h.fresh,h.top,?_⟩;obtain⟨ow,o1,o2⟩:=h.own;refine⟨ow,fun b' e hm=>?_,o2⟩;rcases fA h.nb hm with he|⟨hm,_⟩
 ·cases he;obtain⟨q1,q2,q3,us,e,q4,q5,q6⟩:=o1 _ _ (bU hl);exact⟨q1,q2,q3,us,e,q4,hw _ _ q4 q5,q6⟩
 ·exact o1 _ _ hm
theorem fV(b j s:Nat)(hs:0<s){c:Code}{fr:List DV}{S:St}{Q:Exit→List DV→St→Prop}{ds:List DV}{s0:Nat}(hb:lk S.box b=some ds)(hi:ds[j]? =some (.sl s0 true []))
 (h:∀l:FN S.acc,fL P w0 c fr ⟨up S.box b (ds.set j (.acc l.n 0)),(l.n,.arr s [])::S.acc⟩ Q):fL P w0 c fr S Q:=by
 intro g a w h1 h2 h3;obtain⟨ow,o1,o2⟩:=h1.own;obtain⟨q1,q2,q3,us,e,q4,q5,q6⟩:=o1 _ _ (bU hb);have hlt:j<us.toList.length:=by rw[←q5.len];exact(W6.1 hi).1
 have hr:=q5.at_ j _ _ hi (W5 hlt);have hr':az g (.sl s true []) us.toList[j]:=by obtain⟨o',ho'⟩:=cC hr;rw[ho'];exact .nil _ _ _ _ fun _=>rfl
 obtain⟨l,g',hle,hne,hR,hA⟩:=h1.pU hs hr' (.arr s []) (.inr ⟨rfl,rfl⟩);have hR':=hR.Lm (ds':=ds.set j (.acc l 0)) (b:=b) hb ?_
 ·exact aU (h ⟨l,cg hne⟩ g' a w hR' (h2.mono hle) (hle.dk h3)) fun _ _ _ k=>k.of_le hle
 ·intro us' e' hh hr2;rw[hh]at q4;cases q4;exact fY hr2 (W5 hlt) hA
theorem nB(i s:Nat){c:Code}{fr:List DV}{S:St}{Q:Exit→List DV→St→Prop}{s0:Nat}(hi:fr[i]? =some (.sl s0 true []))(hs:0<s)
 (h:∀l:FN S.acc,fL P w0 c (fr.set i (.acc l.n 0)) ⟨S.box,(l.n,.arr s [])::S.acc⟩ Q):fL P w0 c fr S Q:=FV i s hs hi fun l hl=>h ⟨l,hl⟩
theorem Qo(ss:List Nat:=[])(is:List Nat){c:Code}{fr:List DV}{S:St}{Q:Exit→List DV→St→Prop}(hm:P.follows .mixedOrders=true)(hc:qp ss c=true)(h:qg is fr S fun fr S=>vw P w0 ss c fr S Q):fL P w0 c fr S Q:=by
 intro g a w h1 h2 h3;obtain⟨g',f',S',k1,k2,k3,k4⟩:=uX is h1 h2 h;exact aU (aQ hm c hc k4 g' a w k2 k3 (k1.dk h3)) fun _ _ _ k=>k.of_le k1
theorem rC{f:FuncId}{args:List DV}{S:St}{K K':DV→St→Prop}(h:aa P w0 f args S K')(s:Nat)(hs:0<s)
 (hk:∀d S',K' d S'→K d S'∨((∃s0,d= .sl s0 true [])∧∀l,iu S'.acc l→K (.acc l 0) ⟨S'.box,(l,.arr s [])::S'.acc⟩)):aa P w0 f args S K:=by
 intro g vs w h1 h2;refine(h g vs w h1 h2).mono ?_;intro e w' k;refine k.imp (.refl _) ?_;rintro r g' d S' q2 q3 q4 q5;rcases hk d S' q5 with h|⟨⟨s0,rfl⟩,h⟩
 ·exact⟨g',d,S',q2,q3,q4,h⟩
 ·have hr':az g' (.sl s true []) r:=by obtain⟨o',ho'⟩:=cC q4;rw[ho'];exact .nil _ _ _ _ fun _=>rfl
  obtain⟨l,g2,hle,hne,hR,hA⟩:=q3.pU hs hr' (.arr s []) (.inr ⟨rfl,rfl⟩);exact⟨g2,_,_,q2.trans hle,hR,hA,h l (cg hne)⟩
theorem Cp{f:FuncId}{args:List DV}{S:St}{xs:List DV}(s:Nat)(hs:0<s)(h:aa P w0 f args S fun d S'=>(xs=[]∧(∃s0,d= .sl s0 true [])∧S'=S)∨∃l:FN S.acc,d= .acc l.n xs.length∧S'=⟨S.box,(l.n,.arr s xs)::S.acc⟩):
 aa P w0 f args S fun d S'=>∃l:FN S.acc,d= .acc l.n xs.length∧S'=⟨S.box,(l.n,.arr s xs)::S.acc⟩:=by
 refine rC h s hs ?_;rintro d S' (⟨rfl,⟨s0,rfl⟩,rfl⟩|h)
 ·exact .inr ⟨⟨s0,rfl⟩,fun l hl=>⟨⟨l,hl⟩,rfl,rfl⟩⟩
 ·exact .inl h
end
attribute [go_sem high] Eh NC
attribute [go_sem] Nk Ml N6 Fo Jr Kq N9 Ik MF Mf
attribute [go_sem ↓] Cq x9
structure Wr(P:Prop):Prop where
 h:P
end Aml
namespace Aml
open Go Go.RowKit
section
variable {P:Program} {w0:W0}
theorem Ku{fr:List DV}{S:St}{K:DV→St→Prop}(x:Operand):aG P w0 (.panic x) fr S K=qk w0 (ev fr x) S:=rfl
theorem vy(t:TypeId)(d:DV)(S:St):qk w0 (.im t d) S=w0.pq (.im t d) S:=rfl
attribute [go_sem ↓] Ku vy
theorem mv(ss:List Nat:=[]){f:FuncId}{fn:Func}{c:Code}{rs:List ResultVar}{args:List DV}{S:St}{K:DV→St→Prop}(hm:P.follows .mixedOrders=true)(hf:P.funcs[f]? =some fn)(hb:fn.body=some c)(hrs:fn.results=rs.toArray)(hc:qp ss c=true)
 (h:vw P w0 ss c (cJ (args++List.replicate (fn.ntmps-args.length) ud)) S fun e fr S'=>(e= .normal∨e= .ret)∧kJ P fr S' rs fun d=>∃d' S'',Wk d d'∧Sub S'' S'∧K d' S''):aa P w0 f args S K:=by
 have h1:aa P w0 f args S (fun d S'=>∃d' S'',Wk d d'∧Sub S'' S'∧K d' S''):=pb hf hb hrs (aQ hm c hc h);intro g vs w k1 k2;refine(h1 g vs w k1 k2).mono ?_;intro e w' k;refine k.imp (.refl _) ?_;rintro v g' d S' q2 q3 q4 ⟨d',S'',p1,p2,p3⟩;exact⟨g',d',S'',q2,q3.forget p2.box p2.acc,p1 _ _ q4,p3⟩
end
end Aml
