/-
  Calls, functions, and the walk over code by reckoning; The walk over code by reckoning; Slices of the call's own, made, written and cut in place; make, cap, stores into elements, slices cut to nothing; append of so many zeros; comparison of a slice with nil; a growing slice cut to nothing; Structs of plain cells compared; keys that are structs of numbers; Maps: what is made, put, looked up, deleted; going over one; Rows that lie in boxes: copied, cleared, put together; Rows that lie in boxes: put together; own rows as boxes, and back; Structs of plain cells compared; The walk over code by reckoning: one function over operations, one over code. By an AI agent.
-/
import Derived.Test.YtpjenciplibdnaaGreatDoorMO1
import Derived.Lib.ConvBytes
import Derived.Laws.BytesArg
import Derived.Laws.StructEq
import Derived.MapKept
import Derived.Maps.RangeRun
set_option linter.unusedVariables false
set_option linter.unusedSimpArgs false
set_option maxRecDepth 100000
set_option maxHeartbeats 16000000
namespace Aml
open Go Go.RowKit
def nh(S:St)(d:DV)(K:DV→St→Prop):Prop:=match d with
 | .acc l n=>match lk S.acc l with
  |some (.arr s xs)=>xs.length=n∧K (.sl s false xs) ⟨S.box,up S.acc l (.tl s xs)⟩
  |some (.tl s xs)=>xs.length=n∧K (.sl s false xs) S
  |_=>False
 |d=>K d S
def mZ(S:St):List DV→(List DV→St→Prop)→Prop
 |[],K=>K [] S
 |d::ds,K=>nh S d fun e S=>mZ S ds fun es S=>K (e::es) S
def shr(S:St)(d:DV)(K:DV→St→Prop):Prop:=match d with
 | .agg ds=>mZ S ds fun ds S=>K (.agg ds) S
 |d=>nh S d K
def gy(S:St):List DV→(List DV→St→Prop)→Prop
 |[],K=>K [] S
 |d::ds,K=>shr S d fun e S=>gy S ds fun es S=>K (e::es) S
def oC(S:St)(d:DV)(K:DV→St→Prop):Prop:=match d with
 | .bD ds=>gy S ds fun ds S=>K (.bD ds) S
 |d=>shr S d K
section
variable {P:Program} {w0:W0}
theorem Rel.freeze{g:Gh}{S:St}{w:World}(h:Rel w0 g S w){l s:Nat}{xs:List DV}(hl:lk S.acc l=some (.arr s xs)){u:Value}(hu:g.acc l xs.length=some u):
 ∃g',g.le g'∧Rel w0 g' ⟨S.box,up S.acc l (.tl s xs)⟩ w∧aK g' (.sl s false xs) u:=by
 obtain⟨ow,ho⟩:=h.open_
 have hmem:=cn hl
 obtain⟨hs,⟨he,o,ha⟩|⟨b,c,cs,e,h1,h2,h3,h4,h5,h6,h7,h8,hA,us,h9,h10,h11,h12⟩⟩:=ho.acc l _ hmem
 ·subst he
  rw[show([]:List DV).length=0 from rfl,ha]at hu
  cases hu
  refine⟨g,.refl g,ir.close (ow:=ow) ⟨ho.below,ho.bM,ho.nb,by rw[od];exact ho.na,ho.gq,ho.fresh,?_,ho.box,?_,ho.oS⟩,.nil _ _ _ _ fun x=>by cases x⟩
  ·intro l' o' hl' k hk
   rcases iN ho.na hl' with e|⟨hm,hne⟩
   ·simp only[Prod.mk.injEq]at e;obtain⟨rfl,rfl⟩:=e;exact ho.top _ _ hmem k hk
   ·exact ho.top _ _ hm k hk
  ·intro l' o' hl'
   rcases iN ho.na hl' with e|⟨hm,hne⟩
   ·simp only[Prod.mk.injEq]at e;obtain⟨rfl,rfl⟩:=e
    exact⟨hs,.inl ⟨_,ha,.nil _ _ _ _ fun _=>rfl⟩⟩
   ·exact ho.acc _ _ hm
 ·rw[h1]at hu
  cases hu
  let f:Nat→Option Value:=fun i=>if i<xs.length*s then cs[i]? else none
  have hle:g.le (g.bh b f):=Gh.jf fun i u hu=>by rw[h4]at hu;cases hu
  have hlen:us.length=xs.length:=h9.len.symm
  have hrep:aK (g.bh b f) (.sl s false xs) (.slice (some ⟨b,0,none⟩) xs.length c):=by
   have:=aK.sl (g:=g.bh b f) s false xs b 0 c us hlen.symm (by simp) (by omega) h8 (h9.mono hle).at_ h10 h11 (fun i u j x a1 a2=>by
    simp only[Gh.bh,if_true,Nat.zero_add,f]
    have hj:j<s:=by rw[←h10 i u a1];exact(Array.getElem?_eq_some_iff.1 a2).1
    have hi:i<us.length:=(List.getElem?_eq_some_iff.1 a1).1
    rw[if_pos (lt_mul (by omega) hj)]
    exact h12 i u j x a1 a2)
   rwa [hlen]at this
  refine⟨g.bh b f,hle,ir.close (ow:=ow) ⟨ho.below.le hle,?_,ho.nb,by rw[od];exact ho.na,ho.gq,ho.fresh,?_,?_,?_,ho.oS⟩,hrep⟩
  ·intro b' i u hu
   simp only[Gh.bh]at hu
   split at hu
   ·rename_i e';subst e'
    simp only[f]at hu
    split at hu
    ·rw[cL h5];exact hu
    ·cases hu
   ·exact ho.bM _ _ _ hu
  ·intro l' o' hl' k hk
   rcases iN ho.na hl' with e|⟨hm,hne⟩
   ·simp only[Prod.mk.injEq]at e;obtain⟨rfl,rfl⟩:=e;exact ho.top _ _ hmem k hk
   ·exact ho.top _ _ hm k hk
  ·intro b' ds hb'
   refine(ho.box b' ds hb').step hle fun x=>⟨x,rfl,fun i hi=>?_⟩
   have:b'≠b:=by rintro rfl;rw[h2]at x;cases x
   simp only[Gh.bh,if_neg this];exact hi
  ·intro l' o' hl'
   rcases iN ho.na hl' with e'|⟨hm,hne⟩
   ·simp only[Prod.mk.injEq]at e';obtain⟨rfl,rfl⟩:=e'
    refine⟨hs,.inr ⟨b,c,cs,e,h1,h2,h3,fun i hi=>?_,h5,h6,h7,h8,hrep⟩⟩
    simp only[Gh.bh,if_true,f]
    rw[if_neg (by omega)]
   ·refine(ho.acc _ _ hm).step hle fun b' x=>⟨x,rfl,fun i hi=>?_⟩
    have:b'≠b:=by rintro rfl;rw[h2]at x;simp at x;exact hne x.symm
    simp only[Gh.bh,if_neg this];exact hi
theorem yj{g:Gh}{S:St}{w:World}(h:Rel w0 g S w){d:DV}{u:Value}(r:aK g d u){K:DV→St→Prop}(hk:nh S d K):∃g' d' S',g.le g'∧Rel w0 g' S' w∧aK g' d' u∧K d' S':=by
 unfold nh at hk
 split at hk
 ·rename_i l n
  obtain⟨o,c,hv,ha⟩:=ie r
  split at hk
  ·rename_i s xs hl
   obtain⟨rfl,hk⟩:=hk
   obtain⟨g',hle,hR,hr⟩:=h.freeze hl (hv▸ha)
   exact⟨g',_,_,hle,hR,hr,hk⟩
  ·rename_i s xs hl
   obtain⟨rfl,hk⟩:=hk
   obtain⟨ow,ho⟩:=h.open_
   obtain⟨hs,⟨u',ha',r'⟩|⟨b,c',cs,e,h1,h2,h3,h4,h5,h6,h7,h8,r'⟩⟩:=ho.acc l _ (cn hl)
   ·rw[ha]at ha';cases ha'
    refine⟨g,.sl s false xs,S,.refl g,h,?_,hk⟩
    rw[hv]
    rcases iJ r' with⟨he,o',c',hv',_⟩|⟨b,o',c',us,hv',hr,hfl,hlc,hcm,hzz,hone,hc⟩
    ·rw[hv',he];exact .nil _ _ _ _ fun x=>by cases x
    ·rw[hv']
     have hlen:us.length=xs.length:=hr.len.symm
     have:=aK.sl (g:=g) s false xs b o' c' us hlen.symm (by simp) (by omega) hcm hr.at_ hzz hone hc
     rwa [hlen]at this
   ·rw[ha]at h1;cases h1
    exact⟨g,.sl s false xs,S,.refl g,h,by rw[hv];exact r',hk⟩
  ·exact hk.elim
 ·exact⟨g,d,S,.refl g,h,r,hk⟩
theorem Bc:∀(ds:List DV) {g:Gh} {S:St} {w:World} (h:Rel w0 g S w) {us:List Value} (r:ai g ds us) {K:List DV→St→Prop} (hk:mZ S ds K),∃g' ds' S',g.le g'∧Rel w0 g' S' w∧ai g' ds' us∧K ds' S'
 |[],g,S,w,h,us,r,K,hk=>by
  have:us=[]:=List.eq_nil_of_length_eq_zero r.len.symm
  subst this
  exact⟨g,[],S,.refl g,h,ai.nil g,hk⟩
 |d::ds,g,S,w,h,us,r,K,hk=>by
  obtain⟨u,us',rfl,hu,hr⟩:=r.bP
  obtain⟨g1,d',S1,l1,R1,r1,k1⟩:=yj h hu hk
  obtain⟨g2,ds',S2,l2,R2,r2,k2⟩:=Bc ds R1 (hr.mono l1) k1
  exact⟨g2,d'::ds',S2,l1.trans l2,R2,ai.cons (r1.mono l2) r2,k2⟩
theorem mI{g:Gh}{S:St}{w:World}(h:Rel w0 g S w){d:DV}{u:Value}(r:aK g d u){K:DV→St→Prop}(hk:shr S d K):∃g' d' S',g.le g'∧Rel w0 g' S' w∧aK g' d' u∧K d' S':=by
 unfold shr at hk
 split at hk
 ·obtain⟨us,rfl,hr,h1⟩:=nG r
  obtain⟨g',ds',S',l1,R1,r1,k1⟩:=Bc _ h hr hk
  exact⟨g',_,S',l1,R1,.agg _ _ r1.len r1.at_ h1,k1⟩
 ·exact yj h r hk
theorem iT:∀(ds:List DV) {g:Gh} {S:St} {w:World} (h:Rel w0 g S w) {us:List Value} (r:ai g ds us) {K:List DV→St→Prop} (hk:gy S ds K),∃g' ds' S',g.le g'∧Rel w0 g' S' w∧ai g' ds' us∧K ds' S'
 |[],g,S,w,h,us,r,K,hk=>by
  have:us=[]:=List.eq_nil_of_length_eq_zero r.len.symm
  subst this
  exact⟨g,[],S,.refl g,h,ai.nil g,hk⟩
 |d::ds,g,S,w,h,us,r,K,hk=>by
  obtain⟨u,us',rfl,hu,hr⟩:=r.bP
  obtain⟨g1,d',S1,l1,R1,r1,k1⟩:=mI h hu hk
  obtain⟨g2,ds',S2,l2,R2,r2,k2⟩:=iT ds R1 (hr.mono l1) k1
  exact⟨g2,d'::ds',S2,l1.trans l2,R2,ai.cons (r1.mono l2) r2,k2⟩
theorem sy{g:Gh}{S:St}{w:World}(h:Rel w0 g S w){d:DV}{u:Value}(r:aK g d u){K:DV→St→Prop}(hk:oC S d K):∃g' d' S',g.le g'∧Rel w0 g' S' w∧aK g' d' u∧K d' S':=by
 unfold oC at hk
 split at hk
 ·obtain⟨us,rfl,hr⟩:=EO r
  obtain⟨g',ds',S',l1,R1,r1,k1⟩:=iT _ h hr hk
  exact⟨g',_,S',l1,R1,.bD _ _ r1.len r1.at_,k1⟩
 ·exact mI h r hk
def okF(P:Program)(f:FuncId):Bool:=match P.funcs[f]? with
 |some fn=>fn.body.isSome&&!(fn.name== "runtime.NumGoroutine")
 |none=>false
theorem Pa{o:Oper}{f:FuncId}{args:List Operand}{ts:Array TypeId}{cal:Operand}(ho:o.op= .call {callee:= .value cal,args:=args.toArray,argTypes:=ts}){ρD:Operand→DV}{S:St}{K:DV→St→Prop}
 {cap:List Value} (hcal:ρD cal= .v (.func (.func f) #[] cap.toArray)) (hf:okF P f=true) (h:(aa P w0 f (args.map ρD++cap.map .v) S K)∨gy S (args.map ρD) fun ds S=>aa P w0 f (ds++cap.map .v) S K) (hcap:∀u,u∈cap→u.oneCell'=true):aj P w0 o ρD S K:=by
 intro g w ρ h1 h2 hcst
 have hc:=h2 cal (by simp[ho,Op.operands,Call.operands])
 rw[hcal]at hc
 have hv:=ay hc
 have hargs:=dw (g:=g) (ρD:=ρD) (ρ:=ρ) args (fun p hp=>h2 p (by simp[ho,Op.operands,Call.operands,hp]))
 unfold okF at hf
 split at hf
 ·rename_i fn hfn
  simp only[Bool.and_eq_true,Bool.not_eq_true']at hf
  obtain⟨hb,hname⟩:=hf
  have hrun:(execOp ρ o).run P w= .ok (.enter f ((args.map ρ)++cap).toArray) w:=by
   have hbn:¬fn.body=none:=by intro e;simp[e]at hb
   have hname':¬fn.name= "runtime.NumGoroutine" :=by simpa using hname
   simp[execOp,ho,resolve,hv,Deferred.ofValue,invoke,callFunc,hfn,hname',hbn]
  rw[hrun]
  obtain⟨g1,ds,S1,l1,R1,r1,k1⟩:∃g1 ds S1,g.le g1∧Rel w0 g1 S1 w∧ai g1 ds (args.map ρ)∧aa P w0 f (ds++cap.map .v) S1 K:=by
   rcases h with h|h
   ·exact⟨g,_,S,.refl g,h1,hargs,h⟩
   ·exact iT _ h1 hargs h
  have hcapR:ai g1 (cap.map .v) cap:=⟨by simp,fun i d u a1 a2=>by
   simp only[List.getElem?_map,Option.map_eq_some_iff]at a1
   obtain⟨u',a1,rfl⟩:=a1
   rw[a2]at a1;cases a1
   exact .v _ (hcap _ (List.mem_of_getElem? a2))⟩
  refine(k1 g1 _ w R1 (by simpa using r1.append hcapR)).mono ?_
  rintro e w' ⟨r,g',d,S',rfl,a,b,c,x⟩
  exact⟨r,g',d,S',rfl,l1.trans a,b,c,x⟩
 ·cases hf
theorem JN{o:Oper}{f:FuncId}{args:List Operand}{ts:Array TypeId}{cal:Operand}(ho:o.op= .call {callee:= .value cal,args:=args.toArray,argTypes:=ts}){ρD:Operand→DV}{S:St}{K:DV→St→Prop}
 {fst cap:List Value} (hcal:ρD cal= .v (.func (.func f) fst.toArray cap.toArray)) (hf:okF P f=true) (h:(aa P w0 f (fst.map .v++(args.map ρD++cap.map .v)) S K)∨gy S (args.map ρD) fun ds S=>aa P w0 f (fst.map .v++(ds++cap.map .v)) S K) (hfst:∀u,u∈fst→u.oneCell'=true) (hcap:∀u,u∈cap→u.oneCell'=true):aj P w0 o ρD S K:=by
 intro g w ρ h1 h2 hcst
 have hc:=h2 cal (by simp[ho,Op.operands,Call.operands])
 rw[hcal]at hc
 have hv:=ay hc
 have hargs:=dw (g:=g) (ρD:=ρD) (ρ:=ρ) args (fun p hp=>h2 p (by simp[ho,Op.operands,Call.operands,hp]))
 unfold okF at hf
 split at hf
 ·rename_i fn hfn
  simp only[Bool.and_eq_true,Bool.not_eq_true']at hf
  obtain⟨hb,hname⟩:=hf
  have hrun:(execOp ρ o).run P w= .ok (.enter f (fst++((args.map ρ)++cap)).toArray) w:=by
   have hbn:¬fn.body=none:=by intro e;simp[e]at hb
   have hname':¬fn.name= "runtime.NumGoroutine" :=by simpa using hname
   simp[execOp,ho,resolve,hv,Deferred.ofValue,invoke,callFunc,hfn,hname',hbn]
  rw[hrun]
  obtain⟨g1,ds,S1,l1,R1,r1,k1⟩:∃g1 ds S1,g.le g1∧Rel w0 g1 S1 w∧ai g1 ds (args.map ρ)∧aa P w0 f (fst.map .v++(ds++cap.map .v)) S1 K:=by
   rcases h with h|h
   ·exact⟨g,_,S,.refl g,h1,hargs,h⟩
   ·exact iT _ h1 hargs h
  have one:∀{l:List Value},(∀u,u∈l→u.oneCell'=true)→ai g1 (l.map .v) l:=fun{l} hl=>⟨by simp,fun i d u a1 a2=>by
   simp only[List.getElem?_map,Option.map_eq_some_iff]at a1
   obtain⟨u',a1,rfl⟩:=a1
   rw[a2]at a1;cases a1
   exact .v _ (hl _ (List.mem_of_getElem? a2))⟩
  refine(k1 g1 _ w R1 (by simpa using(one hfst).append (r1.append (one hcap)))).mono ?_
  rintro e w' ⟨r,g',d,S',rfl,a,b,c,x⟩
  exact⟨r,g',d,S',rfl,l1.trans a,b,c,x⟩
 ·cases hf
def rV(P:Program)(t:TypeId)(name:String):Option FuncId:=match tk P t,P.info? t with
 | .st _ _,some i=>(match i.methods.find? (·.name==name)with
  |some m=>(match m.path.toList,m.func with
   |[],some (f,false)=>some f
   |_,_=>none)
  |none=>none)
 |_,_=>none
theorem Db{t:TypeId}{name:String}{f:FuncId}(h:rV P t name=some f)(v:Value)(n:Nat)(w:World):(Go.method (n+1) t v name).run P w= .ok (f,v) w:=by
 unfold rV at h
 split at h
 ·rename_i fs sz i hk hi
  obtain⟨F,i',hu,_,_,_,_⟩:=EW hk
  split at h
  ·rename_i m hm
   split at h
   ·rename_i f' hp hf
    cases h
    have hr:∀o,(Go.receiverAt t (.val v) false o).run P w= .ok v w:=fun o=>by
     simp[Go.receiverAt,run_underlying hu,Go.Place.get]
    simp[Go.method,typeInfo,hi,hm,hp,hf,Go.follow,hr]
   ·cases h
  ·cases h
 ·cases h
theorem JC{o:Oper}{f:FuncId}{args:List Operand}{ts:Array TypeId}{r:Operand}{name:String}(ho:o.op= .call {callee:= .invoke r name,args:=args.toArray,argTypes:=ts}){ρD:Operand→DV}{S:St}{K:DV→St→Prop}
 {t:TypeId} (hr:ρD r= .jM t (.agg [])) (hi:rV P t name=some f) (hf:okF P f=true) (h:(aa P w0 f (.agg []::args.map ρD) S K)∨gy S (.agg []::args.map ρD) fun ds S=>aa P w0 f ds S K):aj P w0 o ρD S K:=by
 intro g w ρ h1 h2 hcst
 have hc:=h2 r (by simp[ho,Op.operands,Call.operands])
 rw[hr]at hc
 obtain⟨u,hv,hu⟩:=sL hc
 have hargs:=dw (g:=g) (ρD:=ρD) (ρ:=ρ) args (fun p hp=>h2 p (by simp[ho,Op.operands,Call.operands,hp]))
 unfold okF at hf
 split at hf
 ·rename_i fn hfn
  simp only[Bool.and_eq_true,Bool.not_eq_true']at hf
  obtain⟨hb,hname⟩:=hf
  have hrun:(execOp ρ o).run P w= .ok (.enter f (u::args.map ρ).toArray) w:=by
   have hbn:¬fn.body=none:=by intro e;simp[e]at hb
   have hname':¬fn.name= "runtime.NumGoroutine" :=by simpa using hname
   have hm:(Go.method (P.types.size+Made.depth) t u name).run P w= .ok (f,u) w:=Db hi u (P.types.size+99) w
   simp[execOp,ho,resolve,hv,invoke,callMethod,hm,callFunc,hfn,hname',hbn]
   exact List.take_of_length_le (by simp)
  rw[hrun]
  obtain⟨g1,ds,S1,l1,R1,r1,k1⟩:∃g1 ds S1,g.le g1∧Rel w0 g1 S1 w∧ai g1 ds (u::args.map ρ)∧aa P w0 f ds S1 K:=by
   rcases h with h|h
   ·exact⟨g,_,S,.refl g,h1,ai.cons hu hargs,h⟩
   ·exact iT _ h1 (ai.cons hu hargs) h
  refine(k1 g1 _ w R1 (by simpa using r1)).mono ?_
  rintro e w' ⟨r,g',d,S',rfl,a,b,c,x⟩
  exact⟨r,g',d,S',rfl,l1.trans a,b,c,x⟩
 ·cases hf
def zL(P:Program)(w0:W0)(l:Nat)(args:List DV)(S:St)(K:DV→St→Prop):Prop:=
 ∀g (vs:Array Value) w,Rel w0 g S w→ai g args vs.toList→∃fn tmps assign body,(Instr.yield l vs).run P w= .ok (.round l fn tmps assign body) w∧
  ∀ro,RoundIn (fz ro) 0 P l fn tmps assign body w fun e w'=>∃r g' d S',e= .returned r∧g.le g'∧Rel w0 g' S' w'∧aK g' d r∧K d S'
theorem Qu{o:Oper}{l:Nat}{args:List Operand}{ts:Array TypeId}{cal:Operand}(ho:o.op= .call {callee:= .value cal,args:=args.toArray,argTypes:=ts}){ρD:Operand→DV}{S:St}{K:DV→St→Prop}
 (hcal:ρD cal= .v (.func (.yield l) #[] #[])) (h:gy S (args.map ρD) fun ds S=>zL P w0 l ds S K):aj P w0 o ρD S K:=by
 intro g w ρ h1 h2 hcst
 have hc:=h2 cal (by simp[ho,Op.operands,Call.operands])
 rw[hcal]at hc
 have hv:=ay hc
 have hargs:=dw (g:=g) (ρD:=ρD) (ρ:=ρ) args (fun p hp=>h2 p (by simp[ho,Op.operands,Call.operands,hp]))
 obtain⟨g1,ds,S1,l1,R1,r1,k1⟩:=iT _ h1 hargs h
 obtain⟨fn,tmps,assign,body,q1,q2⟩:=k1 g1 (args.map ρ).toArray w R1 (by simpa using r1)
 have hrun:(execOp ρ o).run P w= .ok (.round l fn tmps assign body) w:=by
  rw[←q1]
  simp[execOp,ho,resolve,hv,Deferred.ofValue,invoke]
 rw[hrun]
 intro ro
 refine(q2 ro).mono ?_
 rintro e w' ⟨r,g',d,S',rfl,a,b,c,x⟩
 exact⟨r,g',d,S',rfl,l1.trans a,b,c,x⟩
def rz(P:Program)(fr:List DV)(S:St)(K:DV→Prop):ResultVar→Prop
 | .tmp t=>K (fr.getD t ud)
 | .cell a t=>bG (tk P t) S (fr.getD a ud) K
def uB(P:Program)(fr:List DV)(S:St):List ResultVar→(List DV→Prop)→Prop
 |[],K=>K []
 |r::rs,K=>rz P fr S (fun d=>uB P fr S rs fun ds=>K (d::ds)) r
def tO(P:Program)(fr:List DV)(S:St)(rs:List ResultVar)(K:DV→Prop):Prop:=match rs with
 |[r]=>rz P fr S K r
 |rs=>uB P fr S rs fun ds=>K (.bD ds)
theorem I4{g:Gh}{S:St}{w:World}(h1:Rel w0 g S w){t:TypeId}{d:DV}{u:Value}(hx:aK g d u){K:DV→Prop}(h:bG (tk P t) S d K):∃a v d',u= .pointer (some a)∧(loadVar t a).run P w= .ok v w∧aK g d' v∧K d':=by
 have fin:∀{b o':Nat} {ds:List DV} {us:List Value},u= .pointer (some ⟨b,o',none⟩)→ai g ds us→(∀u,u∈us→u.oneCell'=true)→(∀(j:Nat) (x:Value),us[j]? =some x→w.cell? ⟨b,o'+j,none⟩=some x)→
  p8 (tk P t) ds K→∃a v d',u= .pointer (some a)∧(loadVar t a).run P w= .ok v w∧aK g d' v∧K d':=by
  intro b o' ds us hv hr hone hc hk
  obtain⟨d,u',hrun,hd,hk⟩:=FG (P:=P) hr hone hc hk
  exact⟨_,u',d,hv,by simpa[Instr.loadAt,Instr.sureAddr]using hrun,hd,hk⟩
 unfold bG at h
 split at h
 ·split at h
  ·rename_i ds hb
   obtain⟨_,_,us,e,hh,hr,hone⟩:=h1.xG hb
   refine fin (ay hx) (hr.drop _) (fun u hu=>hone u (List.mem_of_mem_drop hu)) (fun j x hj=>?_) h
   rw[cL hh]
   simpa using hj
  ·exact h.elim
 ·obtain⟨b,o',us,hv,hr,hone,hi⟩:=ql hx
  exact fin hv hr hone (fun j x hj=>h1.bM _ _ _ (hi j x hj)) h
 ·rename_i l n s i o'
  obtain⟨b,q,c,hv,ha⟩:=sV hx
  have go:∀(ob:Ob) (xs:List DV),lk S.acc l=some ob→(ob= .arr s xs∨ob= .tl s xs)→xs.length=n→(∃d,xs[i]? =some d∧eL d=true∧p8 (tk P t) ((cd d).drop o') K)→
   ∃a v d',u= .pointer (some a)∧(loadVar t a).run P w= .ok v w∧aK g d' v∧K d':=by
   intro ob xs hob he hn ⟨d,hd1,hd2,hk⟩
   subst hn
   obtain⟨us,hr,hone,hc⟩:=h1.v8 hob he ha hd1 hd2
   refine fin hv (hr.drop o') (fun u hu=>hone u (List.mem_of_mem_drop hu)) (fun j x hj=>?_) hk
   rw[Nat.add_assoc]
   exact hc _ _ (by simpa using hj)
  split at h
  ·rename_i s' xs hob
   obtain⟨hn,rfl,hk⟩:=h
   exact go _ xs hob (.inl rfl) hn hk
  ·rename_i s' xs hob
   obtain⟨hn,rfl,hk⟩:=h
   exact go _ xs hob (.inr rfl) hn hk
  ·exact h.elim
 ·exact h.elim
def NA(tmps:Array Value):ResultVar→Sem Value
 | .tmp t=>pure (tmps.getD t undef)
 | .cell p t=>do loadVar t (←asAddr (tmps.getD p undef))
theorem tw(fn:Func)(tmps:Array Value):results fn tmps=(do
 let vs ←fn.results.mapM (NA tmps)
 pure (if h:vs.size=1 then vs[0]else .tuple vs)):=by
 unfold results
 congr 1
theorem Aa{g:Gh}{S:St}{w:World}(h1:Rel w0 g S w){fr:List DV}{a:Act}(hr:ai g fr a.tmps.toList){K:DV→Prop}{r:ResultVar}(h:rz P fr S K r):
 ∃v d,(NA a.tmps r).run P w= .ok v w∧aK g d v∧K d:=by
 cases r with
 |tmp t=>
  have:=hr.getD t
  exact⟨_,_,rfl,by simpa using this,h⟩
 |cell p t=>
  have hx:=hr.getD p
  obtain⟨ad,v,d,e1,e2,e3,e4⟩:=I4 (P:=P) h1 hx h
  refine⟨v,d,?_,e3,e4⟩
  have e1':a.tmps.getD p undef= .pointer (some ad):=by simpa using e1
  simp only[NA,e1',asAddr]
  simpa using e2
theorem Bo{g:Gh}{S:St}{w:World}(h1:Rel w0 g S w){fr:List DV}{a:Act}(hr:ai g fr a.tmps.toList):∀(rs:List ResultVar) {K:List DV→Prop} (h:uB P fr S rs K),
 ∃vs ds,(rs.mapM (NA a.tmps)).run P w= .ok vs w∧ai g ds vs∧K ds∧vs.length=rs.length
 |[],K,h=>⟨[],[],by simp,ai.nil g,h,rfl⟩
 |r::rs,K,h=>by
  obtain⟨v,d,e1,e2,e3⟩:=Aa (P:=P) h1 hr h
  obtain⟨vs,ds,q1,q2,q3,q4⟩:=Bo h1 hr rs e3
  refine⟨v::vs,d::ds,?_,ai.cons e2 q2,q3,by simp[q4]⟩
  rw[List.mapM_cons]
  simp only[Sem.run_bind,e1,q1,Result.andThen_ok,Sem.run_pure]
theorem NU{g:Gh}{S:St}{w:World}(h1:Rel w0 g S w){fr:List DV}{a:Act}(hr:ai g fr a.tmps.toList){fn:Func}{rs:List ResultVar}(hrs:fn.results=rs.toArray){K:DV→Prop}(h:tO P fr S rs K):
 ∃v d,(results fn a.tmps).run P w= .ok v w∧aK g d v∧K d:=by
 unfold tO at h
 split at h
 ·rename_i r
  obtain⟨v,d,e1,e2,e3⟩:=Aa (P:=P) h1 hr h
  refine⟨v,d,?_,e2,e3⟩
  rw[tw,hrs]
  simp only[List.mapM_toArray,List.mapM_cons,List.mapM_nil,Sem.run_bind,Sem.run_map,e1]
  simp
 ·rename_i hne
  obtain⟨vs,ds,q1,q2,q3,q4⟩:=Bo (P:=P) h1 hr rs h
  refine⟨.tuple vs.toArray,.bD ds,?_,.bD ds vs q2.len q2.at_,q3⟩
  have hlen:vs.length≠1:=by
   rw[q4]
   intro e
   match rs,e with
   |[r],_=>exact hne r rfl
  rw[tw,hrs]
  simp only[List.mapM_toArray,Sem.run_bind,Sem.run_map,q1]
  simp[hlen]
theorem kQ.put{ow:Nat→Option Key}{B:Nat}{g:Gh}{w w':World}{l:Nat}{o:Ob}{D:Nat}(h:kQ ow B g w l o)(hn:∀o,w.heap[D]? =some o→nc o=true)(hs:∀k,k≠D→w'.heap[k]? =w.heap[k]?):kQ ow B g w' l o:=by
 cases o with
 |arr s xs=>
  obtain⟨hs',h|⟨b,c,cs,e,h1,h2,h3,h4,h5,h6⟩⟩:=h
  ·exact⟨hs',.inl h⟩
  ·exact⟨hs',.inr ⟨b,c,cs,e,h1,h2,h3,h4,by rw[hs b (by rintro rfl;exact absurd (hn _ h5) (by simp[nc]))];exact h5,h6⟩⟩
 |tl s xs=>
  obtain⟨hs',h|⟨b,c,cs,e,h1,h2,h3,h4,h5,h6⟩⟩:=h
  ·exact⟨hs',.inl h⟩
  ·exact⟨hs',.inr ⟨b,c,cs,e,h1,h2,h3,h4,by rw[hs b (by rintro rfl;exact absurd (hn _ h5) (by simp[nc]))];exact h5,h6⟩⟩
 |xo f=>
  obtain⟨b,o,h1,h2,h3,h4,h5,h6⟩:=h
  exact⟨b,o,h1,h2,h3,h4,by rw[hs b (by rintro rfl;exact absurd (hn _ h5) (by rw[h6.nc];simp))];exact h5,h6⟩
theorem Rel.putObj{g:Gh}{S:St}{w:World}(h:Rel w0 g S w){D:Nat}{o o':Obj}(hD:w.heap[D]? =some o)(hn:nc o=true)(ho:g.obj D=none)(hB:w0.heap.size≤D):Rel w0 g S (w.putObj D o'):=by
 have hs:∀k,k≠D→(w.putObj D o').heap[k]? =w.heap[k]? :=fun k hk=>World.putObj_heap_other hk
 have hnc:∀o,w.heap[D]? =some o→nc o=true:=fun o h=>by rw[hD]at h;cases h;exact hn
 obtain⟨ow,o1,o2⟩:=h.own
 refine⟨⟨h.below.base.trans ⟨rfl,rfl,rfl,by simp,fun k hk=>hs k (by omega),Nat.le_refl _⟩,fun k o hk=>?_,h.below.kn⟩,fun b i u hu=>?_,h.nb,h.na,h.gq,h.fresh,h.top,ow,fun b ds hb=>?_,fun l o hl=>(o2 l o hl).put hnc hs⟩
 ·obtain⟨h1,h2⟩:=h.below.obj k o hk
  exact⟨(hs k (by rintro rfl;rw[ho]at hk;cases hk)).trans h1,h2⟩
 ·have h1:=h.bM b i u hu
  have hne:b≠D:=by
   rintro rfl
   unfold World.cell? at h1
   simp only[hD]at h1
   cases o <;>simp_all [nc]
  rw[World.cell?_of_block (w:=w) (w':=w.putObj D o') (a:=⟨b,i,none⟩) (hs b hne)]
  exact h1
 ·obtain⟨q1,q2,q3,us,e,q4,q5⟩:=o1 b ds hb
  exact⟨q1,q2,q3,us,e,by rw[hs b (by rintro rfl;exact absurd (hnc _ q4) (by simp[nc]))];exact q4,q5⟩
theorem o7{fn:Func}{tmps:Array Value}{R:Ending→World→Prop}{g:Gh}{S:St}:∀(ds:List Deferred) (w:World),Rel w0 g S w→ds.Nodup→(∀d,d∈ds→∃D,d={target:= .collected D,args:= #[]}∧w.heap[D]? =some (.deferred (some []))∧g.obj D=none∧w0.heap.size≤D)→
 (∀w',Rel w0 g S w'→LeavesInM (fz none) 0 P fn tmps R [] .returning w')→LeavesInM (fz none) 0 P fn tmps R ds .returning w
 |[],w,h,_,_,k=>k w h
 |d::ds,w,h,hn,hd,k=>by
  obtain⟨D,e,h1,h2,h3⟩:=hd d List.mem_cons_self
  rw[List.nodup_cons]at hn
  refine⟨by simp,.inl ⟨D,_,by rw[e],run_takeDeferred h1,?_⟩⟩
  refine o7 ds _ (h.putObj h1 rfl h2 h3) hn.2 (fun d' hd'=>?_) k
  obtain⟨D',e',q1,q2⟩:=hd d' (List.mem_cons_of_mem _ hd')
  have hne:D'≠D:=by rintro rfl;rw[←e]at e';subst e';exact hn.1 hd'
  exact⟨D',e',(World.putObj_heap_other hne).trans q1,q2⟩
theorem uP{f:FuncId}{fn:Func}{c:Code}{rs:List ResultVar}{args:List DV}{S:St}{K:DV→St→Prop}(hf:P.funcs[f]? =some fn)(hb:fn.body=some c)(hrs:fn.results=rs.toArray)
 (h:gk P w0 c (args++List.replicate (fn.ntmps-args.length) ud) S fun e fr S'=>(e= .normal∨e= .ret)∧tO P fr S' rs fun d=>K d S'):aa P w0 f args S K:=by
 intro g vs w h1 h2
 refine(oq (ro:=none) (n:=0)).1 (callsIn_of_wp_marks hf hb trivial ?_ rfl)
 have hlen:args.length=vs.size:=by simpa using h2.len
 refine wpIn_mono (h g _ w h1 (by rw[hlen];simpa using h2.append (ai.replicate g (fn.ntmps-vs.size))) (.nil rfl) none (.inl rfl)) ?_
 rintro e a w' ⟨hd,g',fr,S',k1,k2,k3,hq,k4⟩
 have hd':=k1.dk hd
 have fin:LeavesInM (fz none) 0 P fn a.tmps (fun e w'=>∃r g' d S',e= .returned r∧g.le g'∧Rel w0 g' S' w'∧aK g' d r∧K d S') a.defers .returning w':=by
  refine o7 a.defers w' k2 hd'.1 hd'.2 fun w'' k2'=>?_
  obtain⟨v,d,e1,e2,e3⟩:=NU (P:=P) k2' k3 hrs k4
  exact⟨v,e1,v,g',d,S',rfl,k1,k2',e2,e3⟩
 rcases hq with rfl|rfl
 ·exact fin
 ·exact fin
end
end Aml
namespace Aml
open Go Go.RowKit
def eG(P:Program)(t:TypeId):TypeId:=match tk P t with
 | .sl e _ _ _=>e
 |_=>0
section
variable {P:Program} {w0:W0}
theorem zip_fst{α β:Type}:∀{l:List α} {r:List β},l.length=r.length→(l.zip r).map (·.1)=l
 |[],_,_=>by simp
 |a::l,[],h=>by simp at h
 |a::l,b::r,h=>by simp at h;simp[zip_fst h]
theorem sO{α β:Type}:∀{l:List α} {r:List β},l.length=r.length→(l.zip r).map (·.2)=r
 |[],[],_=>by simp
 |[],_::_,h=>by simp at h
 |a::l,[],h=>by simp at h
 |a::l,b::r,h=>by simp at h;simp[sO h]
theorem LN{o:Oper}{t:TypeId}{parts:List (Nat×Operand)}(ho:o.op= .build t parts.toArray){ρD:Operand→DV}{S:St}{K:DV→St→Prop}
 (h:gy S (parts.map fun p=>ρD p.2) fun ds S=>gE P t ((parts.map (·.1)).zip ds) (K · S)):aj P w0 o ρD S K:=by
 intro g w ρ h1 h2 hcst
 have hR:=jP (g:=g) (ρD:=ρD) (ρ:=ρ) parts (fun p hp=>h2 p.2 (by simp only[ho,Op.operands];simp;exact⟨p.1,hp⟩))
 obtain⟨g',ds,S',l1,R1,r1,k1⟩:=iT _ h1 hR h
 have hlen:(parts.map (·.1)).length=ds.length:=by have:=r1.len;simpa using this.symm
 obtain⟨d,u,e1,e2,e3⟩:=BO (P:=P) (w:=w) (g:=g') (t:=t) (parts:=(parts.map (·.1)).zip ds) (vs:=parts.map fun p=>(p.1,ρ p.2)) (by rw[zip_fst hlen];simp) (by rw[sO hlen];simpa[Function.comp_def]using r1) k1
 have hrun:(execOp ρ o).run P w= .ok (.value u) w:=by
  have e:(parts.toArray.map fun(i,x)=>(i,ρ x))=(parts.map fun p=>(p.1,ρ p.2)).toArray:=by simp
  simp only[execOp,ho,Sem.run_bind]
  rw[e,e1]
  rfl
 rw[hrun]
 exact⟨g',d,S',l1,R1,e2,e3⟩
theorem vo{o:Oper}{t len:Nat}{parts:List (Nat×Operand)}(ho:o.op= .buildSlice t len parts.toArray){ρD:Operand→DV}{S:St}{K:DV→St→Prop}
 (h:gy S (parts.map fun p=>ρD p.2) fun ds S=>aP (tk P t) (zD P (eG P t)) len ((parts.map (·.1)).zip ds) (K · S)):aj P w0 o ρD S K:=by
 intro g w ρ h1 h2 hcst
 have hR:=jP (g:=g) (ρD:=ρD) (ρ:=ρ) parts (fun p hp=>h2 p.2 (by simp only[ho,Op.operands];simp;exact⟨p.1,hp⟩))
 obtain⟨g',ds,S',l1,R1,r1,k1⟩:=iT _ h1 hR h
 have hlen:(parts.map (·.1)).length=ds.length:=by have:=r1.len;simpa using this.symm
 obtain⟨d,u,w',g2,e1,l2,R2,e2,e3⟩:=rS (P:=P) R1 (t:=t) (len:=len) (parts:=(parts.map (·.1)).zip ds) (vs:=parts.map fun p=>(p.1,ρ p.2)) (by rw[zip_fst hlen];simp) (by rw[sO hlen];simpa[Function.comp_def]using r1)
  (e:=eG P t) (fun e' s b i hk=>by simp[eG,hk]) k1
 have hrun:(execOp ρ o).run P w= .ok (.value u) w':=by
  have e:(parts.toArray.map fun(i,x)=>(i,ρ x))=(parts.map fun p=>(p.1,ρ p.2)).toArray:=by simp
  simp only[execOp,ho,Sem.run_bind]
  rw[e,e1]
  rfl
 rw[hrun]
 exact⟨g2,d,S',l1.trans l2,R2,e2,e3⟩
theorem B3{o:Oper}{t:TypeId}{x:Operand}(ho:o.op= .makeInterface t x){ρD:Operand→DV}{S:St}{K:DV→St→Prop}(h:ry (tk P t)=false∧shr S (ρD x) fun d S=>K (.jM t d) S):aj P w0 o ρD S K:=by
 intro g w ρ h1 h2 hcst
 have hx:=h2 x (by simp[ho,Op.operands])
 obtain⟨d,hu,hd⟩:=wA h.1
 obtain⟨g',d',S',l1,R1,r1,k1⟩:=mI h1 hx h.2
 have hrun:(execOp ρ o).run P w= .ok (.value (.iface t (ρ x))) w:=by
  cases d <;>first|exact absurd rfl (hd _)|simp[execOp,ho,Instr.makeInterface,run_underlying hu]
 rw[hrun]
 exact⟨g',_,S',l1,R1,.jM t _ _ r1,k1⟩
def jZ(k:TK)(S:St)(x:DV)(lo hi mx:Option DV)(K:DV→St→Prop):Prop:=nh S x fun x S=>fu k x lo hi mx (K · S)
theorem zW{o:Oper}{t:TypeId}{x:Operand}{lo hi mx:Option Operand}(ho:o.op= .slice t x lo hi mx){ρD:Operand→DV}{S:St}{K:DV→St→Prop}
 (hh:mx.isSome=true→hi.isSome=true) (hne:(lo≠some x∧hi≠some x∧mx≠some x)) (h:jZ (tk P t) S (ρD x) (lo.map ρD) (hi.map ρD) (mx.map ρD) K):aj P w0 o ρD S K:=by
 intro g w ρ h1 h2 hcst
 have hx:=h2 x (by simp[ho,Op.operands])
 classical
 obtain⟨g',d',S',l1,R1,r1,k1⟩:=yj h1 hx h
 have e:∀(y:Option Operand),y≠some x→y.map (fun z=>if z=x then d' else ρD z)=y.map ρD:=by
  intro y hy
  cases y with
  |none=>rfl
  |some y=>simp only[Option.map_some];rw[if_neg (fun e=>hy (by rw[e]))]
 have:=Ps (P:=P) (w0:=w0) ho (ρD:=fun z=>if z=x then d' else ρD z) (S:=S') (K:=K) hh (by
  simp only[if_true]
  rw[e lo hne.1,e hi hne.2.1,e mx hne.2.2]
  exact k1) g' w ρ R1 (fun z hz=>by
   by_cases hzx:z=x
   ·simp only[hzx,if_true];exact r1
   ·simp only[hzx,if_false];exact(h2 z hz).mono l1) hcst
 split at this
 ·obtain⟨g2,d,S2,l2,q⟩:=this
  exact⟨g2,d,S2,l1.trans l2,q⟩
 ·obtain⟨g2,S2,l2,q⟩:=this
  exact⟨g2,S2,l1.trans l2,q⟩
 ·exact this.mono fun e w'' ⟨r,g2,d,S2,a,b,q⟩=>⟨r,g2,d,S2,a,l1.trans b,q⟩
 ·exact fun ro=>(this ro).mono fun e w'' ⟨r,g2,d,S2,a,b,q⟩=>⟨r,g2,d,S2,a,l1.trans b,q⟩
 ·exact this
def Qg:DV→Bool
 | .v _=>false
 |_=>true
def vK:List DV→List Int
 |[]=>[]
 | .v (.int .u8 n)::xs=>n::vK xs
 |_::xs=>0::vK xs
def nI:List DV→Bool
 |[]=>true
 | .v (.int .u8 _)::xs=>nI xs
 |_::_=>false
theorem Jl:∀{xs:List DV},nI xs=true→xs=(vK xs).map fun n=>DV.v (.int .u8 n)
 |[],_=>rfl
 | .v (.int .u8 n)::xs,h=>by simp only[vK,List.map_cons];rw[←Jl (xs:=xs) h]
 |x::xs,h=>by
  unfold nI at h
  split at h
  ·rename_i e;cases e
  ·rename_i e;cases e;simp only[vK,List.map_cons];rw[←Jl (xs:=_) h]
  ·cases h
theorem BN(l:List Int):vK (l.map fun n=>DV.v (.int .u8 n))=l∧nI (l.map fun n=>DV.v (.int .u8 n))=true:=by
 induction l with
 |nil=>exact⟨rfl,rfl⟩
 |cons a l ih=>exact⟨by simp only[List.map_cons,vK,ih.1],by simp only[List.map_cons,nI,ih.2]⟩
theorem Ci(n:Nat)(a:Int):vK (List.replicate n (DV.v (.int .u8 a)))=List.replicate n a∧nI (List.replicate n (DV.v (.int .u8 a)))=true:=by
 have:=BN (List.replicate n a)
 rwa [List.map_replicate]at this
def jK(a b ke kb:TK)(S:St)(x:DV)(K:DV→Prop):Prop:=match a,b with
 | .sl _ _ _ _,.str=>ke= .int .u8∧Qg x=true∧fY S x fun s xs=>s=1∧nI xs=true∧K (.v (.string (strOfNums (vK xs))))
 | .str,.sl _ 1 1 _=>(match x with
  | .v (.string b)=>b.size<281474976710656∧kb= .int .u8∧K (.sl 1 false (b.data.toList.map fun c=> .v (.int .u8 c.toNat)))
  |_=>False)
 |a,b=>iP a b x K
theorem KO{g:Gh}{S:St}{w:World}{d:DV}{x:Value}{K:List Int→Prop}(h:Rel w0 g S w)(r:aK g d x)(hk:fY S d fun s xs=>s=1∧nI xs=true∧K (vK xs)):
 (∃u,d= .v u)∨∃bs a c,K bs∧x= .slice a bs.length c∧(bs=[]∨∃b o,a=some ⟨b,o,none⟩∧∀i,i<bs.length→w.cell? ⟨b,o+i,none⟩=some (.int .u8 (bs.getD i 0))):=by
 obtain⟨ow,ho⟩:=h.open_
 have fin:∀{xs:List DV} {s:Nat} {us:List Value} {a:Option Addr} {c:Nat},(s=1∧nI xs=true∧K (vK xs))→x= .slice a xs.length c→ai g xs us→
  ((xs=[])∨∃b o,a=some ⟨b,o,none⟩∧c≤maxLen∧∀(i:Nat) (u:Value) (j:Nat) (x:Value),us[i]? =some u→u.cells[j]? =some x→w.cell? ⟨b,o+i*s+j,none⟩=some x)→
  ∃bs a c,K bs∧x= .slice a bs.length c∧(bs=[]∨∃b o,a=some ⟨b,o,none⟩∧∀i,i<bs.length→w.cell? ⟨b,o+i,none⟩=some (.int .u8 (bs.getD i 0))):=by
  rintro xs s us a c ⟨rfl,hok,hK⟩ hx hr hc
  generalize hbs:vK xs=bs at hK
  have hxs:=Jl hok
  rw[hbs]at hxs
  subst hxs
  refine⟨bs,a,c,hK,by simpa using hx,?_⟩
  rcases hc with hc|⟨b,o,ha,_,hc⟩
  ·exact .inl (by simpa using hc)
  ·refine .inr ⟨b,o,ha,fun i hi=>?_⟩
   have hlen:us.length=bs.length:=by have:=hr.len;simpa using this.symm
   have hu:us[i]? =some us[i]:=List.getElem?_eq_getElem (by omega)
   have hb:bs[i]? =some bs[i]:=List.getElem?_eq_getElem hi
   have h1:=ay (hr.at_ i (.v (.int .u8 bs[i])) us[i] (by rw[List.getElem?_map,hb];rfl) hu)
   have:=hc i us[i] 0 us[i] hu (by rw[h1];rfl)
   rw[Nat.mul_one,Nat.add_zero,h1]at this
   rw[this,List.getD_eq_getElem?_getD,hb];rfl
 unfold fY at hk
 split at hk
 ·rename_i s f xs
  obtain⟨us,a,c,q1,q2,q3,q4,q5,q6,q7⟩:=iR (w:=w) r h.bM
  exact .inr (fin hk q1 q2 q7)
 ·rename_i l n
  split at hk
  ·rename_i s xs hl
   obtain⟨rfl,hk⟩:=hk
   obtain⟨o,c,hv,ha⟩:=ie r
   obtain⟨hs,us,a,c',q1,q2,q3,q4,q5,q6,_⟩:=ho.lh hl (.inl rfl) ha
   exact .inr (fin hk (hv.trans q1) q2 q6)
  ·rename_i s xs hl
   obtain⟨rfl,hk⟩:=hk
   obtain⟨o,c,hv,ha⟩:=ie r
   obtain⟨hs,us,a,c',q1,q2,q3,q4,q5,q6,_⟩:=ho.lh hl (.inr rfl) ha
   exact .inr (fin hk (hv.trans q1) q2 q6)
  ·exact hk.elim
 ·exact .inl ⟨_,rfl⟩
 ·exact .inl ⟨_,rfl⟩
 ·exact hk.elim
theorem EL{o:Oper}{s d:TypeId}{x:Operand}(ho:o.op= .convert s d x){ρD:Operand→DV}{S:St}{K:DV→St→Prop}(h:jK (tk P s) (tk P d) (tk P (eG P s)) (tk P (eG P d)) S (ρD x) (K · S)):aj P w0 o ρD S K:=by
 unfold jK at h
 split at h
 ·rename_i e c b i hs hd
  obtain⟨hke,hnv,hk⟩:=h
  intro g w ρ h1 h2 hcst
  have hx:=h2 x (by simp[ho,Op.operands])
  have hsl:P.underlying s=some (.slice e):=by
   unfold tk at hs;split at hs <;>(try split at hs) <;>(try cases hs) <;>assumption
  have hel:eG P s=e:=by unfold eG;rw[hs]
  rw[hel]at hke
  rcases KO (w0:=w0) (K:=fun bs=>K (.v (.string (strOfNums bs))) S) h1 hx hk with⟨u,hu⟩|⟨bs,a,c,hK,hv,hc⟩
  ·rw[hu]at hnv;cases hnv
  ·have hrun:(execOp ρ o).run P w= .ok (.value (.string (strOfNums bs))) w:=by
    have hconv:(convert s d (.slice a bs.length c)).run P w= .ok (.string (strOfNums bs)) w:=by
     rcases hc with rfl|⟨b,o',rfl,hc⟩
     ·rw[run_convert_bytes_string w s d e _ _ c hsl (mT hke) (lI hd)]
      cases a with
      |none=>simp[Conv.bytesToString];rfl
      |some a=>
       rw[List.length_nil,run_bytesToString w a 0 c [] (by have:=run_loadCells_list (P:=P) w a [] (fun j v hj=>by simp at hj);simpa using this)]
       rfl
     ·exact run_convert_bytes_arg w s e hsl (mT hke) b o' bs.length c bs rfl hc d (lI hd)
    simp[execOp,ho,hv,hconv]
   rw[hrun]
   exact⟨g,_,S,.refl g,h1,.v _ rfl,hK⟩
 ·rename_i e i hs hd
  split at h
  ·rename_i b hb
   obtain⟨hsz,hkb,hK⟩:=h
   intro g w ρ h1 h2 hcst
   have hx:=h2 x (by simp[ho,Op.operands])
   rw[hb]at hx
   have hv:=ay hx
   have hel:eG P d=e:=by unfold eG;rw[hd]
   rw[hel]at hkb
   have hrun:(execOp ρ o).run P w= .ok (.value (.slice (some ⟨w.heap.size,0,none⟩) b.size (grownCap w b.size 0 e))) (Lib.bytesWorld w e b):=by
    simp[execOp,ho,hv,Lib.run_convert_string_bytes w s d e b (lI hs) (eC hd).1 (mT hkb)]
   rw[hrun]
   have hbel:j6 w.heap.size w (Lib.bytesWorld w e b):=⟨rfl,rfl,rfl,by rw[Lib.bytesWorld_size];omega,fun k hk=>Lib.bytesWorld_at_old w e b k hk,Nat.le_succ _⟩
   obtain⟨hle,hR⟩:=h1.BK hbel (Nat.le_refl _) (Lib.bytesWorld_at_new w e b)
   have hcap:=grownCap_ge w b.size 0 e
   have hm8:maxLen=9223372036854775807:=rfl
   have hcm:=grownCap_le_maxLen w b.size 0 e (by omega)
   have hl:(b.data.toList.map fun c=>Value.int .u8 c.toNat).length=b.size:=by simp
   refine⟨_,_,S,hle,hR,?_,hK⟩
   have:=aK.sl (g:=g.bh w.heap.size fun i=>(Lib.bytesCells w e b)[i]?) 1 false (b.data.toList.map fun c=>DV.v (.int .u8 c.toNat)) w.heap.size 0 (grownCap w b.size 0 e) (b.data.toList.map fun c=>Value.int .u8 c.toNat)
    (by simp) (fun hf=>by cases hf) (by rw[hl];exact hcap) hcm (fun i d u a1 a2=>by
     simp only[List.getElem?_map,Option.map_eq_some_iff]at a1 a2
     obtain⟨c,hc,rfl⟩:=a1
     obtain⟨c',hc',rfl⟩:=a2
     rw[hc]at hc';cases hc'
     exact .v _ rfl) (fun i u hu=>by
     simp only[List.getElem?_map,Option.map_eq_some_iff]at hu
     obtain⟨c,_,rfl⟩:=hu;rfl) (fun u hu y hy=>by
     obtain⟨c,_,rfl⟩:=List.mem_map.1 hu
     simp[Value.cells]at hy
     subst hy;rfl) (fun i u j y hu hj=>by
     have hu':=hu
     simp only[List.getElem?_map,Option.map_eq_some_iff]at hu
     obtain⟨c,hc,rfl⟩:=hu
     have hj0:j=0:=by have:=(Array.getElem?_eq_some_iff.1 hj).1;simp[Value.cells]at this;exact this
     subst hj0
     simp[Value.cells]at hj
     subst hj
     simp only[Gh.bh,if_true,Nat.mul_one,Nat.zero_add,Nat.add_zero,Lib.bytesCells]
     rw[Array.getElem?_append_left (by have:=(List.getElem?_eq_some_iff.1 hc).1;simpa using this)]
     have:b.data[i]? =some c:=by simpa using hc
     simp[this])
   rw[hl]at this
   exact this
  ·exact h.elim
 ·exact To ho h
theorem HA{a b ke kb:TK}{S:St}{x:DV}{K:DV→Prop}(h:iP a b x K):jK a b ke kb S x K:=by
 unfold jK
 split
 ·unfold iP at h
  split at h
  ·rename_i e _;cases e
  ·rename_i e _;cases e
  ·exact h.elim
 ·unfold iP at h
  split at h
  ·rename_i e;cases e
  ·rename_i e;cases e
  ·exact h.elim
 ·exact h
end
end Aml
namespace Aml
open Go Go.RowKit
section
variable {P:Program} {w0:W0}
theorem Rel.C0{g:Gh}{S:St}{w w':World}(h:Rel w0 g S w)(k:j6 w.heap.size w w'){s:Nat}(hs:0<s){xs:List DV}{us:List Value}{b c e:Nat}{cs:Array Value}(hge:w.heap.size≤b)(hb:w'.heap[b]? =some (.cells cs e (0,0)))
 (hsz:cs.size=c*s) (hn:xs.length≤c) (hm:c≤maxLen) (hr:ai g xs us) (hz:∀(i:Nat) (u:Value),us[i]? =some u→u.cells.size=s) (hone:∀(u:Value),u∈us→∀x,x∈u.cells.toList→x.oneCell'=true)
 (hc:∀(i:Nat) (u:Value) (j:Nat) (x:Value),us[i]? =some u→u.cells[j]? =some x→cs[i*s+j]? =some x) (hall:∀x,x∈cs.toList→x.oneCell'=true):
 ∃l g',g.le g'∧(∀p,p∈S.acc→p.1≠l)∧Rel w0 g' ⟨S.box,(l,.arr s xs)::S.acc⟩ w'∧aK g' (.acc l xs.length) (.slice (some ⟨b,0,none⟩) xs.length c):=by
 obtain⟨ow,h⟩:=h.open_
 have hnow:ow b=none:=by
  cases ho:ow b with
  |none=>rfl
  |some q=>have:=h.oS b q ho;omega
 have h':=h.grow k
 obtain⟨m,hm'⟩:=h'.fresh
 have hnone:∀i,g.bM b i=none:=by
  intro i
  cases hi:g.bM b i with
  |none=>rfl
  |some u=>have:=World.block_lt_of_cell? w _ (h.bM _ _ _ hi);simp at this;omega
 have hne:∀p,p∈S.acc→p.1≠m:=by
  rintro⟨l',o'⟩ hp rfl
  obtain⟨u,hu⟩:=(h'.acc _ _ hp).has
  rw[hm' _ _ (Nat.le_refl _)]at hu;cases hu
 let v:Value:= .slice (some ⟨b,0,none⟩) xs.length c
 have hle:g.le (g.aT m xs.length v):=Gh.iY (.inl (hm' _ _ (Nat.le_refl _)))
 have hself:(g.aT m xs.length v).acc m xs.length=some v:=by simp[Gh.aT]
 refine⟨m,g.aT m xs.length v,hle,hne,ir.close (ow:=fun x=>if x=b then some (.a m)else ow x) ⟨h'.below.le hle,h'.bM,h'.nb,?_,?_,?_,?_,?_,?_,?_⟩,.acc _ _ _ _ hself⟩
 ·simp only[List.map_cons,List.nodup_cons]
  refine⟨fun hx=>?_,h'.na⟩
  obtain⟨p,hp,e⟩:=List.mem_map.1 hx
  exact hne p hp e
 ·intro l' n u hu
  simp only[Gh.aT]at hu
  split at hu
  ·rename_i e;obtain⟨rfl,rfl⟩:=e;exact⟨_,_,(Option.some.inj hu).symm,.inr ⟨b,0,rfl⟩⟩
  ·exact h'.gq _ _ _ hu
 ·refine⟨m+1,fun l n hl=>?_⟩
  simp only[Gh.aT]
  rw[if_neg (by omega)]
  exact hm' _ _ (by omega)
 ·intro l o hl k hk
  simp only[Gh.aT]
  rcases List.mem_cons.1 hl with e|hl
  ·simp only[Prod.mk.injEq]at e
   obtain⟨rfl,rfl⟩:=e
   simp only[Ob.len]at hk
   rw[if_neg (by omega)]
   exact hm' _ _ (Nat.le_refl _)
  ·rw[if_neg (fun e=>hne _ hl e.1)]
   exact h'.top _ _ hl k hk
 ·intro b' ds hb'
  refine(h'.box b' ds hb').step hle fun ho=>⟨?_,rfl,fun _ hi=>hi⟩
  split
  ·rename_i e;subst e;exact absurd (hnow.symm.trans ho) (by simp)
  ·exact ho
 ·intro l o hl
  rcases List.mem_cons.1 hl with e'|hl
  ·simp only[Prod.mk.injEq]at e'
   obtain⟨rfl,rfl⟩:=e'
   exact⟨hs,.inr ⟨b,c,cs,e,hself,if_pos rfl,Nat.le_trans h.below.size hge,hnone,hb,hsz,hn,hm,hall,us,hr.mono hle,hz,hone,hc⟩⟩
  ·refine(h'.acc l o hl).step hle fun b' ho=>⟨?_,rfl,fun _ hi=>hi⟩
   split
   ·rename_i e;subst e;exact absurd (hnow.symm.trans ho) (by simp)
   ·exact ho
 ·intro b' q hq
  split at hq
  ·rename_i e;subst e;exact da hb
  ·exact h'.oS _ _ hq
theorem Rel.I7{g:Gh}{S:St}{w w':World}(h:Rel w0 g S w){l s:Nat}{xs ys:List DV}{us:List Value}{b c e:Nat}{cs:Array Value}(hl:lk S.acc l=some (.arr s xs))(hv:g.acc l xs.length=some (.slice (some ⟨b,0,none⟩) xs.length c))(hlen:ys.length=xs.length)(hpos:0<c)
 (hb:w'.heap[b]? =some (.cells cs e (0,0))) (hsz:cs.size=c*s) (hbel:fI w0 g w') (hsize:w.heap.size≤w'.heap.size) (hsame:∀k,k<w.heap.size→k≠b→w'.heap[k]? =w.heap[k]?)
 (hr:ai g ys us) (hz:∀(i:Nat) (u:Value),us[i]? =some u→u.cells.size=s) (hone:∀(u:Value),u∈us→∀x,x∈u.cells.toList→x.oneCell'=true)
 (hc:∀(i:Nat) (u:Value) (j:Nat) (x:Value),us[i]? =some u→u.cells[j]? =some x→cs[i*s+j]? =some x) (hall:∀x,x∈cs.toList→x.oneCell'=true):Rel w0 g ⟨S.box,up S.acc l (.arr s ys)⟩ w':=by
 obtain⟨ow,h⟩:=h.open_
 have hmem:=cn hl
 obtain⟨hs,⟨he,o,ha⟩|⟨b',c',cs',e',h1,h2,h3,h4,h5,h6,h7,h8,hA,us',h9,h10,h11,h12⟩⟩:=h.acc l _ hmem
 ·exfalso
  subst he
  rw[show([]:List DV).length=0 from rfl,ha]at hv
  simp only[Option.some.injEq,Value.slice.injEq]at hv
  omega
 ·rw[hv]at h1
  simp only[Option.some.injEq,Value.slice.injEq,Addr.mk.injEq,true_and,and_true]at h1
  obtain⟨rfl,rfl⟩:=h1
  have hbne:∀b' q,ow b'=some q→q≠ .a l→b'≠b:=by
   rintro b' q hq hne rfl
   rw[h2]at hq;exact hne (Option.some.inj hq).symm
  refine ir.close (ow:=ow) ⟨hbel,?_,h.nb,?_,h.gq,h.fresh,?_,?_,?_,?_⟩
  ·intro b' i u hu
   have hne:b'≠b:=by rintro rfl;rw[h4]at hu;cases hu
   have h1:=h.bM _ _ _ hu
   have hblt:=World.block_lt_of_cell? w _ h1
   have:=World.cell?_of_block (w:=w) (w':=w') (a:=⟨b',i,none⟩) (hsame b' hblt hne)
   rw[this];exact h1
  ·rw[od];exact h.na
  ·intro l' o' hl' k hk
   rcases iN h.na hl' with e|⟨hm',hne⟩
   ·simp only[Prod.mk.injEq]at e
    obtain⟨rfl,rfl⟩:=e
    refine h.top _ _ hmem k ?_
    simp only[Ob.len]at hk ⊢
    omega
   ·exact h.top _ _ hm' k hk
  ·intro b' ds hb'
   have hob':=(h.box _ _ hb').1
   have hne:=hbne b' _ hob' (by simp)
   exact(h.box b' ds hb').step (.refl g) fun x=>⟨x,hsame b' (h.oS _ _ x) hne,fun i hi=>hi⟩
  ·intro l' o' hl'
   rcases iN h.na hl' with e'|⟨hm',hne⟩
   ·simp only[Prod.mk.injEq]at e'
    obtain⟨rfl,rfl⟩:=e'
    exact⟨hs,.inr ⟨b,c,cs,e,by rw[hlen];exact hv,h2,h3,h4,hb,hsz,by omega,h8,hall,us,hr,hz,hone,hc⟩⟩
   ·refine(h.acc l' o' hm').step (.refl g) fun b' ho=>?_
    have hne':=hbne b' _ ho (by simp;exact hne)
    exact⟨ho,hsame b' (h.oS _ _ ho) hne',fun i hi=>hi⟩
  ·intro b' q hq
   exact Nat.lt_of_lt_of_le (h.oS _ _ hq) hsize
def rB:List (Nat×Ob)→Nat→Nat×Ob→List (Nat×Ob)
 |[],_,_=>[]
 |(k,x)::t,n,p=>if k=n then p::t else(k,x)::rB t n p
theorem xc{l:List (Nat×Ob)}{n:Nat}{p:Nat×Ob}(hn:(l.map (·.1)).Nodup){q:Nat×Ob}(h:q∈rB l n p):q=p∨(q∈l∧q.1≠n):=by
 induction l with
 |nil=>cases h
 |cons r t ih=>
  obtain⟨k,x⟩:=r
  simp only[List.map_cons,List.nodup_cons]at hn
  simp only[rB]at h
  split at h
  ·rename_i e
   subst e
   rcases List.mem_cons.1 h with rfl|h
   ·exact .inl rfl
   ·refine .inr ⟨List.mem_cons_of_mem _ h,fun e=>hn.1 ?_⟩
    rw[←e];exact List.mem_map_of_mem h
  ·rename_i e
   rcases List.mem_cons.1 h with rfl|h
   ·exact .inr ⟨List.mem_cons_self,e⟩
   ·rcases ih hn.2 h with h|h
    ·exact .inl h
    ·exact .inr ⟨List.mem_cons_of_mem _ h.1,h.2⟩
theorem H4{l:List (Nat×Ob)}{n:Nat}{p:Nat×Ob}(hn:(l.map (·.1)).Nodup)(hp:∀q,q∈l→q.1≠p.1):((rB l n p).map (·.1)).Nodup:=by
 induction l with
 |nil=>exact hn
 |cons r t ih=>
  obtain⟨k,x⟩:=r
  simp only[List.map_cons,List.nodup_cons]at hn
  simp only[rB]
  split
  ·simp only[List.map_cons,List.nodup_cons]
   refine⟨fun h=>?_,hn.2⟩
   obtain⟨q,hq,e⟩:=List.mem_map.1 h
   exact hp q (List.mem_cons_of_mem _ hq) e
  ·simp only[List.map_cons,List.nodup_cons]
   refine⟨fun h=>?_,ih hn.2 fun q hq=>hp q (List.mem_cons_of_mem _ hq)⟩
   obtain⟨q,hq,e⟩:=List.mem_map.1 h
   rcases xc hn.2 hq with rfl|⟨h1,_⟩
   ·exact hp (k,x) List.mem_cons_self e.symm
   ·refine hn.1 ?_
    rw[←e];exact List.mem_map_of_mem h1
theorem Rel.cut{g:Gh}{S:St}{w:World}(h:Rel w0 g S w){l s:Nat}{xs:List DV}(hl:lk S.acc l=some (.arr s xs)){n:Nat}(hn:n≤xs.length){a:Option Addr}{c:Nat}(hv:g.acc l xs.length=some (.slice a xs.length c)):
 ∃l' g',g.le g'∧(∀p,p∈S.acc→p.1≠l')∧Rel w0 g' ⟨S.box,rB S.acc l (l',.arr s (xs.take n))⟩ w∧aK g' (.acc l' n) (.slice a n c):=by
 obtain⟨ow,h⟩:=h.open_
 have hmem:=cn hl
 obtain⟨m,hm'⟩:=h.fresh
 have hne:∀p,p∈S.acc→p.1≠m:=by
  rintro⟨l',o'⟩ hp rfl
  obtain⟨u,hu⟩:=(h.acc _ _ hp).has
  rw[hm' _ _ (Nat.le_refl _)]at hu;cases hu
 have htl:(xs.take n).length=n:=by simp;omega
 have hle:g.le (g.aT m n (.slice a n c)):=Gh.iY (.inl (hm' _ _ (Nat.le_refl _)))
 have hself:(g.aT m n (.slice a n c)).acc m n=some (.slice a n c):=by simp[Gh.aT]
 have hlm:l≠m:=hne _ hmem
 refine⟨m,g.aT m n (.slice a n c),hle,hne,ir.close (ow:=fun x=>if ow x=some (.a l)then some (.a m)else ow x) ⟨h.below.le hle,h.bM,h.nb,H4 h.na hne,?_,?_,?_,?_,?_,?_⟩,.acc _ _ _ _ hself⟩
 ·intro l' n' u hu
  simp only[Gh.aT]at hu
  split at hu
  ·rename_i e
   obtain⟨rfl,rfl⟩:=e
   obtain⟨o',c',q1,q2⟩:=h.gq _ _ _ hv
   simp only[Value.slice.injEq,true_and]at q1
   refine⟨_,_,(Option.some.inj hu).symm,?_⟩
   rcases q2 with q2|q2
   ·exact .inl (by omega)
   ·exact .inr (by rw[q1.1];exact q2)
  ·exact h.gq _ _ _ hu
 ·refine⟨m+1,fun l' n' hl'=>?_⟩
  simp only[Gh.aT]
  rw[if_neg (by omega)]
  exact hm' _ _ (by omega)
 ·intro l' o' hl' k hk
  simp only[Gh.aT]
  rcases xc h.na hl' with e|⟨hm2,hne2⟩
  ·simp only[Prod.mk.injEq]at e
   obtain⟨rfl,rfl⟩:=e
   simp only[Ob.len,htl]at hk
   rw[if_neg (by omega)]
   exact hm' _ _ (Nat.le_refl _)
  ·rw[if_neg (fun e=>hne _ hm2 e.1)]
   exact h.top _ _ hm2 k hk
 ·intro b' ds hb'
  refine(h.box b' ds hb').step hle fun ho=>⟨?_,rfl,fun _ hi=>hi⟩
  rw[if_neg (by rw[ho];simp)]
  exact ho
 ·intro l' o' hl'
  rcases xc h.na hl' with e|⟨hm2,hne2⟩
  ·simp only[Prod.mk.injEq]at e
   obtain⟨rfl,rfl⟩:=e
   obtain⟨hs,⟨he,o,ha⟩|⟨b',c',cs',e',h1,h2,h3,h4,h5,h6,h7,h8,hA,us',h9,h10,h11,h12⟩⟩:=h.acc l _ hmem
   ·subst he
    have hn0:n=0:=by simpa using hn
    subst hn0
    rw[show([]:List DV).length=0 from rfl,ha]at hv
    simp only[Option.some.injEq,Value.slice.injEq,true_and]at hv
    obtain⟨rfl,rfl⟩:=hv
    exact⟨hs,.inl ⟨rfl,_,hself⟩⟩
   ·rw[hv]at h1
    simp only[Option.some.injEq,Value.slice.injEq,true_and]at h1
    obtain⟨rfl,rfl⟩:=h1
    refine⟨hs,.inr ⟨b',_,cs',e',by rw[htl];exact hself,if_pos h2,h3,h4,h5,h6,by omega,h8,hA,us'.take n,(h9.mono hle).take n,fun i u hi=>?_,fun u hu=>h11 u (List.mem_of_mem_take hu),fun i u j x hi hj=>?_⟩⟩
    ·rw[List.getElem?_take]at hi
     split at hi
     ·exact h10 i u hi
     ·cases hi
    ·rw[List.getElem?_take]at hi
     split at hi
     ·exact h12 i u j x hi hj
     ·cases hi
  ·refine(h.acc l' o' hm2).step hle fun b' ho=>⟨?_,rfl,fun _ hi=>hi⟩
   rw[if_neg (by rw[ho];simp;exact hne2)]
   exact ho
 ·intro b' q hq
  split at hq
  ·rename_i e;exact h.oS _ _ e
  ·exact h.oS _ _ hq
end
end Aml
namespace Aml
open Go Go.RowKit
theorem aX{n:Int}(h0: -9223372036854775808≤n)(h1:n≤9223372036854775807):IntKind.i64.wrap n=n:=by
 show(if(true&&decide (n%18446744073709551616≥9223372036854775808))=true then n%18446744073709551616-18446744073709551616 else n%18446744073709551616)=n
 by_cases h:n%18446744073709551616≥9223372036854775808
 ·rw[if_pos (by simpa using h)];omega
 ·rw[if_neg (by simpa using h)];omega
section
variable {P:Program} {w0:W0}
def fL(k:TK)(z x y:DV)(S:St)(K:DV→St→Prop):Prop:=match k,x,y with
 | .sl _ s by' true,.v (.int _ n),.v (.int _ m)=>eL z=true∧0≤n∧n≤m∧m*by'≤140737488355328∧m≤9223372036854775807∧∀l,jD S.acc l→K (.acc l n.toNat) ⟨S.box,(l,.arr s (List.replicate n.toNat z))::S.acc⟩
 |_,_,_=>False
theorem rD{o:Oper}{t:TypeId}{x y:Operand}(ho:o.op= .makeSlice t x y){ρD:Operand→DV}{S:St}{K:DV→St→Prop}(h:fL (tk P t) (zD P (eG P t)) (ρD x) (ρD y) S K):aj P w0 o ρD S K:=by
 intro g w ρ h1 h2 hcst
 have hx:=h2 x (by simp[ho,Op.operands])
 have hy:=h2 y (by simp[ho,Op.operands])
 unfold fL at h
 split at h
 ·rename_i e s by' k1 n k2 m hk hx' hy'
  rw[hx']at hx
  rw[hy']at hy
  obtain⟨hok,h0,hnm,hby,hm63,hK⟩:=h
  obtain⟨hu,hs,hbs,hei⟩:=eC hk
  obtain⟨ti,z,hi,hz,hzs,hpos⟩:=cB hei
  have hsz:ti.size=s:=by simpa[Program.cellsOf,hi]using hs
  have hib:ti.bytes=by':=by simpa[Program.bytesOf,hi]using hbs
  have hel:eG P t=e:=by simp[eG,hk]
  have hzD:zD P (eG P t)=cv z:=by rw[hel];simp[zD,hi,hz]
  have hrz:aK g (zD P (eG P t)) z:=hzD▸jz g z
  obtain⟨N,rfl⟩:=Int.eq_ofNat_of_zero_le h0
  obtain⟨M,rfl⟩:=Int.eq_ofNat_of_zero_le (Int.le_trans h0 hnm)
  have hNM:N≤M:=Int.ofNat_le.1 hnm
  have hM:M*by'≤140737488355328:=by rw[←Int.natCast_mul]at hby;omega
  have hM63:M≤maxLen:=by unfold maxLen;omega
  have w1:IntKind.i64.wrap (N:Int)=N:=aX (by omega) (by omega)
  have w2:IntKind.i64.wrap (M:Int)=M:=aX (by omega) (by omega)
  have hpw:=xO (z:=z) (s:=s) (n:=M) (by omega) (by omega)
  have hrun:(Instr.makeSlice t (ρ x) (ρ y)).run P w= .ok (.slice (some ⟨w.heap.size,0,none⟩) N M) (w.alloc (.cells ((Array.range (M*s)).map (z.cells[·%z.cells.size]!)) e)):=by
   have hby2:¬(281474976710656<(by':Int)*(M:Int)):=by
    have:(M:Int)*by'≤140737488355328:=hby
    rw[Int.mul_comm];omega
   have c1:¬((M:Int)<0):=by omega
   have c2:¬((N:Int)<0):=by omega
   have c3:¬((M:Int)<(N:Int)):=by omega
   have hroom:¬(roomBytes<M*by'):=by unfold roomBytes;omega
   simp only[ay hx,ay hy,Instr.makeSlice,asInt,asIntOf,run_underlying hu,typeInfo,hi,Sem.run_bind,Sem.run_pure,Result.andThen_ok,run_program,w1,w2,hib]
   by_cases hz0:M*s=0
   ·have hr0:∀f:Nat→Value,(Array.range 0).map f= #[]:=fun f=>by simp
    simp[c1,c2,c3,hby2,askRoom,hroom,Go.sizeOf,typeInfo,hi,hsz,hz0,newRow]
    rw[hr0,hr0]
   ·simp[c1,c2,c3,hby2,askRoom,hroom,Go.sizeOf,typeInfo,hi,hsz,hz0,newRow,zeroValue,hz]
  have hlenN:(List.replicate N (zD P (eG P t))).length=N:=by simp
  obtain⟨l,g',hle,hne,hR,hA⟩:=h1.C0 (s:=s) (xs:=List.replicate N (zD P (eG P t))) (us:=List.replicate N z) (c:=M) (dz w (.cells ((Array.range (M*s)).map (z.cells[·%z.cells.size]!)) e)) (by omega) (Nat.le_refl _) (heap_alloc_new w _) (by simp) (by rw[hlenN];exact hNM) hM63
   ⟨by simp,fun i d u a b=>by
    rw[List.getElem?_replicate]at a b
    split at a
    ·rename_i hlt;rw[if_pos hlt]at b;simp only[Option.some.injEq]at a b;subst a;subst b;exact hrz
    ·cases a⟩ (fun i u h=>by rw[List.getElem?_replicate]at h;split at h <;>simp_all) (fun u hu x hx=>by rw[List.eq_of_mem_replicate hu]at hx;exact hrz.one hok x hx)
   (fun i u j x a b=>by
    have hlt:i<N:=by rw[List.getElem?_replicate]at a;split at a <;>first|assumption|cases a
    have:=hpw.at_ i u j x (by rw[List.getElem?_replicate]at a ⊢;rw[if_pos hlt]at a;rw[if_pos (by omega)];exact a) b
    rwa [Array.getElem?_toList]at this)
   (fun x hx=>cU (fi hei hi hz) M x (by unfold Builtin.zeroCells;rw[show z.cells.size=s by omega];rwa [show z.cells.size=s by omega]at hx))
  rw[hlenN]at hA
  have hex:(execOp ρ o).run P w= .ok (.value (.slice (some ⟨w.heap.size,0,none⟩) N M)) (w.alloc (.cells ((Array.range (M*s)).map (z.cells[·%z.cells.size]!)) e)):=by
   simp only[execOp,ho,Sem.run_bind]
   rw[hrun];rfl
  rw[hex]
  exact⟨g',_,_,hle,hR,hA,hK l (dn hne)⟩
 ·exact h.elim
def rX(k:TK)(x:DV)(K:DV→Prop):Prop:=match k,x with
 | .sl _ _ _ _,.sl _ true xs=>K (.v (.int .i64 xs.length))
 | .sl _ _ _ _,.v (.slice _ _ c)=>K (.v (.int .i64 c))
 |_,_=>False
theorem V4{o:Oper}{t:TypeId}{x:Operand}(ho:o.op= .call {callee:= .builtin .cap,args:= #[x],argTypes:= #[t]}){ρD:Operand→DV}{S:St}{K:DV→St→Prop}(h:rX (tk P t) (ρD x) (K · S)):aj P w0 o ρD S K:=by
 refine bI fun g w ρ h1 h2=>?_
 have hx:=h2 x (by simp[ho,Op.operands,Call.operands])
 unfold rX at h
 split at h
 ·rename_i hk hx'
  rw[hx']at hx
  rename_i xs
  obtain⟨a,hv⟩:∃a,ρ x= .slice a xs.length xs.length:=by
   rcases iJ hx with⟨he,o',c,hv,hf⟩|⟨b,o',c',us,hv',hl,hfl,_⟩
   ·subst he;rw[hv,hf rfl];exact⟨_,rfl⟩
   ·rw[hv',hfl rfl];exact⟨_,rfl⟩
  exact⟨_,_,by simp[execOp,ho,resolve,invoke,builtin,hv,Builtin.cap_,run_underlying (eC hk).1,goInt],.v _ rfl,h⟩
 ·rename_i hk hx'
  rw[hx']at hx
  exact⟨_,_,by simp[execOp,ho,resolve,invoke,builtin,ay hx,Builtin.cap_,run_underlying (eC hk).1,goInt],.v _ rfl,h⟩
 ·exact h.elim
def ru(d:DV)(o n s:Nat)(y:DV):Option DV:=if o=0∧n=s then some y else match d with
 | .agg ds=>some (.agg (gu ds o (cd y)))
 |_=>none
def fE(n:Nat)(S:St)(x y:DV)(K:St→Prop):Prop:=match x with
 | .ap l m s i o=>eL y=true∧(cd y).length=n∧(match lk S.acc l with
  |some (.arr s' xs)=>s'=s∧xs.length=m∧o+n≤s∧∃d,xs[i]? =some d∧eL d=true∧∃d',ru d o n s y=some d'∧K ⟨S.box,up S.acc l (.arr s (xs.set i d'))⟩
  |_=>False)
 |x=>oE n S x y K
theorem JX{g:Gh}{d y:DV}{o n s:Nat}{d':DV}{u v:Value}(hd:aK g d u)(hok:eL d=true)(hus:u.cells.size=s)(hy:aK g y v)(hoy:eL y=true)(hvn:v.cells.size=n)(hon:o+n≤s)(h:ru d o n s y=some d'):
 ∃u',aK g d' u'∧u'.cells.size=s∧(∀x,x∈u'.cells.toList→x.oneCell'=true)∧∀j,u'.cells[j]? =if o≤j∧j<o+n then v.cells[j-o]? else u.cells[j]? :=by
 unfold ru at h
 split at h
 ·rename_i hc
  obtain⟨rfl,rfl⟩:=hc
  cases h
  refine⟨v,hy,hvn,hy.one hoy,fun j=>?_⟩
  split
  ·simp
  ·rename_i hj
   rw[Array.getElem?_eq_none (by omega),Array.getElem?_eq_none (by omega)]
 ·split at h
  ·rename_i ds
   cases h
   cases hd with
   |agg _ us hl hr h1=>
    have hu':(Value.agg us.toArray).cells=us.toArray:=rfl
    have hcl:=hy.cells hoy
    have hlu:us.length=s:=by simpa[hu']using hus
    have hR:=j7 (o:=o) (g:=g) (ds:=ds) (us:=us) ⟨hl,hr⟩ hcl
    have hle:o+v.cells.toList.length≤us.length:=by simp;omega
    refine⟨.agg (aO us o v.cells.toList).toArray,.agg _ _ hR.len hR.at_ (fun x hx=>?_),?_,fun x hx=>?_,fun j=>?_⟩
    ·rcases jY _ _ _ _ hx with hx|hx
     ·exact h1 x hx
     ·exact hy.one hoy x hx
    ·show(aO us o v.cells.toList).toArray.size=s
     simp only[List.size_toArray]
     rw[cG _ _ _ hle]
     simp only[List.length_append,List.length_take,List.length_drop,Array.length_toList]
     simp only[Array.length_toList]at hle
     omega
    ·have hx:x∈aO us o v.cells.toList:=by simpa[Value.cells]using hx
     rcases jY _ _ _ _ hx with hx|hx
     ·exact h1 x hx
     ·exact hy.one hoy x hx
    ·show(aO us o v.cells.toList).toArray[j]? =_
     rw[List.getElem?_toArray,fX hle]
     simp[hu',hvn]
  ·cases h
theorem KW{o:Oper}{t:TypeId}{x y:Operand}(ho:o.op= .store t x y){ρD:Operand→DV}{S:St}{K:DV→St→Prop}(hi:(P.info? t).isSome=true)(h:fE (P.cellsOf t) S (ρD x) (ρD y) (K ud)):aj P w0 o ρD S K:=by
 unfold fE at h
 split at h
 ·rename_i l m s i o' hxe
  intro g w ρ h1 h2 hcst
  have hx:=h2 x (by simp[ho,Op.operands])
  have hy:=h2 y (by simp[ho,Op.operands])
  rw[hxe]at hx
  obtain⟨hok,hlen,h⟩:=h
  split at h
  ·rename_i s' xs hl
   obtain⟨rfl,rfl,hon,d,hd,hod,d',hes,hK⟩:=h
   have hilt:i<xs.length:=(List.getElem?_eq_some_iff.1 hd).1
   obtain⟨b,q,c0,hval,hrx⟩:∃b q c0,g.acc l xs.length=some (.slice (some ⟨b,q,none⟩) xs.length c0)∧ρ x= .pointer (some ⟨b,q+i*s'+o',none⟩):=by
    generalize hu:ρ x=u at hx
    cases hx with
    |ap _ _ _ _ _ b q c h=>exact⟨b,q,c,h,rfl⟩
   obtain⟨ow,hO⟩:=h1.open_
   obtain⟨hs,⟨he,o2,ha⟩|⟨b',c,cs,e,q1,q2,q3,q4,q5,q6,q7,q8,qA,us,q9,q10,q11,q12⟩⟩:=hO.acc l _ (cn hl)
   ·rw[he]at hilt;simp at hilt
   ·have hval':=hval
    rw[q1]at hval'
    simp only[Option.some.injEq,Value.slice.injEq,Addr.mk.injEq,true_and,and_true]at hval'
    obtain⟨⟨rfl,rfl⟩,rfl⟩:=hval'
    simp only[Nat.zero_add]at hrx
    have hul:us.length=xs.length:=q9.len.symm
    have hiu:i<us.length:=by omega
    have hui:us[i]? =some us[i]:=List.getElem?_eq_getElem hiu
    have hru:=q9.at_ i d _ hd hui
    have husz:=q10 i _ hui
    have hcl:=hy.cells hok
    have hvl:(ρ y).cells.size=P.cellsOf t:=by have:=hcl.len;simp at this;omega
    obtain⟨u',r1,r2,r3,r4⟩:=JX hru hod husz hy hok hvl hon hes
    have hbound:i*s'+s'≤cs.size:=by
     rw[q6]
     have:=Nat.mul_le_mul_right s' (show i+1≤c by omega)
     rw[Nat.succ_mul]at this;exact this
    have hsize:(Go.sizeOf t).run P w= .ok (P.cellsOf t) w:=by
     obtain⟨ti,hi⟩:=Option.isSome_iff_exists.1 hi
     simp[Go.sizeOf,typeInfo,hi,Program.cellsOf]
    have hst:=run_storeCells_at (P:=P) b' (i*s'+o') e (ρ y).cells.toList 0 cs w q5 (by simp;omega) (hy.one hok)
    have hle2:(i*s'+o')+(ρ y).cells.toList.length≤cs.toList.length:=by simp;omega
    have hrun:(execOp ρ o).run P w= .ok .skip (w.setRow b' (aO cs.toList (i*s'+o') (ρ y).cells.toList).toArray):=by
     rw[cG _ _ _ hle2]
     simp only[Nat.add_zero]at hst
     simp[execOp,ho,hrx,Instr.storeAt,Instr.sureAddr,storeVar,hsize,hvl,hst]
    rw[hrun]
    have hxs:(xs.set i d').length=xs.length:=by simp
    refine⟨g,_,.refl g,h1.I7 (ys:=xs.set i d') (us:=us.set i u') (b:=b') (c:=c) (e:=e) (cs:=(aO cs.toList (i*s'+o') (ρ y).cells.toList).toArray) hl hval hxs (by omega) ?_ ?_ ?_ ?_ ?_ (q9.set i r1) ?_ ?_ ?_ ?_,hK⟩
    ·exact setRow_heap w b' cs _ e (0,0) q5
    ·rw[List.size_toArray,cG _ _ _ hle2]
     simp only[List.length_append,List.length_take,List.length_drop,Array.length_toList]
     simp only[Array.length_toList]at hle2
     rw[←q6];omega
    ·exact h1.below.step ⟨rfl,rfl,rfl,by simp,fun k hk=>setRow_other w b' k _ (by omega),Nat.le_refl _⟩ b' (mq q5) fun k _ hne=>setRow_other w b' k _ hne
    ·simp
    ·intro k _ hkb;exact setRow_other w b' k _ hkb
    ·intro j u hj
     rw[List.getElem?_set]at hj
     split at hj
     ·cases hj;exact r2
     ·exact q10 j u hj
    ·intro u hu
     rcases List.mem_or_eq_of_mem_set hu with hu|rfl
     ·exact q11 u hu
     ·exact r3
    ·intro i2 u j x hi2 hj
     rw[List.getElem?_toArray,fX hle2]
     rw[List.getElem?_set]at hi2
     split at hi2
     ·rename_i e2
      subst e2
      cases hi2
      rw[r4]at hj
      simp only[Array.length_toList,hvl]
      split at hj
      ·rename_i hc
       rw[if_pos (by omega)]
       rw[show i*s'+j-(i*s'+o')=j-o' by omega]
       simpa using hj
      ·rename_i hc
       rw[if_neg (by omega)]
       simpa using q12 i _ j x hui hj
     ·rename_i hne
      have hjs:j<s':=by rw[←q10 i2 u hi2];exact(Array.getElem?_eq_some_iff.1 hj).1
      rw[if_neg]
      ·simpa using q12 i2 u j x hi2 hj
      ·simp only[Array.length_toList,hvl]
       rintro⟨ha,hb⟩
       rcases Nat.lt_or_gt_of_ne hne with h'|h'
       ·have:=Nat.mul_le_mul_right s' (show i+1≤i2 by omega)
        rw[Nat.succ_mul]at this
        omega
       ·have:=Nat.mul_le_mul_right s' (show i2+1≤i by omega)
        rw[Nat.succ_mul]at this
        omega
    ·intro x hx
     rw[List.toList_toArray,cG _ _ _ hle2]at hx
     rcases List.mem_append.1 hx with hx|hx
     ·rcases List.mem_append.1 hx with hx|hx
      ·exact qA x (List.mem_of_mem_take hx)
      ·exact hy.one hok x hx
     ·exact qA x (List.mem_of_mem_drop hx)
  ·exact h.elim
 ·exact Pt ho hi h
end
end Aml
namespace Aml
open Go Go.RowKit
section
variable {P:Program} {w0:W0}
theorem NX{w:World}{t t' ty e:TypeId}{k':IntKind}{i:TypeInfo}{z:Value}(ht:P.underlying t=some (.slice e))(ht':P.underlying t'=some (.int k'))(hi:P.info? e=some i)(hz:i.zero=some z)(hpos:0<i.size)
 {o:Option Addr} {k:IntKind} {n:Nat} (h0:0<n) (h63:n≤maxLen) (hby:n*i.bytes≤140737488355328):
 (Builtin.append_ #[t,t'] ty #[.slice o 0 0,.int k n]).run P w= .ok (.slice (some ⟨w.heap.size,0,none⟩) n (grownCap w n 0 e))
  (w.drew.alloc (.cells (Builtin.zeroCells z.cells n++Builtin.zeroCells z.cells (grownCap w n 0 e-n)) e)):=by
 have hw:IntKind.i64.wrap (n:Int)=n:=aX (by omega) (by unfold maxLen at h63;omega)
 have c1:¬((n:Int)<0):=by omega
 have hbi:(n:Int)*i.bytes≤140737488355328:=by rw[←Int.natCast_mul];omega
 have c2:¬(281474976710656<(n:Int)*(i.bytes:Int)):=by omega
 have c3:¬(n*i.size=0):=by
  intro h
  rcases Nat.mul_eq_zero.1 h with h|h <;>omega
 have c4:¬(9223372036854775807<(n:Int)):=by unfold maxLen at h63;omega
 have hfit:=growslice_fits (need:=n) (old:=0) (bytes:=i.bytes) h0 hby
 have c5:¬(281474976710656<Builtin.nextslicecap n 0*i.bytes):=by omega
 have c6:¬(n=0):=by omega
 have c7:¬(i.size=0):=by omega
 have hfc:∀w':World,(Builtin.firstCells i.size 0 (.slice o 0 0)).run P w'= .ok #[] w':=by
  intro w'
  cases o with
  |none=>simp[Builtin.firstCells]
  |some a=>simp[Builtin.firstCells,loadCells,loadCellsFrom]
 simp[Builtin.append_,run_underlying ht,run_underlying ht',Go.sizeOf,typeInfo,hi,zeroValue,hz,asInt,asIntOf,hw,c1,c2,c3,c4,c5,c6,c7,hfc,Question.forced,newRow,grownCap]
def lR(k:TK)(z:DV)(S:St)(x y:DV)(K:DV→St→Prop):Prop:=match k,x,y with
 | .sl _ s by' true,.sl _ true [],.v (.int _ n)=>eL z=true∧0<n∧n*by'≤140737488355328∧n≤9223372036854775807∧∀l,jD S.acc l→K (.acc l n.toNat) ⟨S.box,(l,.arr s (List.replicate n.toNat z))::S.acc⟩
 |_,_,_=>False
theorem K8{z:Value}{m k:Nat}(hk:k<m*z.cells.size):(Builtin.zeroCells z.cells m)[k]? =some (z.cells[k%z.cells.size]!):=by
 simp[Builtin.zeroCells,hk]
theorem KT{o:Oper}{t t':TypeId}{x y:Operand}{k':IntKind}(ho:o.op= .call {callee:= .builtin .append,args:= #[x,y],argTypes:= #[t,t']})(hk':tk P t'= .int k'){ρD:Operand→DV}{S:St}{K:DV→St→Prop}
 (h:lR (tk P t) (zD P (eG P t)) S (ρD x) (ρD y) K):aj P w0 o ρD S K:=by
 intro g w ρ h1 h2 hcst
 have hx:=h2 x (by simp[ho,Op.operands,Call.operands])
 have hy:=h2 y (by simp[ho,Op.operands,Call.operands])
 have hut':=mT hk'
 unfold lR at h
 split at h
 ·rename_i e s by' s0 k n hk hxe hye
  rw[hxe]at hx
  rw[hye]at hy
  obtain⟨hok,h0,hby,h63,hK⟩:=h
  obtain⟨hu,hs,hbs,hei⟩:=eC hk
  obtain⟨ti,z,hi,hz,hzs,hpos⟩:=cB hei
  have hsz:ti.size=s:=by simpa[Program.cellsOf,hi]using hs
  have hib:ti.bytes=by':=by simpa[Program.bytesOf,hi]using hbs
  have hel:eG P t=e:=by simp[eG,hk]
  have hzD:zD P (eG P t)=cv z:=by rw[hel];simp[zD,hi,hz]
  have hrz:aK g (zD P (eG P t)) z:=hzD▸jz g z
  obtain⟨N,rfl⟩:=Int.eq_ofNat_of_zero_le (Int.le_of_lt h0)
  have h0':0<N:=by omega
  have hbn:N*by'≤140737488355328:=by rw[←Int.natCast_mul]at hby;omega
  have hN63:N≤maxLen:=by unfold maxLen;omega
  obtain⟨o',hxv⟩:=eD hx
  have hr:=NX (w:=w) (ty:=o.type) (o:=o') (k:=k) hu hut' hi hz hpos h0' hN63 (by rw[hib];exact hbn)
  have hcap:=grownCap_ge w N 0 e
  have hcm:=grownCap_le_maxLen w N 0 e hN63
  generalize hC:grownCap w N 0 e=C at*
  have hlenN:(List.replicate N (zD P (eG P t))).length=N:=by simp
  have hzc:z.cells.size=s:=by omega
  have hsize:(Builtin.zeroCells z.cells N++Builtin.zeroCells z.cells (C-N)).size=C*s:=by
   rw[Array.size_append,size_zeroCells,size_zeroCells,hzc,←Nat.add_mul]
   congr 1;omega
  obtain⟨l,g',hle,hne,hR,hA⟩:=h1.C0 (w':=w.drew.alloc (.cells (Builtin.zeroCells z.cells N++Builtin.zeroCells z.cells (C-N)) e)) (s:=s) (xs:=List.replicate N (zD P (eG P t))) (us:=List.replicate N z) (b:=w.heap.size) (c:=C) (e:=e)
   ((j6.refl _ _).drew.alloc (by simp) _) (by omega) (Nat.le_refl _) (heap_alloc_new w.drew _) hsize (by rw[hlenN];exact hcap) hcm
   ⟨by simp,fun i d u a b=>by
    rw[List.getElem?_replicate]at a b
    split at a
    ·rename_i hlt;rw[if_pos hlt]at b;simp only[Option.some.injEq]at a b;subst a;subst b;exact hrz
    ·cases a⟩ (fun i u h=>by rw[List.getElem?_replicate]at h;split at h <;>simp_all) (fun u hu x hx=>by rw[List.eq_of_mem_replicate hu]at hx;exact hrz.one hok x hx)
   (fun i u j x a b=>by
    rw[List.getElem?_replicate]at a
    split at a
    ·rename_i hlt
     cases a
     have hj:j<s:=by rw[←hzc];exact(Array.getElem?_eq_some_iff.1 b).1
     have hk:=lt_mul hlt hj
     rw[Array.getElem?_append_left (by rw[size_zeroCells,hzc];exact hk),K8 (by rw[hzc];exact hk),hzc]
     have:(i*s+j)%s=j:=by rw[Nat.add_comm,Nat.add_mul_mod_self_right];exact Nat.mod_eq_of_lt hj
     rw[this]
     obtain⟨hj',hjx⟩:=Array.getElem?_eq_some_iff.1 b
     simp[hj',hjx]
    ·cases a)
   (fun x hx=>by
    simp only[Array.toList_append,List.mem_append]at hx
    exact hx.elim (cU (fi hei hi hz) _ x) (cU (fi hei hi hz) _ x))
  rw[hlenN]at hA
  have hex:(execOp ρ o).run P w= .ok (.value (.slice (some ⟨w.heap.size,0,none⟩) N C)) (w.drew.alloc (.cells (Builtin.zeroCells z.cells N++Builtin.zeroCells z.cells (C-N)) e)):=by
   simp[execOp,ho,resolve,invoke,builtin,hxv,ay hy,hr]
  rw[hex]
  exact⟨g',_,_,hle,hR,hA,hK l (dn hne)⟩
 ·exact h.elim
def iM:Operand→Bool
 | .const (.slice none 0 0)=>true
 |_=>false
def mu(op:BinOp)(k:TK)(x:DV)(K:DV→Prop):Prop:=match k,op,x with
 | .sl _ _ _ _,.eql,.sl _ _ xs=>∀b:Bool,(xs≠[]→b=false)→K (.v (.bool b))
 | .sl _ _ _ _,.neq,.sl _ _ xs=>∀b:Bool,(xs≠[]→b=true)→K (.v (.bool b))
 | .sl _ _ _ _,.eql,.acc _ n=>∀b:Bool,(n≠0→b=false)→K (.v (.bool b))
 | .sl _ _ _ _,.neq,.acc _ n=>∀b:Bool,(n≠0→b=true)→K (.v (.bool b))
 | .sl _ _ _ _,.eql,.v (.slice (some _) _ _)=>K (.v (.bool false))
 | .sl _ _ _ _,.neq,.v (.slice (some _) _ _)=>K (.v (.bool true))
 |_,_,_=>False
theorem Ba{t e:TypeId}{w:World}(ht:P.underlying t=some (.slice e))(a:Option Addr)(n c:Nat):(Op.equal t (.slice a n c) (.slice none 0 0)).run P w= .ok a.isNone w:=by
 rw[jc,Op.equalIn,Sem.run_bind,run_underlying ht];cases a <;>rfl
theorem O7{o:Oper}{op:BinOp}{t t':TypeId}{x y:Operand}(ho:o.op= .binOp op t x y t')(hy:iM y=true){ρD:Operand→DV}{S:St}{K:DV→St→Prop}
 (h:mu op (tk P t) (ρD x) (K · S)):aj P w0 o ρD S K:=by
 refine JD fun g w ρ h1 h2 hcst=>?_
 have hx:=h2 x (by simp[ho,Op.operands])
 have hyv:ρ y= .slice none 0 0:=by
  unfold iM at hy
  split at hy
  ·exact hcst _
  ·cases hy
 have acc:∀{l n:Nat},ρD x= .acc l n→∃a c,ρ x= .slice a n c∧(n≠0→a.isNone=false):=by
  intro l n e
  rw[e]at hx
  obtain⟨o',c,hv,ha⟩:=ie hx
  obtain⟨o2,c2,e2,e3⟩:=h1.gq _ _ _ ha
  simp only[Value.slice.injEq,true_and]at e2
  refine⟨o',c,hv,fun hn=>?_⟩
  rcases e3 with e3|⟨b,q,e3⟩
  ·exact absurd e3 hn
  ·rw[e2.1,e3];rfl
 have sl:∀{s:Nat} {f:Bool} {xs:List DV},ρD x= .sl s f xs→∃a c,ρ x= .slice a xs.length c∧(xs≠[]→a.isNone=false):=by
  intro s f xs e
  rw[e]at hx
  rcases iJ hx with⟨he,o',c,hv,_⟩|⟨b,o',c',us,hv',_⟩
  ·subst he;exact⟨o',c,hv,fun h=>absurd rfl h⟩
  ·exact⟨_,_,hv',fun _=>rfl⟩
 have fin:∀{a:Option Addr} {n c:Nat} {e:TypeId},P.underlying t=some (.slice e)→ρ x= .slice a n c→(op= .eql→(execOp ρ o).run P w= .ok (.value (.bool a.isNone)) w)∧(op= .neq→(execOp ρ o).run P w= .ok (.value (.bool (!a.isNone))) w):=by
  intro a n c e hu hv
  constructor
  ·rintro rfl
   simp only[execOp,ho,hv,hyv,Sem.run_bind]
   rw[bB (by simp) (by simp)]
   simp only[Result.andThen_ok,(iL rfl rfl (Ba hu a n c)).1]
   rfl
  ·rintro rfl
   simp only[execOp,ho,hv,hyv,Sem.run_bind]
   rw[bB (by simp) (by simp)]
   simp only[Result.andThen_ok,(iL rfl rfl (Ba hu a n c)).2]
   rfl
 unfold mu at h
 split at h
 ·rename_i hk e
  obtain⟨a,c,hv,hn⟩:=sl e
  exact⟨_,_,(fin (eC hk).1 hv).1 rfl,.v _ rfl,h _ hn⟩
 ·rename_i hk e
  obtain⟨a,c,hv,hn⟩:=sl e
  exact⟨_,_,(fin (eC hk).1 hv).2 rfl,.v _ rfl,h _ fun q=>by rw[hn q];rfl⟩
 ·rename_i hk e
  obtain⟨a,c,hv,hn⟩:=acc e
  exact⟨_,_,(fin (eC hk).1 hv).1 rfl,.v _ rfl,h _ hn⟩
 ·rename_i hk e
  obtain⟨a,c,hv,hn⟩:=acc e
  exact⟨_,_,(fin (eC hk).1 hv).2 rfl,.v _ rfl,h _ fun q=>by rw[hn q];rfl⟩
 ·rename_i a n c hk e
  rw[e]at hx
  exact⟨_,_,(fin (eC hk).1 (ay hx)).1 rfl,.v _ rfl,h⟩
 ·rename_i a n c hk e
  rw[e]at hx
  exact⟨_,_,(fin (eC hk).1 (ay hx)).2 rfl,.v _ rfl,h⟩
 ·exact h.elim
def wH(S:St)(x:DV)(z:Nat)(K:DV→St→Prop):Prop:=match x with
 | .acc l n=>match lk S.acc l with
  |some (.arr s xs)=>xs.length=n∧∀l',jD S.acc l'→K (.acc l' z) ⟨S.box,rB S.acc l (l',.arr s (xs.take z))⟩
  |_=>False
 |_=>False
def UM(m:Nat):Option DV→Prop
 |some (.v (.int _ n))=>(n==0)=true∨(0≤n∧n≤m)
 |_=>False
def Wz:Option DV→Nat
 |some (.v (.int _ n))=>n.toNat
 |_=>0
def il(k:TK)(S:St)(x:DV)(lo hi mx:Option DV)(K:DV→St→Prop):Prop:=match x with
 | .acc l n=>(lo.isNone=true∧mx.isNone=true∧UM n hi∧(∃e s b,k= .sl e s b true)∧wH S (.acc l n) (Wz hi) K)∨jZ k S (.acc l n) lo hi mx K
 |x=>jZ k S x lo hi mx K
theorem IT{o:Oper}{t:TypeId}{x:Operand}{lo hi mx:Option Operand}(ho:o.op= .slice t x lo hi mx){ρD:Operand→DV}{S:St}{K:DV→St→Prop}
 (hh:mx.isSome=true→hi.isSome=true) (hne:(lo≠some x∧hi≠some x∧mx≠some x)) (h:il (tk P t) S (ρD x) (lo.map ρD) (hi.map ρD) (mx.map ρD) K):aj P w0 o ρD S K:=by
 unfold il at h
 split at h
 ·rename_i l n hxe
  rcases h with⟨e1,e2,e3,⟨e,s,by',hk⟩,h⟩|h
  ·intro g w ρ h1 h2 hcst
   have hx:=h2 x (by simp[ho,Op.operands])
   have el:lo=none:=by cases lo <;>simp_all
   have em:mx=none:=by cases mx <;>simp_all
   subst el;subst em
   cases hi with
   |none=>simp[UM]at e3
   |some y=>
    have hy:=h2 y (by simp[ho,Op.operands])
    simp only[Option.map_some,UM]at e3
    split at e3
    ·rename_i k m hye
     simp only[Option.some.injEq]at hye
     rw[hye]at hy
     obtain⟨z,rfl,hz⟩:∃z:Nat,m=z∧z≤n:=by
      rcases e3 with e3|⟨e3,e4⟩
      ·exact⟨0,by simpa using e3,Nat.zero_le _⟩
      ·exact⟨m.toNat,by omega,by omega⟩
     have hat:Wz (some (ρD y))=z:=by rw[hye];simp[Wz]
     rw[Option.map_some,hat]at h
     simp only[wH]at h
     ·split at h
      ·rename_i s' xs hl
       obtain⟨rfl,hK⟩:=h
       rw[hxe]at hx
       obtain⟨a,c,hv,ha⟩:=ie hx
       have hcap:xs.length≤c:=by
        obtain⟨ow,ho⟩:=h1.open_
        obtain⟨_,us,a',c',q1,_,_,_,q5,_⟩:=ho.lh hl (.inl rfl) ha
        simp only[Value.slice.injEq,true_and]at q1
        rw[q1.2];exact q5
       obtain⟨l2,g',hle,hne2,hR,hA⟩:=h1.cut hl hz ha
       obtain⟨hu,hs,hbs,hei⟩:=eC hk
       have hsize:(Go.sizeOf e).run P w= .ok s w:=by
        obtain⟨j,z',hq,_,_,_⟩:=cB hei
        unfold Program.cellsOf at hs
        simp[hq]at hs;simp[Go.sizeOf,typeInfo,hq,hs]
       have hrun:(execOp ρ o).run P w= .ok (.value (.slice a z c)) w:=by
        have hb:(Instr.sliceBounds true xs.length c none (some (.int k (z:Int))) none).run P w= .ok (0,z,c) w:=by
         have:(Instr.sliceBound (.int k (z:Int)) c .sliceAcap).run P w= .ok z w:=by
          have:=aB (P:=P) (k:=k) (i:=(z:Int)) (y:=c) (code:= .sliceAcap) (w:=w) (by omega) (by omega)
          simpa using this
         simp[Instr.sliceBounds,this,aB]
        simp[execOp,ho,hv,Instr.sliceAt,Instr.slice,run_underlying hu,ay hy,hb,hsize]
        cases a <;>simp[Addr.add]
       rw[hrun]
       exact⟨g',_,_,hle,by simpa using hR,hA,hK l2 (dn hne2)⟩
      ·exact h.elim
    ·cases e3
  ·exact zW ho hh hne (by rw[hxe];exact h)
 ·exact zW ho hh hne h
end
end Aml
namespace Aml
open Go Go.RowKit
inductive FK where
 |int (k:IntKind)
 |str
 |bool
def Se(P:Program)(T:TypeId):Option FK:=match P.underlying T with
 |some (.int k)=>some (.int k)
 |some .string=>some .str
 |some .bool=>some .bool
 |_=>none
def wu(P:Program):Nat→List Field→Option (List FK)
 |_,[]=>some []
 |i,f::fs=>if(f.name != "_" &&f.offset==i&&!kc P f.type)=true then(match Se P f.type,wu P (i+1) fs with
  |some k,some ks=>some (k::ks)
  |_,_=>none)else none
def BE(P:Program)(t:TypeId):Option (List FK):=match P.underlying t with
 |some (.struct _)=>if(!P.stoodInHeld t&&!P.eqGuardType P.depth t)=true then wu P 0 (P.fieldsOf t).toList else none
 |_=>none
def gr:List FK→List DV→List DV→Bool→(Bool→Prop)→Prop
 |[],[],[],r,F=>F r
 | .int k::ks,.v (.int k1 m)::la,.v (.int k2 n)::bs,r,F=>k1=k∧k2=k∧gr ks la bs (r&&decide (m=n)) F
 | .str::ks,.v (.string a)::la,.v (.string b)::bs,r,F=>gr ks la bs (r&&decide (a.data.toList=b.data.toList)) F
 | .bool::ks,.v (.bool a)::la,.v (.bool b)::bs,r,F=>gr ks la bs (r&&(a==b)) F
 |_,_,_,_,_=>False
theorem lO:∀{ks:List FK} {la bs:List DV} {F:Bool→Prop},gr ks la bs false F→F false
 |[],[],[],F,h=>h
 | .int k::ks,.v (.int k1 m)::la,.v (.int k2 n)::bs,F,h=>lO h.2.2
 | .str::ks,.v (.string a)::la,.v (.string b)::bs,F,h=>lO (la:=la) (bs:=bs) h
 | .bool::ks,.v (.bool a)::la,.v (.bool b)::bs,F,h=>lO (la:=la) (bs:=bs) h
theorem jb:∀{ks:List FK} {la bs:List DV} {r:Bool} {F G:Bool→Prop},(∀r,F r→G r)→gr ks la bs r F→gr ks la bs r G
 |[],[],[],r,F,G,hk,h=>hk _ h
 | .int k::ks,.v (.int k1 m)::la,.v (.int k2 n)::bs,r,F,G,hk,h=>⟨h.1,h.2.1,jb hk h.2.2⟩
 | .str::ks,.v (.string a)::la,.v (.string b)::bs,r,F,G,hk,h=>jb (la:=la) (bs:=bs) hk h
 | .bool::ks,.v (.bool a)::la,.v (.bool b)::bs,r,F,G,hk,h=>jb (la:=la) (bs:=bs) hk h
theorem ni:∀{ks:List FK} {la bs:List DV} {r:Bool} {F:Bool→Prop},gr ks la bs r F→∃q,gr ks la bs r (·=q)∧F q
 |[],[],[],r,F,h=>⟨r,rfl,h⟩
 | .int k::ks,.v (.int k1 m)::la,.v (.int k2 n)::bs,r,F,h=>let⟨q,a,b⟩:=ni h.2.2;⟨q,⟨h.1,h.2.1,a⟩,b⟩
 | .str::ks,.v (.string a)::la,.v (.string b)::bs,r,F,h=>let⟨q,a,b⟩:=ni (ks:=ks) (la:=la) (bs:=bs) h;⟨q,a,b⟩
 | .bool::ks,.v (.bool a)::la,.v (.bool b)::bs,r,F,h=>let⟨q,a,b⟩:=ni (ks:=ks) (la:=la) (bs:=bs) h;⟨q,a,b⟩
section
variable {P:Program} {w0:W0}
def Y3:FK→TypeDesc
 | .int k=> .int k
 | .str=> .string
 | .bool=> .bool
def Vi:FK→DV→DV→Bool→Prop
 | .int k,a,b,q=>∃m n,a= .v (.int k m)∧b= .v (.int k n)∧q=decide (m=n)
 | .str,a,b,q=>∃m n,a= .v (.string m)∧b= .v (.string n)∧q=decide (m.data.toList=n.data.toList)
 | .bool,a,b,q=>∃m n,a= .v (.bool m)∧b= .v (.bool n)∧q=(m==n)
theorem GA:∀{la bs:List DV} {r:Bool} {F:Bool→Prop},gr [] la bs r F→F r
 |[],[],r,F,h=>h
theorem DB:∀{k:FK} {ks:List FK} {la bs:List DV} {r:Bool} {F:Bool→Prop},gr (k::ks) la bs r F→∃a la' b bs' q0,la=a::la'∧bs=b::bs'∧gr ks la' bs' (r&&q0) F∧Vi k a b q0
 | .int k,ks,.v (.int k1 m)::la,.v (.int k2 n)::bs,r,F,⟨h1,h2,h⟩=>⟨_,_,_,_,_,rfl,rfl,h,m,n,by rw[h1],by rw[h2],rfl⟩
 | .str,ks,.v (.string a)::la,.v (.string b)::bs,r,F,h=>⟨_,_,_,_,_,rfl,rfl,h,a,b,rfl,rfl,rfl⟩
 | .bool,ks,.v (.bool a)::la,.v (.bool b)::bs,r,F,h=>⟨_,_,_,_,_,rfl,rfl,h,a,b,rfl,rfl,rfl⟩
theorem wM{T:TypeId}{k:FK}(h:Se P T=some k):P.underlying T=some (Y3 k):=by
 unfold Se at h
 split at h <;>first|(cases h;assumption)|cases h
theorem yf{g:Gh}{us vs:List Value}{w:World}{d:Nat}{F:Bool→Prop}:∀(fs:List Field) {i:Nat} {ks:List FK} {la bs:List DV} {r:Bool},wu P i fs=some ks→ai g la (us.drop i)→ai g bs (vs.drop i)→gr ks la bs r F→
 ∃q,(Op.eqFields (d+1) us.toArray vs.toArray fs).run P w= .ok q w∧F (r&&q)
 |[],i,ks,la,bs,r,hf,ha,hb,h=>by
  simp only[wu,Option.some.injEq]at hf
  subst hf
  refine⟨true,by simp[Op.eqFields],?_⟩
  rw[Bool.and_true]
  exact GA h
 |f::fs,i,ks,la,bs,r,hf,ha,hb,h=>by
  simp only[wu]at hf
  split at hf
  ·rename_i hc
   simp only[Bool.and_eq_true,bne_iff_ne,ne_eq,beq_iff_eq,Bool.not_eq_true']at hc
   obtain⟨⟨hn,ho⟩,hag⟩:=hc
   split at hf
   ·rename_i k ks' hk hks
    simp only[Option.some.injEq]at hf
    subst hf
    have hu:=wM hk
    have step:∀{a b:DV} {la' bs':List DV} {q0:Bool},la=a::la'→bs=b::bs'→
     (∀u v,aK g a u→aK g b v→(Op.equalIn (d+1) f.type u v).run P w= .ok q0 w)→gr ks' la' bs' (r&&q0) F→∃q,(Op.eqFields (d+1) us.toArray vs.toArray (f::fs)).run P w= .ok q w∧F (r&&q):=by
     rintro a b la' bs' q0 rfl rfl hq h
     obtain⟨u,us',e1,a1,a2⟩:=ha.bP
     obtain⟨v,vs',e2,b1,b2⟩:=hb.bP
     have hu1:us[i]? =some u:=by have:=congrArg (·[0]?) e1;simpa[List.getElem?_drop]using this
     have hv1:vs[i]? =some v:=by have:=congrArg (·[0]?) e2;simpa[List.getElem?_drop]using this
     have p1:=pH (P:=P) (w:=w) (us:=us) (off:=f.offset) hag (by rw[hu];rfl) (by rw[ho];exact hu1)
     have p2:=pH (P:=P) (w:=w) (us:=vs) (off:=f.offset) hag (by rw[hu];rfl) (by rw[ho];exact hv1)
     have p3:=hq u v a1 b1
     have d1:us.drop (i+1)=us':=by rw[←List.drop_drop,e1];rfl
     have d2:vs.drop (i+1)=vs':=by rw[←List.drop_drop,e2];rfl
     cases q0 with
     |false=>
      refine⟨false,?_,?_⟩
      ·simp[Op.eqFields,hn,p1,p2,p3]
      ·rw[Bool.and_false]at h ⊢;exact lO h
     |true=>
      rw[Bool.and_true]at h
      obtain⟨q,r1,r2⟩:=yf (d:=d) (w:=w) fs hks (by rw[d1];exact a2) (by rw[d2];exact b2) h
      exact⟨q,by simp[Op.eqFields,hn,p1,p2,p3,r1],r2⟩
    obtain⟨a,la',b,bs',q0,ea,eb,h',hq⟩:=DB h
    refine step ea eb (fun u v r1 r2=>?_) h'
    cases k with
    |int k=>
     obtain⟨m,n,rfl,rfl,rfl⟩:=hq
     cases r1;cases r2
     rw[run_equalIn_int w d f.type _ _ m n hu,xW]
    |str=>
     obtain⟨m,n,rfl,rfl,rfl⟩:=hq
     cases r1;cases r2
     rw[run_equalIn_string w d f.type m n hu,ByteArray.toList_eq,ByteArray.toList_eq,MY]
    |bool=>
     obtain⟨m,n,rfl,rfl,rfl⟩:=hq
     cases r1;cases r2
     rw[run_equalIn_bool' w d f.type m n hu]
   ·cases hf
  ·cases hf
def l3:List FK→Option (List IntKind)
 |[]=>some []
 | .int k::l=>(l3 l).map (k::·)
 |_=>none
theorem Bt:∀{fks:List FK} {ks:List IntKind} {us vs:List Value} {r:Bool},l3 fks=some ks→bJ ks us=true→bJ ks vs=true→gr fks (us.map .v) (vs.map .v) r (fun x=>x=(r&& @decide (us=vs) (Classical.propDecidable _)))
 |[],ks,us,vs,r,h,h1,h2=>by
  cases h
  cases us <;>cases vs <;>first|(simp[bJ]at h1;done)|(simp[bJ]at h2;done)|simp[gr]
 | .int k::fks,ks,us,vs,r,h,h1,h2=>by
  simp only[l3,Option.map_eq_some_iff]at h
  obtain⟨ks',hk,rfl⟩:=h
  cases us with
  |nil=>simp[bJ]at h1
  |cons u us=>
   cases vs with
   |nil=>simp[bJ]at h2
   |cons v vs=>
    cases u <;>simp[bJ]at h1
    cases v <;>simp[bJ]at h2
    rename_i k1 a k2 b
    have:=Bt (r:=r&&decide (a=b)) hk h1.2 h2.2
    simp only[List.map_cons,gr]
    refine⟨h1.1,h2.1,jb (fun x hx=>?_) this⟩
    rw[hx,Bool.and_assoc]
    congr 1
    obtain⟨rfl,_⟩:=h1
    obtain⟨rfl,_⟩:=h2
    by_cases e1:a=b
    ·by_cases e2:us=vs
     ·simp[e1,e2]
     ·simp[e1,e2]
    ·simp[e1]
theorem wD{g:Gh}{us:List Value}(h:∀u,u∈us→u.oneCell'=true):ai g (us.map .v) us:=⟨by simp,fun i d u a b=>by
 rw[List.getElem?_map,b]at a
 cases a
 exact .v u (h u (List.mem_of_getElem? b))⟩
theorem oz:∀{ks:List IntKind} {us:List Value},bJ ks us=true→∀u,u∈us→u.oneCell'=true
 |[],[],_,u,hu=>by cases hu
 |[],_::_,h,_,_=>by simp[bJ]at h
 |_::_,[],h,_,_=>by simp[bJ]at h
 |k::ks,a::us,h,u,hu=>by
  cases a <;>simp[bJ]at h
  rcases List.mem_cons.1 hu with rfl|hu
  ·rfl
  ·exact oz h.2 u hu
theorem Wu{kt:TypeId}{fks:List FK}{ks:List IntKind}(he:BE P kt=some fks)(hk:l3 fks=some ks){us vs:List Value}(h1:bJ ks us=true)(h2:bJ ks vs=true)(w:World):
 (Op.equal kt (.agg us.toArray) (.agg vs.toArray)).run P w= .ok (@decide (us=vs) (Classical.propDecidable _)) w:=by
 unfold BE at he
 split at he
 ·rename_i fs hst
  split at he
  ·rename_i hc
   simp only[Bool.and_eq_true,Bool.not_eq_true']at hc
   have hfo:P.underlying kt=some (.struct (P.fieldsOf kt)):=by unfold Program.fieldsOf;rw[hst]
   have g:Gh:=⟨fun _ _=>none,fun _ _=>none,fun _=>none⟩
   obtain⟨q,r1,r2⟩:=yf (P:=P) (w:=w) (d:=9998) (g:=g) (us:=us) (vs:=vs) (P.fieldsOf kt).toList he (by rw[List.drop_zero];exact wD (oz h1)) (by rw[List.drop_zero];exact wD (oz h2)) (Bt hk h1 h2)
   rw[Bool.true_and,Bool.true_and]at r2
   show(Op.equalIn 10000 kt _ _).run P w=_
   rw[run_equalIn_struct w 9999 kt _ _ hfo hc.1,r1,r2]
  ·cases he
 ·cases he
theorem nz{ks:List IntKind}{k:Value}(h:isKey (.st ks) k=true):∃us:List Value,k= .agg us.toArray∧bJ ks us=true:=by
 cases k <;>simp[isKey]at h
 rename_i us
 exact⟨us.toList,by simp,h⟩
theorem s6{kt:TypeId}{fks:List FK}{ks:List IntKind}(he:BE P kt=some fks)(hk:l3 fks=some ks){k:Value}(h1:isKey (.st ks) k=true)(w:World):∀(l:List MapEntry) (i:Nat),(∀x,x∈l→isKey (.st ks) x.key=true)→
 ((Instr.findAsking kt k l i).run P w= .ok none w∧∀x,x∈l→x.key≠k)∨∃j e,(Instr.findAsking kt k l i).run P w= .ok (some (i+j,e.val)) w∧l[j]? =some e∧e.key=k
 |[],i,_=> .inl ⟨by simp[Instr.findAsking],by simp⟩
 |e::es,i,hall=>by
  obtain⟨us,rfl,hu⟩:=nz h1
  obtain⟨vs,hv,hv2⟩:=nz (hall e (by simp))
  have hr:=Wu he hk hu hv2 w
  by_cases hx:us=vs
  ·refine .inr ⟨0,e,?_,rfl,by rw[hv,hx]⟩
   rw[show @decide (us=vs) (Classical.propDecidable _)=true from by simp[hx]]at hr
   simp[Instr.findAsking,hv,hr]
  ·rw[show @decide (us=vs) (Classical.propDecidable _)=false from by simp[hx]]at hr
   have hne:e.key≠ .agg us.toArray:=by
    rw[hv]
    intro h
    simp at h
    exact hx h.symm
   rcases s6 he hk h1 w es (i+1) (fun x hx=>hall x (by simp[hx]))with⟨a,b⟩|⟨j,e',a,b,c⟩
   ·refine .inl ⟨?_,fun x hx=>?_⟩
    ·simp[Instr.findAsking,hv,hr,a]
    ·rcases List.mem_cons.1 hx with rfl|hx
     ·exact hne
     ·exact b x hx
   ·refine .inr ⟨j+1,e',?_,by simpa using b,c⟩
    simp[Instr.findAsking,hv,hr,a,Nat.add_assoc,Nat.add_comm 1 j]
theorem Jo{kt:TypeId}{fks:List FK}{ks:List IntKind}(he:BE P kt=some fks)(hk:l3 fks=some ks){us:List Value}(h:bJ ks us=true)(em:Bool)(w:World):(Instr.checkKey em 10000 kt (.agg us.toArray)).run P w= .ok () w:=by
 unfold BE at he
 split at he
 ·rename_i fs0 hst
  split at he
  ·have hfo:P.underlying kt=some (.struct (P.fieldsOf kt)):=by unfold Program.fieldsOf;rw[hst]
   rw[show(10000:Nat)=9998+1+1 from rfl,Instr.checkKey]
   simp only[Sem.run_bind,run_underlying hfo,Result.andThen_ok]
   rw[←Array.forIn_toList]
   have h':bJ ks (us.drop 0)=true:=by simpa using h
   clear h hst hfo
   generalize (P.fieldsOf kt).toList=L at he
   generalize (0:Nat)=i at he h'
   induction L generalizing i fks ks with
   |nil=>simp
   |cons f fs ih=>
    simp only[wu]at he
    split at he
    ·rename_i hc
     simp only[Bool.and_eq_true,bne_iff_ne,ne_eq,beq_iff_eq,Bool.not_eq_true']at hc
     obtain⟨⟨hn,ho⟩,hag⟩:=hc
     split at he
     ·rename_i k ks' hkf hks
      simp only[Option.some.injEq]at he
      subst he
      cases k with
      |int k=>
       simp only[l3,Option.map_eq_some_iff]at hk
       obtain⟨ks2,hk2,rfl⟩:=hk
       have hu:=wM hkf
       obtain⟨u,us',e1⟩:∃u us',us.drop i=u::us':=by
        cases hd:us.drop i with
        |nil=>rw[hd]at h';simp[bJ]at h'
        |cons a b=>exact⟨a,b,rfl⟩
       rw[e1]at h'
       have hu1:us[i]? =some u:=by have:=congrArg (·[0]?) e1;simpa[List.getElem?_drop]using this
       have p1:=pH (P:=P) (w:=w) (us:=us) (off:=f.offset) hag (by rw[hu];rfl) (by rw[ho];exact hu1)
       have d1:us.drop (i+1)=us':=by rw[←List.drop_drop,e1];rfl
       cases u <;>simp[bJ]at h'
       obtain⟨rfl,h'⟩:=h'
       rename_i k1 a
       have p2:(Instr.checkKey em (9998+1) f.type (.int k1 a)).run P w= .ok () w:=MapKept.run_checkKey hu (by simp[Y3,MapKept.IsKey]) em 9998
       simp only[List.forIn_cons,Sem.run_bind,hn,ne_eq,not_false_eq_true,if_true,Result.andThen_ok,p1,p2,Sem.run_pure]
       exact ih hk2 (i+1) hks (by rw[d1];exact h')
      |str=>simp[l3]at hk
      |bool=>simp[l3]at hk
     ·cases he
    ·cases he
  ·cases he
 ·cases he
theorem rI(n:Nat):∀{ks:List IntKind} {us:List Value},bJ ks us=true→((us.zip us).all fun(x,y)=>Instr.sameBits n x y)=true
 |[],[],_=>rfl
 |[],_::_,h=>by simp[bJ]at h
 |_::_,[],h=>by simp[bJ]at h
 |k::ks,a::us,h=>by
  cases a <;>simp[bJ]at h
  have:=rI n h.2
  rw[List.zip_cons_cons,List.all_cons,this,Bool.and_true]
  cases n <;>simp[Instr.sameBits]
theorem L5{ks:List IntKind}{us:List Value}(h:bJ ks us=true)(w:World):(Instr.keyThatStays (.agg us.toArray) (.agg us.toArray)).run P w= .ok (.agg us.toArray) w:=by
 have:=rI 9999 h
 have h2:Instr.sameBits 10000 (.agg us.toArray) (.agg us.toArray)=true:=by
  show((us.toArray.size==us.toArray.size)&&_)=true
  simp[this]
 unfold Instr.keyThatStays
 rw[if_pos h2]
 simp
end
end Aml
namespace Aml
open Go Go.RowKit
noncomputable def iE(es:List (Value×DV×Nat))(k:Value):Option DV:=(es.find? fun e=>@decide (e.1=k) (Classical.propDecidable _)).map (·.2.1)
noncomputable def qu(k:Value)(d:DV)(e:Value×DV×Nat):Value×DV×Nat:=if @decide (e.1=k) (Classical.propDecidable _)then(e.1,d,e.2.2)else e
noncomputable def jO(es:List (Value×DV×Nat))(clk:Nat)(k:Value)(d:DV):List (Value×DV×Nat):=
 if(iE es k).isSome then es.map (qu k d)else es++[(k,d,clk)]
noncomputable def qt(es:List (Value×DV×Nat))(clk:Nat)(k:Value):Nat:=if(iE es k).isSome then clk else clk+1
noncomputable def CW(es:List (Value×DV×Nat))(k:Value):List (Value×DV×Nat):=es.filter fun e=>!@decide (e.1=k) (Classical.propDecidable _)
theorem x9{k:Value}{d:DV}{e:Value×DV×Nat}(h:e.1=k):qu k d e=(e.1,d,e.2.2):=by
 unfold qu;rw[if_pos (by simp[h])]
theorem xu{k:Value}{d:DV}{e:Value×DV×Nat}(h:e.1≠k):qu k d e=e:=by
 unfold qu;rw[if_neg (by simp[h])]
theorem GH{α:Type}{l:List α}(h:l.Nodup){i j:Nat}{a:α}(hi:l[i]? =some a)(hj:l[j]? =some a):i=j:=by
 obtain⟨h1,rfl⟩:=List.getElem?_eq_some_iff.1 hi
 obtain⟨h2,e⟩:=List.getElem?_eq_some_iff.1 hj
 rcases Nat.lt_trichotomy i j with q|q|q
 ·exact absurd e.symm (List.pairwise_iff_getElem.1 h i j h1 h2 q)
 ·exact q
 ·exact absurd e (List.pairwise_iff_getElem.1 h j i h2 h1 q)
theorem rn{es:List (Value×DV×Nat)}{k:Value}:iE es k=none↔∀e,e∈es→e.1≠k:=by
 unfold iE
 rw[Option.map_eq_none_iff,List.find?_eq_none]
 simp
theorem OV{es:List (Value×DV×Nat)}(h:(es.map (·.1)).Nodup){j:Nat}{e:Value×DV×Nat}(hj:es[j]? =some e):iE es e.1=some e.2.1:=by
 unfold iE
 have:es.find? (fun x=>@decide (x.1=e.1) (Classical.propDecidable _))=some e:=by
  induction es generalizing j with
  |nil=>simp at hj
  |cons a es ih=>
   rw[List.map_cons,List.nodup_cons]at h
   rw[List.find?_cons]
   cases j with
   |zero=>simp at hj;subst hj;simp
   |succ j=>
    simp only[List.getElem?_cons_succ]at hj
    have hne:a.1≠e.1:=fun x=>h.1 (by rw[x];exact List.mem_map_of_mem (f:=fun y:Value×DV×Nat=>y.1) (List.mem_of_getElem? hj))
    rw[show @decide (a.1=e.1) (Classical.propDecidable _)=false from by simp[hne]]
    exact ih h.2 hj
 rw[this];rfl
structure P8(P:Program)(kt:TypeId)(kk:KK):Prop where
 find:∀(k:Value) (l:List MapEntry) (w:World),isKey kk k=true→(∀x,x∈l→isKey kk x.key=true)→
  ((Instr.findKey kt k l).run P w= .ok none w∧∀x,x∈l→x.key≠k)∨∃j e,(Instr.findKey kt k l).run P w= .ok (some (j,e.val)) w∧l[j]? =some e∧e.key=k
 check:∀(b:Bool) (k:Value) (w:World),isKey kk k=true→(Instr.checkKey b 10000 kt k).run P w= .ok () w
 stays:∀(k:Value) (w:World),isKey kk k=true→(Instr.keyThatStays k k).run P w= .ok k w
theorem Fk{P:Program}{kt:TypeId}{kk:KK}{d:TypeDesc}(hd:P.underlying kt=some d)(hk:∀k,isKey kk k=true→MapKept.IsKey d k):P8 P kt kk where
 find:=fun k l w h1 h2=>by
  rcases MapKept.findNow_spec (hk k h1) l 0 (fun x hx=>hk _ (h2 x hx))with⟨a,b⟩|⟨j,e,a,b,c⟩
  ·exact .inl ⟨MapKept.run_findKey hd a,b⟩
  ·exact .inr ⟨j,e,by have:=MapKept.run_findKey (w:=w) hd a;simpa using this,b,c⟩
 check:=fun b k w h=>MapKept.run_checkKey hd (hk k h) b 9999
 stays:=fun k w h=>MapKept.run_keyThatStays (hk k h)
def OA(P:Program)(kt:TypeId):Option KK:=match tk P kt with
 | .int k=>some (.int k)
 | .str=>some .str
 | .st _ _=>(BE P kt).bind fun f=>(l3 f).map .st
 |_=>none
theorem LK{P:Program}{kt:TypeId}{kk:KK}(h:OA P kt=some kk):P8 P kt kk:=by
 unfold OA at h
 split at h
 ·rename_i k hk
  cases h
  exact Fk (mT hk) fun u hu=>by cases u <;>simp_all [isKey,MapKept.IsKey]
 ·rename_i hk
  cases h
  exact Fk (lI hk) fun u hu=>by cases u <;>simp_all [isKey,MapKept.IsKey]
 ·obtain⟨fks,he,h⟩:=Option.bind_eq_some_iff.1 h
  obtain⟨ks,hk,rfl⟩:=Option.map_eq_some_iff.1 h
  refine⟨fun k l w h1 h2=>?_,fun b k w h1=>?_,fun k w h1=>?_⟩
  ·have hu:∃fs,P.underlying kt=some (.struct fs):=by
    unfold BE at he
    split at he
    ·exact⟨_,by assumption⟩
    ·cases he
   obtain⟨fs,hu⟩:=hu
   have hf:(Instr.findKey kt k l).run P w=(Instr.findAsking kt k l 0).run P w∨l=[]:=by
    cases l with
    |nil=>exact .inr rfl
    |cons e l=>
     refine .inl ?_
     have:Instr.sameNow (.struct fs) k e.key=none:=by cases k <;>rfl
     simp[Instr.findKey,run_underlying hu,Instr.findNow,this]
   rcases hf with hf|rfl
   ·rcases s6 he hk h1 w l 0 h2 with⟨a,b⟩|⟨j,e,a,b,c⟩
    ·exact .inl ⟨hf.trans a,b⟩
    ·exact .inr ⟨j,e,by rw[hf,a,Nat.zero_add],b,c⟩
   ·exact .inl ⟨by simp[Instr.findKey,run_underlying hu,Instr.findNow],by simp⟩
  ·obtain⟨us,rfl,hu⟩:=nz h1
   exact Jo he hk hu b w
  ·obtain⟨us,rfl,hu⟩:=nz h1
   exact L5 hu w
 ·cases h
def sB(P:Program)(t:TypeId):Option (KK×DV):=match tk P t with
 | .map k e=>(OA P k).map fun kk=>(kk,zD P e)
 |_=>none
theorem si{P:Program}{t:TypeId}{kk:KK}{z:DV}(h:sB P t=some (kk,z)):∃k e,P.underlying t=some (.map k e)∧P8 P k kk∧zD P e=z:=by
 unfold sB at h
 split at h
 ·rename_i k e hk
  obtain⟨kk',h1,h2⟩:=Option.map_eq_some_iff.1 h
  cases h2
  exact⟨k,e,by unfold tk at hk;split at hk <;>(try split at hk) <;>(try cases hk) <;>assumption,LK h1,rfl⟩
 ·cases h
def oK{α:Type}:Option α→(α→Prop)→Prop
 |some a,F=>F a
 |none,_=>False
def qh:DV→Option Value
 | .v u=>some u
 | .agg ds=>(fg ds).map fun us=> .agg us.toArray
 |_=>none
theorem vL{g:Gh}:∀{ds:List DV} {us vs:List Value},fg ds=some us→ai g ds vs→vs=us
 |[],us,vs,h,r=>by
  cases h
  exact List.eq_nil_of_length_eq_zero (by have:=r.len;simpa using this.symm)
 |d::ds,us,vs,h,r=>by
  obtain⟨u,us',rfl,r1,r2⟩:=r.bP
  cases d with
  |v x=>
   simp only[fg,Option.map_eq_some_iff]at h
   obtain⟨ys,hy,rfl⟩:=h
   rw[ay r1,vL hy r2]
  |_=>simp[fg]at h
theorem tD{g:Gh}{d:DV}{k u:Value}(h:qh d=some k)(r:aK g d u):u=k:=by
 cases d with
 |v x=>cases h;exact ay r
 |agg ds=>
  simp only[qh,Option.map_eq_some_iff]at h
  obtain⟨us,h1,rfl⟩:=h
  obtain⟨vs,rfl,r1,_⟩:=nG r
  rw[vL h1 r1]
 |_=>cases h
def kD:Value→DV
 | .agg us=> .agg (us.toList.map .v)
 |u=> .v u
theorem Je{g:Gh}{kk:KK}{k:Value}(h:isKey kk k=true):aK g (kD k) k:=by
 cases kk <;>cases k <;>first|(simp[isKey]at h;done)|exact .v _ rfl|skip
 rename_i ks us
 have hl:∀(ks:List IntKind) (l:List Value),bJ ks l=true→∀u,u∈l→u.oneCell'=true:=by
  intro ks l
  induction l generalizing ks with
  |nil=>intro _ u hu;cases hu
  |cons a l ih=>
   intro h u hu
   cases ks with
   |nil=>simp[bJ]at h
   |cons k ks=>
    cases a <;>simp[bJ]at h
    rcases List.mem_cons.1 hu with rfl|hu
    ·rfl
    ·exact ih ks h.2 u hu
 have h1:=hl ks us.toList h
 have:=aK.agg (g:=g) (us.toList.map .v) us.toList (by simp) (fun i d u a b=>by
  rw[List.getElem?_map,b]at a
  cases a
  exact .v u (h1 u (List.mem_of_getElem? b))) h1
 simpa[kD]using this
section
variable {P:Program} {w0:W0}
theorem Rel.Kg{g:Gh}{S:St}{w:World}(h:Rel w0 g S w){l:Nat}{f:XO}(hl:lk S.acc l=some (.xo f)):∃b o,g.acc l 0=some (.slice (some ⟨b,0,none⟩) 0 0)∧w.heap[b]? =some o∧G7 g f o∧
 ∀f' o' w',G7 g f' o'→j6 b w w'→w'.heap[b]? =some o'→(∀i,i≠b→w'.heap[i]? =w.heap[i]?)→Rel w0 g ⟨S.box,up S.acc l (.xo f')⟩ w':=by
 obtain⟨ow,h⟩:=h.open_
 have hm:=cn hl
 obtain⟨b,o,q1,q2,q3,q4,q5,q6⟩:=h.acc l _ hm
 refine⟨b,o,q1,q5,q6,fun f' o' w' hx hB hb' hs=>ir.close (ow:=ow) ⟨?_,?_,h.nb,?_,h.gq,h.fresh,?_,?_,?_,?_⟩⟩
 ·exact h.below.step (hB.mono q3) b (fun x hx'=>by rw[q5]at hx';cases hx';exact q6.nc) fun i _ hne=>hs i hne
 ·intro b' i u hu
  have hne:b'≠b:=by rintro rfl;rw[q4]at hu;cases hu
  rw[World.cell?_of_block (w:=w) (w':=w') (a:=⟨b',i,none⟩) (hs b' hne)]
  exact h.bM _ _ _ hu
 ·rw[od];exact h.na
 ·intro l' o'' hm' k hk
  rcases iN h.na hm' with e|⟨hm',hne⟩
  ·simp only[Prod.mk.injEq]at e
   obtain⟨rfl,rfl⟩:=e
   exact h.top _ _ hm k hk
  ·exact h.top _ _ hm' k hk
 ·intro b' ds hb
  refine(h.box _ _ hb).step (.refl g) fun ho=>⟨ho,hs b' ?_,fun _ hi=>hi⟩
  rintro rfl
  rw[q2]at ho;cases ho
 ·intro l' o'' hm'
  rcases iN h.na hm' with e|⟨hm',hne⟩
  ·simp only[Prod.mk.injEq]at e
   obtain⟨rfl,rfl⟩:=e
   exact⟨b,o',q1,q2,q3,q4,hb',hx⟩
  ·refine(h.acc _ _ hm').step (.refl g) fun b' ho=>⟨ho,hs b' ?_,fun _ hi=>hi⟩
   rintro rfl
   rw[q2]at ho
   simp only[Option.some.injEq,Key.a.injEq]at ho
   exact hne ho.symm
 ·intro b' k hk;exact Nat.lt_of_lt_of_le (h.oS _ _ hk) hB.size
theorem Rel.Jw{g:Gh}{S:St}{w:World}(h:Rel w0 g S w){l:Nat}{f:XO}(hl:lk S.acc l=some (.xo f)):∃b o,g.acc l 0=some (.slice (some ⟨b,0,none⟩) 0 0)∧w.heap[b]? =some o∧G7 g f o:=
 let⟨b,o,q1,q2,q3,_⟩:=h.Kg hl
 ⟨b,o,q1,q2,q3⟩
theorem Rel.VG{g:Gh}{S:St}{w w':World}(h:Rel w0 g S w)(k:j6 w.heap.size w w'){b:Nat}{o:Obj}{f:XO}(hge:w.heap.size≤b)(hb:w'.heap[b]? =some o)(hx:G7 g f o):
 ∃l g',g.le g'∧(∀p,p∈S.acc→p.1≠l)∧Rel w0 g' ⟨S.box,(l,.xo f)::S.acc⟩ w'∧g'.acc l 0=some (.slice (some ⟨b,0,none⟩) 0 0):=by
 obtain⟨ow,h⟩:=h.open_
 have hnow:ow b=none:=by
  cases ho:ow b with
  |none=>rfl
  |some q=>have:=h.oS b q ho;omega
 have h':=h.grow k
 obtain⟨m,hm'⟩:=h'.fresh
 have hnone:∀i,g.bM b i=none:=by
  intro i
  cases hi:g.bM b i with
  |none=>rfl
  |some u=>have:=World.block_lt_of_cell? w _ (h.bM _ _ _ hi);simp at this;omega
 have hne:∀p,p∈S.acc→p.1≠m:=by
  rintro⟨l',o'⟩ hp rfl
  obtain⟨u,hu⟩:=(h'.acc _ _ hp).has
  rw[hm' _ _ (Nat.le_refl _)]at hu;cases hu
 let v:Value:= .slice (some ⟨b,0,none⟩) 0 0
 have hle:g.le (g.aT m 0 v):=Gh.iY (.inl (hm' _ _ (Nat.le_refl _)))
 have hself:(g.aT m 0 v).acc m 0=some v:=by simp[Gh.aT]
 refine⟨m,g.aT m 0 v,hle,hne,ir.close (ow:=fun x=>if x=b then some (.a m)else ow x) ⟨h'.below.le hle,h'.bM,h'.nb,?_,?_,?_,?_,?_,?_,?_⟩,hself⟩
 ·simp only[List.map_cons,List.nodup_cons]
  refine⟨fun hx=>?_,h'.na⟩
  obtain⟨p,hp,e⟩:=List.mem_map.1 hx
  exact hne p hp e
 ·intro l' n u hu
  simp only[Gh.aT]at hu
  split at hu
  ·rename_i e;obtain⟨rfl,rfl⟩:=e;exact⟨_,_,(Option.some.inj hu).symm,.inl rfl⟩
  ·exact h'.gq _ _ _ hu
 ·refine⟨m+1,fun l n hl=>?_⟩
  simp only[Gh.aT]
  rw[if_neg (by omega)]
  exact hm' _ _ (by omega)
 ·intro l o hl k hk
  simp only[Gh.aT]
  rcases List.mem_cons.1 hl with e|hl
  ·simp only[Prod.mk.injEq]at e
   obtain⟨rfl,rfl⟩:=e
   simp only[Ob.len]at hk
   rw[if_neg (by omega)]
   exact hm' _ _ (Nat.le_refl _)
  ·rw[if_neg (fun e=>hne _ hl e.1)]
   exact h'.top _ _ hl k hk
 ·intro b' ds hb'
  refine(h'.box b' ds hb').step hle fun ho=>⟨?_,rfl,fun _ hi=>hi⟩
  split
  ·rename_i e;subst e;exact absurd (hnow.symm.trans ho) (by simp)
  ·exact ho
 ·intro l o hl
  rcases List.mem_cons.1 hl with e'|hl
  ·simp only[Prod.mk.injEq]at e'
   obtain⟨rfl,rfl⟩:=e'
   exact⟨b,_,hself,if_pos rfl,Nat.le_trans h.below.size hge,hnone,hb,hx.mono hle⟩
  ·refine(h'.acc l o hl).step hle fun b' ho=>⟨?_,rfl,fun _ hi=>hi⟩
   split
   ·rename_i e;subst e;exact absurd (hnow.symm.trans ho) (by simp)
   ·exact ho
 ·intro b' q hq
  split at hq
  ·rename_i e;subst e;exact da hb
  ·exact h'.oS _ _ hq
theorem tP{g:Gh}{l:Nat}{x:Value}(r:aK g (.mp l) x):∃b,x= .map (some b)∧g.acc l 0=some (.slice (some ⟨b,0,none⟩) 0 0):=by
 cases r with
 |mp _ b h=>exact⟨b,rfl,h⟩
theorem MX{g:Gh}{l:Nat}{x:Value}(r:aK g (.it l) x):∃b,x= .pointer (some ⟨b,0,none⟩)∧g.acc l 0=some (.slice (some ⟨b,0,none⟩) 0 0):=by
 cases r with
 |it _ b h=>exact⟨b,rfl,h⟩
theorem fH(w:World)(b:Nat)(o:Obj):j6 b w {w with heap:=w.heap.setIfInBounds b o}:=⟨rfl,rfl,rfl,by simp,fun k hk=>by simp[Array.getElem?_setIfInBounds,Nat.ne_of_gt hk],Nat.le_refl _⟩
theorem kT{w:World}{b:Nat}{o o':Obj}(h:w.heap[b]? =some o):({w with heap:=w.heap.setIfInBounds b o'}:World).heap[b]? =some o'∧∀i,i≠b→({w with heap:=w.heap.setIfInBounds b o'}:World).heap[i]? =w.heap[i]? :=MapKept.heap_set h
theorem iS.get{g:Gh}{es:List (Value×DV×Nat)}{es':List MapEntry}(r:iS g es es'){j:Nat}{e':MapEntry}(h:es'[j]? =some e'):∃e,es[j]? =some e∧e'.key=e.1∧aK g e.2.1 e'.val∧e'.born=e.2.2:=by
 have hlt:j<es.length:=by rw[r.len];exact(List.getElem?_eq_some_iff.1 h).1
 have he:es[j]? =some es[j]:=List.getElem?_eq_getElem hlt
 exact⟨_,he,r.at_ j _ _ he h⟩
theorem iS.get'{g:Gh}{es:List (Value×DV×Nat)}{es':List MapEntry}(r:iS g es es'){j:Nat}{e:Value×DV×Nat}(h:es[j]? =some e):∃e',es'[j]? =some e'∧e'.key=e.1∧aK g e.2.1 e'.val∧e'.born=e.2.2:=by
 have hlt:j<es'.length:=by rw[←r.len];exact(List.getElem?_eq_some_iff.1 h).1
 have he:es'[j]? =some es'[j]:=List.getElem?_eq_getElem hlt
 exact⟨_,he,r.at_ j _ _ h he⟩
theorem iS.keys{g:Gh}{es:List (Value×DV×Nat)}{es':List MapEntry}(r:iS g es es'){kk:KK}{clk:Nat}(h:uh kk es clk):∀x,x∈es'→isKey kk x.key=true:=fun x hx=>by
 obtain⟨j,hj⟩:=List.mem_iff_getElem?.1 hx
 obtain⟨e,he,h1,_⟩:=r.get hj
 rw[h1];exact h.key e (List.mem_of_getElem? he)
theorem iS.found{g:Gh}{es:List (Value×DV×Nat)}{es':List MapEntry}(r:iS g es es'){kk:KK}{clk:Nat}(h:uh kk es clk){kt:TypeId}(L:P8 P kt kk){k:Value}(hk:isKey kk k=true)(w:World):
 ((Instr.findKey kt k es').run P w= .ok none w∧iE es k=none)∨∃j e e',(Instr.findKey kt k es').run P w= .ok (some (j,e'.val)) w∧es'[j]? =some e'∧es[j]? =some e∧e.1=k∧e'.key=k∧aK g e.2.1 e'.val∧e'.born=e.2.2∧iE es k=some e.2.1:=by
 rcases L.find k es' w hk (r.keys h)with⟨a,b⟩|⟨j,e',a,b,c⟩
 ·refine .inl ⟨a,rn.2 fun e he hek=>?_⟩
  obtain⟨j,hj⟩:=List.mem_iff_getElem?.1 he
  obtain⟨e',he',h1,_⟩:=r.get' hj
  exact b e' (List.mem_of_getElem? he') (h1.trans hek)
 ·obtain⟨e,he,h1,h2,h3⟩:=r.get b
  exact .inr ⟨j,e,e',a,b,he,h1.symm.trans c,c,h2,h3,by have:=OV h.nd he;rwa [h1.symm.trans c]at this⟩
def Rl(ok:Bool)(d:DV)(is:Bool):DV:=if ok then .bD [d,.v (.bool is)]else d
def dv(m:Option (KK×DV))(S:St)(x y:DV)(ok:Bool)(K:DV→Prop):Prop:=oK m fun p=>eL p.2=true∧oK (qh y) fun k=>isKey p.1 k=true∧(match x with
 | .v (.map none)=>K (Rl ok p.2 false)
 | .mp l=>(match lk S.acc l with
  |some (.xo (.mp kk es clk))=>kk=p.1∧(match iE es k with
   |some d=>K (Rl ok d true)
   |none=>K (Rl ok p.2 false))
  |_=>False)
 |_=>False)
theorem JE{o:Oper}{t:TypeId}{x y:Operand}{ok:Bool}(ho:o.op= .lookup t x y ok){ρD:Operand→DV}{S:St}{K:DV→St→Prop}(h:dv (sB P t) S (ρD x) (ρD y) ok (K · S)):aj P w0 o ρD S K:=by
 refine bI fun g w ρ h1 h2=>?_
 have hx:=h2 x (by simp[ho,Op.operands])
 have hy:=h2 y (by simp[ho,Op.operands])
 unfold dv at h
 cases hm:sB P t with
 |none=>rw[hm]at h;exact h.elim
 |some p=>
  obtain⟨kk,z⟩:=p
  rw[hm]at h
  obtain⟨hz,h⟩:=h
  cases hk:qh (ρD y)with
  |none=>rw[hk]at h;exact h.elim
  |some k=>
   rw[hk]at h
   obtain⟨hkk,h⟩:=h
   have hyk:=tD hk hy
   obtain⟨kt,et,hu,L,hzd⟩:=si hm
   simp only at hz hkk h
   obtain⟨zv,hzr,hzz⟩:=xP (P:=P) hzd hz w
   have hlk:∀(d:DV) (v:Value) (is:Bool),aK g d v→aK g (Rl ok d is) (if ok=true then .tuple #[v,.bool is]else v):=fun d v is r=>by
    unfold Rl
    cases ok
    ·exact r
    ·exact pO r (.v (.bool is) rfl)
   split at h
   ·rename_i e
    rw[e]at hx
    refine⟨_,_,?_,hlk z zv false (hzz g),h⟩
    have hxe:=ay hx
    have hf:(Instr.findKey kt k []).run P w= .ok none w:=by
     rcases L.find k [] w hkk (fun x hx=>by cases hx)with h|⟨j,e,_,h,_⟩
     ·exact h.1
     ·simp at h
    simp[execOp,ho,Instr.lookup,run_underlying hu,hxe,hyk,L.check _ k w hkk,hf,hzr]
   ·rename_i l e
    rw[e]at hx
    obtain⟨b,hxb,hgb⟩:=tP hx
    split at h
    ·rename_i kk' es clk hl
     obtain⟨rfl,h⟩:=h
     obtain⟨b',o',q1,q2,es',rfl,r,hok⟩:=h1.Jw hl
     rw[hgb]at q1;cases q1
     have hg:=MapKept.run_getObj_map (P:=P) q2
     rcases r.found hok L hkk w with⟨f1,f2⟩|⟨j,e,e',f1,f2,f3,f4,f5,f6,f7,f8⟩
     ·rw[f2]at h
      refine⟨_,_,?_,hlk z zv false (hzz g),h⟩
      simp[execOp,ho,Instr.lookup,run_underlying hu,hxb,hyk,hg,L.check _ k w hkk,f1,hzr]
     ·rw[f8]at h
      refine⟨_,_,?_,hlk _ _ true f6,h⟩
      simp[execOp,ho,Instr.lookup,run_underlying hu,hxb,hyk,hg,L.check _ k w hkk,f1]
    ·exact h.elim
   ·exact h.elim
theorem iS.set{g:Gh}{es:List (Value×DV×Nat)}{es':List MapEntry}(r:iS g es es')(hn:(es.map (·.1)).Nodup){j:Nat}{e:Value×DV×Nat}(hj:es[j]? =some e){d:DV}{v:Value}(hd:aK g d v):
 iS g (es.map (qu e.1 d)) (es'.modify j fun x=>{x with key:=e.1,val:=v}):=by
 refine⟨by rw[List.length_map,List.length_modify];exact r.len,fun i x x' hx hx'=>?_⟩
 rw[List.getElem?_map]at hx
 rw[List.getElem?_modify]at hx'
 cases hi:es[i]? with
 |none=>rw[hi]at hx;cases hx
 |some y=>
  rw[hi]at hx
  cases hx
  obtain⟨y',hy',q1,q2,q3⟩:=r.get' hi
  rw[hy']at hx'
  simp only[Option.map_eq_map,Option.map_some,Option.some.injEq]at hx'
  by_cases hij:j=i
  ·subst hij
   rw[hj]at hi;cases hi
   simp only[if_true]at hx'
   subst hx'
   rw[x9 rfl]
   exact⟨rfl,hd,q3⟩
  ·have hne:y.1≠e.1:=fun he=>hij (GH hn (a:=e.1) (by rw[List.getElem?_map,hj];rfl) (by rw[List.getElem?_map,hi,←he];rfl))
   rw[if_neg hij]at hx'
   subst hx'
   rw[xu hne]
   exact⟨q1,q2,q3⟩
theorem Io{es:List (Value×DV×Nat)}{k:Value}{d:DV}:(es.map (qu k d)).map (·.1)=es.map (·.1)∧(es.map (qu k d)).map (·.2.2)=es.map (·.2.2):=by
 constructor
 ·rw[List.map_map]
  refine List.map_congr_left fun e _=>?_
  simp only[Function.comp,qu];split <;>rfl
 ·rw[List.map_map]
  refine List.map_congr_left fun e _=>?_
  simp only[Function.comp,qu];split <;>rfl
theorem Oi{kk:KK}{es:List (Value×DV×Nat)}{clk:Nat}(h:uh kk es clk){k:Value}(hk:isKey kk k=true)(d:DV):uh kk (jO es clk k d) (qt es clk k):=by
 unfold jO qt
 cases hg:iE es k with
 |some x=>
  simp only[Option.isSome_some,if_true]
  obtain⟨e1,e2⟩:=Io (es:=es) (k:=k) (d:=d)
  refine⟨fun e he=>?_,by rw[e1];exact h.nd,by rw[e2];exact h.bn,fun e he=>?_⟩
  ·have:=List.mem_map_of_mem (f:=fun x:Value×DV×Nat=>x.1) he
   rw[e1]at this
   obtain⟨y,hy,hye⟩:=List.mem_map.1 this
   rw[←hye];exact h.key y hy
  ·have:=List.mem_map_of_mem (f:=fun x:Value×DV×Nat=>x.2.2) he
   rw[e2]at this
   obtain⟨y,hy,hye⟩:=List.mem_map.1 this
   rw[←hye];exact h.lt y hy
 |none=>
  simp only[Option.isSome_none,Bool.false_eq_true,if_false]
  have hne:=rn.1 hg
  refine⟨fun e he=>?_,?_,?_,fun e he=>?_⟩
  ·rcases List.mem_append.1 he with he|he
   ·exact h.key e he
   ·rw[List.mem_singleton]at he;subst he;exact hk
  ·rw[List.map_append,List.nodup_append]
   refine⟨h.nd,by simp,fun a ha b hb=>?_⟩
   obtain⟨e,he,rfl⟩:=List.mem_map.1 ha
   simp only[List.map_cons,List.map_nil,List.mem_singleton]at hb
   rw[hb];exact hne e he
  ·rw[List.map_append,List.nodup_append]
   refine⟨h.bn,by simp,fun a ha b hb=>?_⟩
   obtain⟨e,he,rfl⟩:=List.mem_map.1 ha
   simp only[List.map_cons,List.map_nil,List.mem_singleton]at hb
   have:=h.lt e he
   omega
  ·rcases List.mem_append.1 he with he|he
   ·have:=h.lt e he;omega
   ·rw[List.mem_singleton]at he;subst he;exact Nat.lt_succ_self _
theorem Qi{kk:KK}{es:List (Value×DV×Nat)}{clk:Nat}(h:uh kk es clk)(k:Value):uh kk (CW es k) clk:=
 ⟨fun e he=>h.key e (List.mem_filter.1 he).1,h.nd.sublist ((List.filter_sublist (l:=es)).map _),h.bn.sublist ((List.filter_sublist (l:=es)).map _),fun e he=>h.lt e (List.mem_filter.1 he).1⟩
theorem iS.push{g:Gh}{es:List (Value×DV×Nat)}{es':List MapEntry}(r:iS g es es'){k:Value}{d:DV}{v:Value}{b:Nat}(hd:aK g d v):iS g (es++[(k,d,b)]) (es'++[{key:=k,val:=v,born:=b}]):=by
 refine⟨by simp[r.len],fun i x x' hx hx'=>?_⟩
 rcases Nat.lt_or_ge i es.length with h|h
 ·rw[List.getElem?_append_left h]at hx
  rw[List.getElem?_append_left (by rw[←r.len];exact h)]at hx'
  exact r.at_ i x x' hx hx'
 ·rw[List.getElem?_append_right h]at hx
  rw[List.getElem?_append_right (by rw[←r.len];exact h),←r.len]at hx'
  cases hi:i-es.length with
  |zero=>rw[hi]at hx hx';simp at hx hx';subst hx;subst hx';exact⟨rfl,hd,rfl⟩
  |succ n=>rw[hi]at hx;simp at hx
theorem iS.erase{g:Gh}{es:List (Value×DV×Nat)}{es':List MapEntry}(r:iS g es es')(hn:(es.map (·.1)).Nodup){j:Nat}{e:Value×DV×Nat}(hj:es[j]? =some e):iS g (CW es e.1) (es'.eraseIdx j):=by
 have he:CW es e.1=es.eraseIdx j:=by
  unfold CW
  clear r
  induction es generalizing j with
  |nil=>simp at hj
  |cons a es ih=>
   rw[List.map_cons,List.nodup_cons]at hn
   cases j with
   |zero=>
    simp at hj;subst hj
    rw[List.filter_cons,show @decide (a.1=a.1) (Classical.propDecidable _)=true from by simp]
    simp only[Bool.not_true,Bool.false_eq_true,if_false,List.eraseIdx_zero,List.tail_cons]
    refine List.filter_eq_self.2 fun x hx=>?_
    have:x.1≠a.1:=fun h=>hn.1 (by rw[←h];exact List.mem_map_of_mem (f:=fun y:Value×DV×Nat=>y.1) hx)
    simp[this]
   |succ j=>
    simp only[List.getElem?_cons_succ]at hj
    have hne:a.1≠e.1:=fun x=>hn.1 (by rw[x];exact List.mem_map_of_mem (f:=fun y:Value×DV×Nat=>y.1) (List.mem_of_getElem? hj))
    rw[List.filter_cons,show @decide (a.1=e.1) (Classical.propDecidable _)=false from by simp[hne]]
    simp only[Bool.not_false,if_true,List.eraseIdx_cons_succ]
    rw[ih hn.2 hj]
 rw[he]
 refine⟨by rw[List.length_eraseIdx,List.length_eraseIdx,r.len],fun i x x' hx hx'=>?_⟩
 rw[List.getElem?_eraseIdx]at hx hx'
 split at hx
 ·rename_i h;rw[if_pos h]at hx';exact r.at_ _ _ _ hx hx'
 ·rename_i h;rw[if_neg h]at hx';exact r.at_ _ _ _ hx hx'
def jX(m:Option (KK×DV))(S:St)(x y d:DV)(K:St→Prop):Prop:=oK m fun p=>oK (qh y) fun k=>isKey p.1 k=true∧shr S d fun d S=>(match x with
 | .mp l=>(match lk S.acc l with
  |some (.xo (.mp kk es clk))=>kk=p.1∧K ⟨S.box,up S.acc l (.xo (.mp kk (jO es clk k d) (qt es clk k)))⟩
  |_=>False)
 |_=>False)
theorem Bp{o:Oper}{t:TypeId}{x y z:Operand}(ho:o.op= .mapUpdate t x y z){ρD:Operand→DV}{S:St}{K:DV→St→Prop}(h0:jX (sB P t) S (ρD x) (ρD y) (ρD z) (K ud)):aj P w0 o ρD S K:=by
 intro g w ρ h1 h2 hcst
 have hx0:=h2 x (by simp[ho,Op.operands])
 have hy:=h2 y (by simp[ho,Op.operands])
 have hz:=h2 z (by simp[ho,Op.operands])
 unfold jX at h0
 cases hm:sB P t with
 |none=>rw[hm]at h0;exact h0.elim
 |some p=>
  obtain⟨kk,zz⟩:=p
  rw[hm]at h0
  cases hk:qh (ρD y)with
  |none=>rw[hk]at h0;exact h0.elim
  |some k=>
   rw[hk]at h0
   obtain⟨hkk,hA⟩:=h0
   have hyk:=tD hk hy
   obtain⟨kt,et,hu,L,hzd⟩:=si hm
   simp only at hkk hA
   obtain⟨g1,d,S1,le1,R1,hd,hB⟩:=mI h1 hz hA
   have hx:=hx0.mono le1
   clear hA
   split at hB
   ·rename_i l e
    rw[e]at hx
    obtain⟨b,hxb,hgb⟩:=tP hx
    split at hB
    ·rename_i kk' es clk hl
     obtain⟨hkke,hC⟩:=hB
     subst hkke
     obtain⟨b',o',q1,q2,⟨es',rfl,r,hok⟩,dE⟩:=R1.Kg hl
     rw[hgb]at q1;cases q1
     have hg:=MapKept.run_getObj_map (P:=P) q2
     have hm2:=Oi hok hkk d
     rcases r.found hok L hkk w with⟨f1,f2⟩|⟨j,e,e',f1,f2,f3,f4,f5,f6,f7,f8⟩
     ·obtain⟨s1,s2⟩:=kT (o':= .map (es'++[({key:=k,val:=ρ z,born:=clk}:MapEntry)]).toArray (clk+1)) q2
      have hrun:(execOp ρ o).run P w= .ok .skip {w with heap:=w.heap.setIfInBounds b (.map (es'++[({key:=k,val:=ρ z,born:=clk}:MapEntry)]).toArray (clk+1))}:=by
       simp[execOp,ho,Instr.mapUpdate,run_underlying hu,hxb,hyk,hg,L.check _ k w hkk,f1,MapKept.run_setObj_map _ q2]
      rw[hrun]
      have hsk:jO es clk k d=es++[(k,d,clk)]∧qt es clk k=clk+1:=by unfold jO qt;rw[f2];exact⟨rfl,rfl⟩
      rw[hsk.1,hsk.2]at hC hm2
      exact⟨g1,_,le1,dE (.mp kk' (es++[(k,d,clk)]) (clk+1)) _ _ ⟨_,rfl,r.push hd,hm2⟩ (fH _ _ _) s1 s2,hC⟩
     ·have hat:es'.toArray[j]? =some e':=by simpa using f2
      obtain⟨s1,s2⟩:=kT (o':= .map (es'.modify j fun x=>{x with key:=k,val:=ρ z}).toArray clk) q2
      have hrun:(execOp ρ o).run P w= .ok .skip {w with heap:=w.heap.setIfInBounds b (.map (es'.modify j fun x=>{x with key:=k,val:=ρ z}).toArray clk)}:=by
       simp[execOp,ho,Instr.mapUpdate,run_underlying hu,hxb,hyk,hg,L.check _ k w hkk,f1,f2,f5,L.stays k w hkk,MapKept.run_setObj_map _ q2]
      rw[hrun]
      have hsk:jO es clk k d=es.map (qu k d)∧qt es clk k=clk:=by unfold jO qt;rw[f8];exact⟨rfl,rfl⟩
      rw[hsk.1,hsk.2]at hC hm2
      have hr:=r.set hok.nd f3 hd
      rw[f4]at hr
      exact⟨g1,_,le1,dE (.mp kk' _ clk) _ _ ⟨_,rfl,hr,hm2⟩ (fH _ _ _) s1 s2,hC⟩
    ·exact hB.elim
   ·exact hB.elim
def jh(m:Option (KK×DV))(r:Option Operand)(S:St)(K:DV→St→Prop):Prop:=r=none∧oK m fun p=>∀l,jD S.acc l→K (.mp l) ⟨S.box,(l,.xo (.mp p.1 [] 0))::S.acc⟩
theorem Gc{o:Oper}{t:TypeId}{r:Option Operand}(ho:o.op= .makeMap t r){ρD:Operand→DV}{S:St}{K:DV→St→Prop}(h:jh (sB P t) r S K):aj P w0 o ρD S K:=by
 intro g w ρ h1 h2 hcst
 obtain⟨rfl,h⟩:=h
 cases hm:sB P t with
 |none=>rw[hm]at h;exact h.elim
 |some p=>
  obtain⟨kk,zz⟩:=p
  rw[hm]at h
  have hrun:(execOp ρ o).run P w= .ok (.value (.map (some w.heap.size))) (w.alloc (.map #[] 0)):=by
   simp[execOp,ho,Instr.makeMap]
  rw[hrun]
  obtain⟨l,g',hle,hne,hR,ha⟩:=h1.VG (f:= .mp kk [] 0) (dz w (.map #[] 0)) (Nat.le_refl _) (heap_alloc_new w _) ⟨[],rfl,⟨rfl,fun i e e' h=>by simp at h⟩,⟨fun e he=>(by cases he),by simp,by simp,fun e he=>(by cases he)⟩⟩
  exact⟨g',_,_,hle,hR,.mp l _ ha,h l (dn hne)⟩
def oO(m:Option (KK×DV))(S:St)(x y:DV)(K:St→Prop):Prop:=oK m fun p=>oK (qh y) fun k=>isKey p.1 k=true∧(match x with
 | .mp l=>(match lk S.acc l with
  |some (.xo (.mp kk es clk))=>kk=p.1∧K ⟨S.box,up S.acc l (.xo (.mp kk (CW es k) clk))⟩
  |_=>False)
 |_=>False)
theorem JY{o:Oper}{t t':TypeId}{x y:Operand}(ho:o.op= .call {callee:= .builtin .delete,args:= #[x,y],argTypes:= #[t,t']}){ρD:Operand→DV}{S:St}{K:DV→St→Prop}(h0:oO (sB P t) S (ρD x) (ρD y) (K ud)):aj P w0 o ρD S K:=by
 intro g w ρ h1 h2 hcst
 have hx:=h2 x (by simp[ho,Op.operands,Call.operands])
 have hy:=h2 y (by simp[ho,Op.operands,Call.operands])
 unfold oO at h0
 cases hm:sB P t with
 |none=>rw[hm]at h0;exact h0.elim
 |some p=>
  obtain⟨kk,zz⟩:=p
  rw[hm]at h0
  cases hk:qh (ρD y)with
  |none=>rw[hk]at h0;exact h0.elim
  |some k=>
   rw[hk]at h0
   obtain⟨hkk,hB⟩:=h0
   have hyk:=tD hk hy
   obtain⟨kt,et,hu,L,hzd⟩:=si hm
   simp only at hkk hB
   split at hB
   ·rename_i l e
    rw[e]at hx
    obtain⟨b,hxb,hgb⟩:=tP hx
    split at hB
    ·rename_i kk' es clk hl
     obtain⟨hkke,hC⟩:=hB
     subst hkke
     obtain⟨b',o',q1,q2,⟨es',rfl,r,hok⟩,dE⟩:=h1.Kg hl
     rw[hgb]at q1;cases q1
     have hg:=MapKept.run_getObj_map (P:=P) q2
     have hm2:=Qi hok k
     rcases r.found hok L hkk w with⟨f1,f2⟩|⟨j,e,e',f1,f2,f3,f4,f5,f6,f7,f8⟩
     ·obtain⟨s1,s2⟩:=kT (o':= .map es'.toArray clk) q2
      have hrun:(execOp ρ o).run P w= .ok (.value (.tuple #[])) {w with heap:=w.heap.setIfInBounds b (.map es'.toArray clk)}:=by
       simp[execOp,ho,resolve,invoke,builtin,Builtin.delete_,run_underlying hu,hxb,hyk,hg,L.check _ k w hkk,f1,MapKept.run_setObj_map _ q2]
      rw[hrun]
      have hd:CW es k=es:=by
       unfold CW
       refine List.filter_eq_self.2 fun e he=>?_
       have:=rn.1 f2 e he
       simp[this]
      rw[hd]at hC
      exact⟨g,_,_,.refl g,dE (.mp kk' es clk) _ _ ⟨_,rfl,r,hok⟩ (fH _ _ _) s1 s2,.bD [] [] rfl (by intro i d u h;simp at h),hC⟩
     ·obtain⟨s1,s2⟩:=kT (o':= .map (es'.eraseIdx j).toArray clk) q2
      have hlt:j<es'.length:=(List.getElem?_eq_some_iff.1 f2).1
      have her:es'.toArray.eraseIdxIfInBounds j=(es'.eraseIdx j).toArray:=by simp
      have hrun:(execOp ρ o).run P w= .ok (.value (.tuple #[])) {w with heap:=w.heap.setIfInBounds b (.map (es'.eraseIdx j).toArray clk)}:=by
       simp[execOp,ho,resolve,invoke,builtin,Builtin.delete_,run_underlying hu,hxb,hyk,hg,L.check _ k w hkk,f1,MapKept.run_setObj_map _ q2,her]
      rw[hrun]
      have hr:=r.erase hok.nd f3
      rw[f4]at hr
      exact⟨g,_,_,.refl g,dE (.mp kk' _ clk) _ _ ⟨_,rfl,hr,hm2⟩ (fH _ _ _) s1 s2,.bD [] [] rfl (by intro i d u h;simp at h),hC⟩
    ·exact hB.elim
   ·exact hB.elim
def xg(m:Option (KK×DV))(S:St)(x:DV)(K:DV→St→Prop):Prop:=m.isSome=true∧(match x with
 | .mp l=>(match lk S.acc l with
  |some (.xo (.mp kk es clk))=>∀l',jD S.acc l'→K (.it l') ⟨S.box,(l',.xo (.it l clk [] clk))::S.acc⟩
  |_=>False)
 |_=>False)
theorem Oq{o:Oper}{t:TypeId}{x:Operand}(ho:o.op= .range t x){ρD:Operand→DV}{S:St}{K:DV→St→Prop}(h:xg (sB P t) S (ρD x) K):aj P w0 o ρD S K:=by
 intro g w ρ h1 h2 hcst
 have hx:=h2 x (by simp[ho,Op.operands])
 obtain⟨hm,h⟩:=h
 obtain⟨p,hm⟩:=Option.isSome_iff_exists.1 hm
 obtain⟨kt,et,hu,L,hzd⟩:=si (kk:=p.1) (z:=p.2) hm
 split at h
 ·rename_i l e
  rw[e]at hx
  obtain⟨b,hxb,hgb⟩:=tP hx
  split at h
  ·rename_i kk es clk hl
   obtain⟨b',o',q1,q2,es',rfl,r,hok⟩:=h1.Jw hl
   rw[hgb]at q1;cases q1
   have hg:=MapKept.run_getObj_map (P:=P) q2
   have hrun:(execOp ρ o).run P w= .ok (.value (.pointer (some ⟨w.heap.size,0,none⟩))) (w.alloc (.mapIter (some b) clk #[] clk)):=by
    simp[execOp,ho,Instr.range,run_underlying hu,hxb,hg]
   rw[hrun]
   obtain⟨l',g',hle,hne,hR,ha⟩:=h1.VG (f:= .it l clk [] clk) (dz w (.mapIter (some b) clk #[] clk)) (Nat.le_refl _) (heap_alloc_new w _) ⟨b,rfl,hgb⟩
   exact⟨g',_,_,hle,hR,.it l' _ ha,h l' (dn hne)⟩
  ·exact h.elim
 ·exact h.elim
def EM(S:St)(x:DV)(s:Bool)(K:DV→St→Prop):Prop:=s=false∧(match x with
 | .it l=>(match lk S.acc l with
  |some (.xo (.it m since seen last))=>(match lk S.acc m with
   |some (.xo (.mp kk es clk))=>clk=since∧last=since∧((∀e,e∈es→e.2.2∈seen)→K (.bD [.v (.bool false)]) S)∧∀e,e∈es→e.2.2∉seen→K (.bD [.v (.bool true),kD e.1,e.2.1]) ⟨S.box,up S.acc l (.xo (.it m since (seen++[e.2.2]) since))⟩
   |_=>False)
  |_=>False)
 |_=>False)
theorem T0{o:Oper}{x:Operand}{s:Bool}(ho:o.op= .next x s){ρD:Operand→DV}{S:St}{K:DV→St→Prop}(h:EM S (ρD x) s K):aj P w0 o ρD S K:=by
 intro g w ρ h1 h2 hcst
 have hx:=h2 x (by simp[ho,Op.operands])
 obtain⟨rfl,h⟩:=h
 split at h
 ·rename_i l e
  rw[e]at hx
  obtain⟨r0,hxb,hgb⟩:=MX hx
  split at h
  ·rename_i m since seen last hl
   split at h
   ·rename_i kk es clk hlm
    obtain⟨hc1,hc2,hA,hB⟩:=h
    subst hc1
    have hc3:=hc2.symm
    subst hc3
    obtain⟨b',o',q1,q2,⟨bm,rfl,hbm⟩,dE⟩:=h1.Kg hl
    rw[hgb]at q1;cases q1
    obtain⟨b2,o2,p1,p2,es',rfl,r,hok⟩:=h1.Jw hlm
    rw[hbm]at p1;cases p1
    have hold:∀y∈es'.toArray.toList,y.born<clk:=fun y hy=>by
     obtain⟨j,hj⟩:=List.mem_iff_getElem?.1 (by simpa using hy)
     obtain⟨e,he,_,_,h3⟩:=r.get hj
     rw[h3];exact hok.lt e (List.mem_of_getElem? he)
    rcases run_next_at (P:=P) w o.type r0 bm clk clk seen.toArray es'.toArray clk q2 p2 hold (Nat.le_refl _)with⟨n1,n2⟩|⟨e',he',w1,hw1,n2⟩
    ·have hrun:(execOp ρ o).run P w= .ok (.value (.tuple #[.bool false])) w:=by simp[execOp,ho,hxb,n2]
     rw[hrun]
     refine⟨g,_,_,.refl g,h1,.bD [.v (.bool false)] [.bool false] rfl (fun i d u a b=>by cases i <;>simp at a b;subst a;subst b;exact .v _ rfl),hA fun e he=>?_⟩
     obtain⟨j,hj⟩:=List.mem_iff_getElem?.1 he
     obtain⟨e',he',_,_,h3⟩:=r.get' hj
     have hl:=Array.eq_empty_of_size_eq_zero n1
     unfold leftOf at hl
     rw[Array.filter_eq_empty_iff]at hl
     have:=hl e' (by simpa using List.mem_of_getElem? he')
     rw[←h3]
     simpa using this
    ·unfold leftOf at he'
     have he2:e'∈es'∧e'.born∉seen:=by simpa using he'
     obtain⟨j,hj⟩:=List.mem_iff_getElem?.1 he2.1
     obtain⟨e,he,k1,k2,k3⟩:=r.get hj
     have hem:=List.mem_of_getElem? he
     have hrun:(execOp ρ o).run P w= .ok (.value (.tuple #[.bool true,e'.key,e'.val])) (ChangeMaps.setBlock w1 r0 (.mapIter (some bm) clk (seen.toArray.push e'.born) clk)):=by simp[execOp,ho,hxb,n2]
     rw[hrun]
     have hw:w1.heap=w.heap∧j6 r0 w (ChangeMaps.setBlock w1 r0 (.mapIter (some bm) clk (seen.toArray.push e'.born) clk)):=by
      rcases hw1 with rfl|rfl
      ·exact⟨rfl,fH _ _ _⟩
      ·exact⟨rfl,((j6.refl r0 w).drew).trans (fH w.drew r0 _)⟩
     have hh:∀(o':Obj),(ChangeMaps.setBlock w1 r0 o').heap=w.heap.setIfInBounds r0 o':=fun o'=>by show w1.heap.setIfInBounds r0 o'=_;rw[hw.1]
     obtain⟨s1,s2⟩:=MapKept.heap_set (o':= .mapIter (some bm) clk (seen.toArray.push e'.born) clk) q2
     refine⟨g,_,_,.refl g,dE (.it m clk (seen++[e.2.2]) clk) (.mapIter (some bm) clk (seen.toArray.push e'.born) clk) _ ⟨bm,by rw[k3];simp,hbm⟩ hw.2 (by rw[hh];exact s1) (fun i hi=>by rw[hh];exact s2 i hi),?_,hB e hem (by rw[←k3];exact he2.2)⟩
     refine .bD [.v (.bool true),kD e.1,e.2.1] [.bool true,e'.key,e'.val] rfl fun i d u a b=>?_
     match i with
     |0=>simp at a b;subst a;subst b;exact .v _ rfl
     |1=>simp at a b;subst a;subst b;rw[k1];exact Je (hok.key e hem)
     |2=>simp at a b;subst a;subst b;exact k2
     |n+3=>simp at a
   ·exact h.elim
  ·exact h.elim
 ·exact h.elim
def uE(S:St)(x:DV)(K:DV→Prop):Prop:=match x with
 | .it l=>(match lk S.acc l with
  |some (.xo (.it m since seen last))=>(match lk S.acc m with
   |some (.xo (.mp kk es clk))=>clk=last∧∃e,e∈es∧(∃s0,seen=s0++[e.2.2])∧K (.bD [kD e.1,e.2.1])
   |_=>False)
  |_=>False)
 |_=>False
theorem Og{o:Oper}{x:Operand}(ho:o.op= .entry x){ρD:Operand→DV}{S:St}{K:DV→St→Prop}(h:uE S (ρD x) (K · S)):aj P w0 o ρD S K:=by
 refine bI fun g w ρ h1 h2=>?_
 have hx:=h2 x (by simp[ho,Op.operands])
 unfold uE at h
 split at h
 ·rename_i l e
  rw[e]at hx
  obtain⟨r0,hxb,hgb⟩:=MX hx
  split at h
  ·rename_i m since seen last hl
   split at h
   ·rename_i kk es clk hlm
    obtain⟨rfl,e,hem,⟨s0,rfl⟩,hK⟩:=h
    obtain⟨b',o',q1,q2,bm,rfl,hbm⟩:=h1.Jw hl
    rw[hgb]at q1;cases q1
    obtain⟨b2,o2,p1,p2,es',rfl,r,hok⟩:=h1.Jw hlm
    rw[hbm]at p1;cases p1
    obtain⟨j,hj⟩:=List.mem_iff_getElem?.1 hem
    obtain⟨e',he',k1,k2,k3⟩:=r.get' hj
    have hbn:(es'.toArray.toList.map (·.born)).Nodup:=by
     have:es'.toArray.toList.map (·.born)=es.map (·.2.2):=by
      refine List.ext_getElem? fun i=>?_
      rw[List.getElem?_map,List.getElem?_map]
      simp only
      cases hi:es'[i]? with
      |none=>
       have:es[i]? =none:=List.getElem?_eq_none (by rw[r.len];exact List.getElem?_eq_none_iff.1 hi)
       rw[this];rfl
      |some y=>obtain⟨z,hz,_,_,h3⟩:=r.get hi;rw[hz];simp[h3]
     rw[this];exact hok.bn
    have hrn:=run_entry_at (P:=P) w r0 bm since s0.toArray es'.toArray clk e' (by rw[q2,k3];simp) p2 (by simpa using List.mem_of_getElem? he') hbn
    refine⟨_,.tuple #[e'.key,e'.val],by simp[execOp,ho,hxb,hrn],?_,hK⟩
    refine .bD [kD e.1,e.2.1] [e'.key,e'.val] rfl fun i d u a b=>?_
    match i with
    |0=>simp at a b;subst a;subst b;rw[k1];exact Je (hok.key e hem)
    |1=>simp at a b;subst a;subst b;exact k2
    |n+2=>simp at a
   ·exact h.elim
  ·exact h.elim
 ·exact h.elim
end
/- The words as they are reckoned out. -/
def xK(o:Option Ob)(F:KK→List (Value×DV×Nat)→Nat→Prop):Prop:=match o with
 |some (.xo (.mp kk es clk))=>F kk es clk
 |_=>False
def iK(o:Option Ob)(F:Nat→Nat→List Nat→Nat→Prop):Prop:=match o with
 |some (.xo (.it m since seen last))=>F m since seen last
 |_=>False
def Uz(o:Option DV)(F:DV→Prop)(G:Prop):Prop:=match o with
 |some d=>F d
 |none=>G
def Y7(o:Option (List FK))(z:DV):Option (KK×DV):=match o with
 |some l=>(l3 l).map fun ks=>(.st ks,z)
 |none=>none
def W8(P:Program)(t:TypeId):TK→DV→Option (KK×DV)
 | .int k,z=>some (.int k,z)
 | .str,z=>some (.str,z)
 | .st _ _,z=>Y7 (BE P t) z
 |_,_=>none
def Yd(P:Program):TK→Option (KK×DV)
 | .map k e=>W8 P k (tk P k) (zD P e)
 |_=>none
theorem Wq(P:Program)(t:TypeId):sB P t=Yd P (tk P t):=by
 unfold sB Yd OA
 cases tk P t <;>try rfl
 rename_i k e
 simp only
 cases tk P k <;>try rfl
 simp only[W8,Y7]
 cases BE P k with
 |none=>rfl
 |some l=>
  show Option.map _ (Option.map _ (l3 l))=_
  rw[Option.map_map];rfl
theorem Wy(P:Program)(k e:Nat):Yd P (.map k e)=W8 P k (tk P k) (zD P e):=rfl
theorem FR(P:Program)(t:TypeId)(k:IntKind)(z:DV):W8 P t (.int k) z=some (.int k,z):=rfl
theorem K7(u:Value):qh (.v u)=some u:=rfl
theorem zo(k:IntKind)(a:Int):isKey (.int k) (.int k a)=true:=by simp[isKey]
theorem NT(d:DV)(b:Bool):Rl false d b=d:=rfl
theorem Yl(kk:KK)(es:List (Value×DV×Nat))(clk:Nat)(F:KK→List (Value×DV×Nat)→Nat→Prop):xK (some (.xo (.mp kk es clk))) F=F kk es clk:=rfl
theorem BM(d:DV)(F:DV→Prop)(G:Prop):Uz (some d) F G=F d:=rfl
theorem BX(F:DV→Prop)(G:Prop):Uz none F G=G:=rfl
section
variable (kk:KK) (z:DV) (S:St) (l:Nat) (y:DV)
theorem J5(ok:Bool)(K:DV→Prop):dv (some (kk,z)) S (.mp l) y ok K=(eL z=true∧oK (qh y) fun k=>isKey kk k=true∧xK (lk S.acc l) fun kk' es clk=>kk'=kk∧Uz (iE es k) (fun d=>K (Rl ok d true)) (K (Rl ok z false))):=by
 unfold dv
 simp only[oK,xK,Uz]
theorem J0(d:DV)(K:St→Prop):jX (some (kk,z)) S (.mp l) y d K=(oK (qh y) fun k=>isKey kk k=true∧shr S d fun d S=>xK (lk S.acc l) fun kk' es clk=>kk'=kk∧K ⟨S.box,up S.acc l (.xo (.mp kk' (jO es clk k d) (qt es clk k)))⟩):=by
 unfold jX
 simp only[oK,xK]
end
end Aml
namespace Aml
open Go Go.RowKit
section
variable {P:Program} {w0:W0}
def ct(ds:List DV)(o:Nat)(cs:List DV):List DV:=ds.take o++cs++ds.drop (o+cs.length)
theorem yG{g:Gh}{S:St}{w:World}(h:Rel w0 g S w){b o:Nat}{ds cs:List DV}(hb:lk S.box b=some ds){vs:List Value}(hr:ai g cs vs)(h1:∀v,v∈vs→v.oneCell'=true)(hle:o+cs.length≤ds.length):
 ∃w',(storeCells ⟨b,o,none⟩ vs).run P w= .ok () w'∧Rel w0 g ⟨up S.box b (ct ds o cs),S.acc⟩ w':=by
 obtain⟨us,e,hh,hru,hone,dE⟩:=h.JF (ds':=ct ds o cs) hb
 have hl:vs.length=cs.length:=hr.len.symm
 have hul:us.toList.length=ds.length:=hru.len.symm
 have hst:=run_storeCells_at (P:=P) b o e vs 0 us w hh (by simp at hul;omega) h1
 simp only[Nat.add_zero]at hst
 refine⟨_,hst,dE _ ?_ ?_⟩
 ·unfold ct
  rw[List.toList_toArray,hl]
  exact((hru.take o).append hr).append (hru.drop _)
 ·intro u hu
  rw[List.toList_toArray]at hu
  rcases List.mem_append.1 hu with hu|hu
  ·rcases List.mem_append.1 hu with hu|hu
   ·exact hone u (List.mem_of_mem_take hu)
   ·exact h1 u hu
  ·exact hone u (List.mem_of_mem_drop hu)
theorem so{g:Gh}{S:St}{w:World}(h:Rel w0 g S w){b o m s:Nat}{ds:List DV}(hb:lk S.box b=some ds)(hle:o+m*s≤ds.length):
 ∃vs,ai g ((ds.drop o).take (m*s)) vs∧(∀v,v∈vs→v.oneCell'=true)∧vs.length=m*s∧∀w',(∀p,w'.cell? p=w.cell? p)→∀n c,(Builtin.firstCells s m (.slice (some ⟨b,o,none⟩) n c)).run P w'= .ok vs.toArray w':=by
 obtain⟨_,_,us,e,hh,hru,hone⟩:=h.xG hb
 have hul:us.toList.length=ds.length:=hru.len.symm
 refine⟨(us.toList.drop o).take (m*s),(hru.drop o).take _,fun v hv=>hone v (List.mem_of_mem_drop (List.mem_of_mem_take hv)),by simp at hul ⊢;omega,fun w' hw' n c=>?_⟩
 refine run_firstCells_some (P:=P) w' s m _ n c _ (by simp at hul ⊢;omega) fun j v hj=>?_
 rw[List.getElem?_take]at hj
 split at hj
 ·rw[List.getElem?_drop]at hj
  rw[hw',add_plain,cL hh]
  simpa using hj
 ·cases hj
theorem nA{g:Gh}:∀{ys:List DV} {us:List Value},ai g ys us→(∀d,d∈ys→eL d=true)→ai g (ys.flatMap cd) (fl us)
 |[],us,h,_=>by
  have:us=[]:=List.eq_nil_of_length_eq_zero (by have:=h.len;simpa using this.symm)
  subst this;exact ai.nil g
 |d::ys,us,h,ho=>by
  obtain⟨u,us',rfl,r1,r2⟩:=h.bP
  have:=(r1.cells (ho d List.mem_cons_self)).append (nA r2 fun x hx=>ho x (List.mem_cons_of_mem _ hx))
  simpa[fl]using this
def uu:DV→Bool
 | .v (.slice (some _) _ _)=>true
 |_=>false
def pd(k:TK)(S:St)(x y:DV)(K:DV→St→Prop):Prop:=match k,x with
 | .sl e s by' true,.v (.slice (some ⟨b,o,none⟩) n c)=>(match lk S.box b with
  |some ds=>o+n*s≤ds.length∧(match y with
   | .v (.slice (some ⟨b2,o2,none⟩) m c2)=>(match lk S.box b2 with
    |some es=>o2+m*s≤es.length∧K (.v (.int .i64 (min m n:Nat))) ⟨up S.box b (ct ds o ((es.drop o2).take (min m n*s))),S.acc⟩
    |none=>False)
   |y=>fY S y fun s' ys=>(s'=s∨ys=[])∧(∀d,d∈ys→eL d=true)∧ys.length≤n∧K (.v (.int .i64 ys.length)) ⟨up S.box b (ct ds o (ys.flatMap cd)),S.acc⟩)
  |none=>False)
 |_,_=>False
theorem R8{o:Oper}{t t':TypeId}{x y:Operand}(ho:o.op= .call {callee:= .builtin .copy,args:= #[x,y],argTypes:= #[t,t']}){ρD:Operand→DV}{S:St}{K:DV→St→Prop}
 (h:pd (tk P t) S (ρD x) (ρD y) K):aj P w0 o ρD S K:=by
 intro g w ρ h1 h2 hcst
 have hx:=h2 x (by simp[ho,Op.operands,Call.operands])
 have hy:=h2 y (by simp[ho,Op.operands,Call.operands])
 unfold pd at h
 split at h
 ·rename_i e s by' b of n c hk hxe
  rw[hxe]at hx
  have hxv:=ay hx
  obtain⟨hu,hcs,_,hei⟩:=eC hk
  obtain⟨ti,z,hi,hz,hzs,hpos⟩:=cB hei
  have his:ti.size=s:=by simpa[Program.cellsOf,hi]using hcs
  split at h
  ·rename_i ds hb
   obtain⟨hle,h⟩:=h
   have fin:∀(m k:Nat) (vs:List Value) (cs:List DV),k=min m n→(Builtin.lenOf (ρ y)).run P w= .ok m w→(Builtin.firstCells s k (ρ y)).run P w= .ok vs.toArray w→ai g cs vs→(∀v,v∈vs→v.oneCell'=true)→vs.length=k*s→
    K (.v (.int .i64 k)) ⟨up S.box b (ct ds of cs),S.acc⟩→
    match(execOp ρ o).run P w with
    | .ok (.value u) w'=>∃g' d S',g.le g'∧Rel w0 g' S' w'∧aK g' d u∧K d S'
    | .ok .skip w'=>∃g' S',g.le g'∧Rel w0 g' S' w'∧K ud S'
    | .ok (.enter f args) w'=>Calls P f args w' fun e w''=>∃r g' d S',e= .returned r∧g.le g'∧Rel w0 g' S' w''∧aK g' d r∧K d S'
    | .ok (.round l f tmps assign body) w'=>∀ro,RoundIn (fz ro) 0 P l f tmps assign body w' fun e w''=>∃r g' d S',e= .returned r∧g.le g'∧Rel w0 g' S' w''∧aK g' d r∧K d S'
    |_=>False:=by
    intro m k vs cs hkm hl hf hr hone hvl hK
    have hkn:k*s≤n*s:=Nat.mul_le_mul_right s (by omega)
    obtain⟨w',e1,e2⟩:=yG (P:=P) h1 hb (o:=of) hr hone (by have:=hr.len;omega)
    have hmn:Nat.min m n=k:=hkm.symm
    have:(execOp ρ o).run P w= .ok (.value (.int .i64 k)) w':=by
     simp[execOp,ho,resolve,invoke,builtin,hxv,Builtin.copy_,run_underlying hu,hl,hmn,Go.sizeOf,typeInfo,hi,his,hf,e1,goInt]
    rw[this]
    exact⟨g,_,_,.refl g,e2,.v _ rfl,hK⟩
   split at h
   ·rename_i b2 o2 m c2 hye
    rw[hye]at hy
    have hyv:=ay hy
    split at h
    ·rename_i es hb2
     obtain⟨hle2,hK⟩:=h
     have hmn:min m n*s≤m*s:=Nat.mul_le_mul_right s (Nat.min_le_left _ _)
     obtain⟨vs,r1,r2,r3,r4⟩:=so (P:=P) (o:=o2) (m:=min m n) (s:=s) h1 hb2 (by omega)
     exact fin m (min m n) vs _ rfl (by rw[hyv];rfl) (by rw[hyv];exact r4 w (fun _=>rfl) m c2) r1 r2 r3 hK
    ·exact h.elim
   ·obtain⟨s2,ys,vs,⟨hs2,hok,hlen,hK⟩,hv,hvz,hv1,hlx,hfx⟩:=yL (P:=P) h1 hy h
    have hvz':∀(i:Nat) (u:Value),vs[i]? =some u→u.cells.size=s:=by
     rcases hs2 with rfl|rfl
     ·exact hvz
     ·have:vs=[]:=List.eq_nil_of_length_eq_zero hv.len.symm
      subst this;simp
    exact fin ys.length ys.length (fl vs) _ (by omega) (hlx w) (hfx w (fun _=>rfl) s (hs2.imp Eq.symm id)) (nA hv hok) (qH hv1) (by rw[gZ hvz',hv.len]) hK
  ·exact h.elim
 ·exact h.elim
def wg(S:St)(s:Nat)(ds:List DV)(o b n:Nat)(y:DV)(K:DV→St→Prop):Prop:=match y with
 | .v (.slice (some ⟨b2,o2,none⟩) m c2)=>oK (lk S.box b2) fun es=>o2+m*s≤es.length∧K (.v (.int .i64 (min m n:Nat))) ⟨up S.box b (ct ds o ((es.drop o2).take (min m n*s))),S.acc⟩
 |y=>fY S y fun s' ys=>(s'=s∨ys=[])∧(∀d,d∈ys→eL d=true)∧ys.length≤n∧K (.v (.int .i64 ys.length)) ⟨up S.box b (ct ds o (ys.flatMap cd)),S.acc⟩
def iQ(z:DV)(n:Nat):List DV:=(List.replicate n (cd z)).flatten
theorem wq{z:DV}{s:Nat}(h:(cd z).length=s)(n:Nat):(iQ z n).length=n*s:=by
 unfold iQ
 induction n with
 |zero=>simp
 |succ n ih=>rw[List.replicate_succ,List.flatten_cons,List.length_append,ih,h,Nat.succ_mul];omega
theorem uc(z:Array Value)(n:Nat):(Builtin.zeroCells z (n+1)).toList=z.toList++(Builtin.zeroCells z n).toList:=by
 apply List.ext_getElem?
 intro k
 simp only[Builtin.zeroCells,Array.toList_map,Array.toList_range,List.getElem?_map]
 rcases Nat.lt_or_ge k z.size with hk|hk
 ·rw[List.getElem?_append_left (by simpa using hk),List.getElem?_range (by rw[Nat.succ_mul];omega)]
  simp[Nat.mod_eq_of_lt hk,hk]
 ·rw[List.getElem?_append_right (by simpa using hk)]
  simp only[Array.length_toList,List.getElem?_map]
  rcases Nat.lt_or_ge k ((n+1)*z.size)with h2|h2
  ·have h3:k-z.size<n*z.size:=by rw[Nat.succ_mul]at h2;omega
   rw[List.getElem?_range h2,List.getElem?_range h3]
   have e:k%z.size=(k-z.size)%z.size:=by
    conv=>lhs;rw[show k=(k-z.size)+z.size by omega,Nat.add_mod_right]
   simp only[Option.map_some,e]
  ·have h3:n*z.size≤k-z.size:=by rw[Nat.succ_mul]at h2;omega
   rw[List.getElem?_eq_none (by simpa using h2),List.getElem?_eq_none (by simpa using h3)]
theorem qi{g:Gh}{zd:DV}{z:Value}(hr:aK g zd z)(hok:eL zd=true):∀n,ai g (iQ zd n) (Builtin.zeroCells z.cells n).toList
 |0=>by simp[iQ,Builtin.zeroCells];exact ai.nil g
 |n+1=>by
  rw[uc]
  have e:iQ zd (n+1)=cd zd++iQ zd n:=by unfold iQ;rw[List.replicate_succ,List.flatten_cons]
  rw[e]
  exact(hr.cells hok).append (qi hr hok n)
def mw(k:TK)(z:DV)(S:St)(x:DV)(K:DV→St→Prop):Prop:=match k,x with
 | .sl e s by' true,.v (.slice (some ⟨b,o,none⟩) n c)=>(match lk S.box b with
  |some ds=>eL z=true∧o+n*s≤ds.length∧K ud ⟨up S.box b (ct ds o (iQ z n)),S.acc⟩
  |none=>False)
 | .map _ _,.mp l=>(match lk S.acc l with
  |some (.xo (.mp kk es clk))=>K ud ⟨S.box,up S.acc l (.xo (.mp kk [] clk))⟩
  |_=>False)
 |_,_=>False
theorem P2{o:Oper}{t:TypeId}{x:Operand}(ho:o.op= .call {callee:= .builtin .clear,args:= #[x],argTypes:= #[t]}){ρD:Operand→DV}{S:St}{K:DV→St→Prop}
 (h:mw (tk P t) (zD P (eG P t)) S (ρD x) K):aj P w0 o ρD S K:=by
 intro g w ρ h1 h2 hcst
 have hx:=h2 x (by simp[ho,Op.operands,Call.operands])
 unfold mw at h
 split at h
 ·rename_i e s by' b of n c hk hxe
  rw[hxe]at hx
  have hxv:=ay hx
  obtain⟨hu,hcs,_,hei⟩:=eC hk
  obtain⟨ti,z,hi,hz,hzs,hpos⟩:=cB hei
  have his:ti.size=s:=by simpa[Program.cellsOf,hi]using hcs
  have hel:eG P t=e:=by simp[eG,hk]
  have hzD:zD P (eG P t)=cv z:=by rw[hel];simp[zD,hi,hz]
  have hrz:aK g (zD P (eG P t)) z:=hzD▸jz g z
  split at h
  ·rename_i ds hb
   obtain⟨hok,hle,hK⟩:=h
   have hzl:(cd (zD P (eG P t))).length=s:=by
    have:=(hrz.cells hok).len
    rw[this];simp;omega
   obtain⟨w',e1,e2⟩:=yG (P:=P) h1 hb (o:=of) (qi hrz hok n) (cU (fi hei hi hz) n) (by rw[wq hzl];exact hle)
   have:(execOp ρ o).run P w= .ok (.value (.tuple #[])) w':=by
    cases n with
    |zero=>
     have hz0:(Builtin.zeroCells z.cells 0).toList=[]:=by simp[Builtin.zeroCells]
     rw[hz0]at e1
     simp[storeCells]at e1
     subst e1
     simp[execOp,ho,resolve,invoke,builtin,hxv,Builtin.clear_,run_underlying hu]
    |succ n=>simp[execOp,ho,resolve,invoke,builtin,hxv,Builtin.clear_,run_underlying hu,zeroValue,typeInfo,hi,hz,e1]
   rw[this]
   exact⟨g,_,_,.refl g,e2,jq g,hK⟩
  ·exact h.elim
 ·rename_i kt et l hk hxe
  rw[hxe]at hx
  obtain⟨b,hxb,hgb⟩:=tP hx
  have hu:P.underlying t=some (.map kt et):=by unfold tk at hk;split at hk <;>(try split at hk) <;>(try cases hk) <;>assumption
  split at h
  ·rename_i kk es clk hl
   obtain⟨b',o',q1,q2,⟨es',rfl,r,hok⟩,dE⟩:=h1.Kg hl
   rw[hgb]at q1;cases q1
   have hg:=MapKept.run_getObj_map (P:=P) q2
   obtain⟨s1,s2⟩:=kT (o':= .map #[] clk) q2
   have hrun:(execOp ρ o).run P w= .ok (.value (.tuple #[])) {w with heap:=w.heap.setIfInBounds b (.map #[] clk)}:=by
    simp[execOp,ho,resolve,invoke,builtin,Builtin.clear_,run_underlying hu,hxb,hg,MapKept.run_setObj_map _ q2]
   rw[hrun]
   exact⟨g,_,_,.refl g,dE (.mp kk [] clk) _ _ ⟨[],rfl,⟨rfl,fun i e e' h=>by simp at h⟩,⟨fun e he=>(by cases he),by simp,by simp,fun e he=>(by cases he)⟩⟩ (fH _ _ _) s1 s2,jq g,h⟩
  ·exact h.elim
 ·exact h.elim
end
end Aml
namespace Aml
open Go Go.RowKit
section
variable {P:Program} {w0:W0}
def oR(S:St)(s:Nat)(y:DV)(F:Nat→List DV→Prop):Prop:=match y with
 | .v (.slice (some ⟨b,o,none⟩) m c)=>(match lk S.box b with
  |some es=>o+m*s≤es.length∧F m ((es.drop o).take (m*s))
  |none=>False)
 |y=>fY S y fun s' ys=>(s'=s∨ys=[])∧(∀d,d∈ys→eL d=true)∧F ys.length (ys.flatMap cd)
theorem Nw{g:Gh}{S:St}{w:World}{s:Nat}{y:DV}{v:Value}{F:Nat→List DV→Prop}(h1:Rel w0 g S w)(hy:aK g y v)(h:oR S s y F):
 ∃m cs vs,F m cs∧ai g cs vs∧(∀u,u∈vs→u.oneCell'=true)∧vs.length=m*s∧(∀w',(Builtin.lenOf v).run P w'= .ok m w')∧∀w',(∀p,w'.cell? p=w.cell? p)→(Builtin.firstCells s m v).run P w'= .ok vs.toArray w':=by
 unfold oR at h
 split at h
 ·rename_i b o m c
  have hyv:=ay hy
  subst hyv
  split at h
  ·rename_i es hb
   obtain⟨hle,hF⟩:=h
   obtain⟨vs,r1,r2,r3,r4⟩:=so (P:=P) (o:=o) (m:=m) (s:=s) h1 hb hle
   exact⟨m,_,vs,hF,r1,r2,r3,fun w'=>rfl,fun w' hw'=>r4 w' hw' m c⟩
  ·exact h.elim
 ·obtain⟨s2,ys,vs,⟨hs2,hok,hF⟩,hv,hvz,hv1,hlx,hfx⟩:=yL (P:=P) h1 hy h
  have hvz':∀(i:Nat) (u:Value),vs[i]? =some u→u.cells.size=s:=by
   rcases hs2 with rfl|rfl
   ·exact hvz
   ·have:vs=[]:=List.eq_nil_of_length_eq_zero hv.len.symm
    subst this;simp
  exact⟨ys.length,_,fl vs,hF,nA hv hok,qH hv1,by rw[gZ hvz',hv.len],hlx,fun w' hw'=>hfx w' hw' s (hs2.imp Eq.symm id)⟩
def rJ(k k2:TK)(S:St)(x y:DV)(K:DV→St→Prop):Prop:=match k,x with
 | .sl e s by' true,.v (.slice (some ⟨b,o,none⟩) n c)=>(match lk S.box b with
  |some ds=>ov k2=true∧o+c*s≤ds.length∧n≤c∧oR S s y fun m cs=>
   (n+m≤c→K (.v (.slice (some ⟨b,o,none⟩) (n+m) c)) ⟨up S.box b (ct ds (o+n*s) cs),S.acc⟩)∧
   (c<n+m→(n+m)*by'≤140737488355328∧n+m≤maxLen∧∀C,n+m≤C→C≤maxLen→∀b2,jD S.box b2→
    K (.v (.slice (some ⟨b2,0,none⟩) (n+m) C)) ⟨(b2,(ds.drop o).take (n*s)++cs++List.replicate ((C-(n+m))*s) .any)::S.box,S.acc⟩)
  |none=>False)
 |_,_=>False
theorem qL(g:Gh)(us:List Value):ai g (List.replicate us.length .any) us:=⟨by simp,fun i d u a _=>by
 rw[List.getElem?_replicate]at a
 split at a
 ·cases a;exact .any u
 ·cases a⟩
theorem SQ{o:Oper}{t t':TypeId}{x y:Operand}(ho:o.op= .call {callee:= .builtin .append,args:= #[x,y],argTypes:= #[t,t']}){ρD:Operand→DV}{S:St}{K:DV→St→Prop}
 (h:rJ (tk P t) (tk P t') S (ρD x) (ρD y) K):aj P w0 o ρD S K:=by
 intro g w ρ h1 h2 hcst
 have hx:=h2 x (by simp[ho,Op.operands,Call.operands])
 have hy:=h2 y (by simp[ho,Op.operands,Call.operands])
 unfold rJ at h
 split at h
 ·rename_i e s by' b of n c hk hxe
  rw[hxe]at hx
  have hxv:=ay hx
  obtain⟨hu,hcs,hbs,hei⟩:=eC hk
  obtain⟨ti,z,hi,hz,hzs,hpos⟩:=cB hei
  have his:ti.size=s:=by simpa[Program.cellsOf,hi]using hcs
  have hib:ti.bytes=by':=by simpa[Program.bytesOf,hi]using hbs
  split at h
  ·rename_i ds hb
   obtain⟨hni,hle,hnc,h⟩:=h
   obtain⟨d',hu',hd'⟩:=vI hni
   obtain⟨m,cs,vs,⟨hfit,hgrow⟩,r1,r2,r3,r4,r5⟩:=Nw (P:=P) h1 hy h
   have hx':(Builtin.firstCells ti.size m (ρ y)).run P w= .ok vs.toArray w:=by rw[his];exact r5 w fun _=>rfl
   rcases Nat.lt_or_ge c (n+m)with hcm|hcm
   ·obtain⟨hby,hmx,hK⟩:=hgrow hcm
    have hns:of+n*s≤ds.length:=by have:=Nat.mul_le_mul_right s hnc;omega
    obtain⟨os,q1,q2,q3,q4⟩:=so (P:=P) (o:=of) (m:=n) (s:=s) h1 hb hns
    have hr:=As (w:=w) (ty:=o.type) (base:=some ⟨b,of,none⟩) (n:=n) (c:=c) hu hu' hd' hi hz (r4 w) (by rw[his];exact q4 w.drew (fun _=>rfl) n c) (by rw[his];exact r5 w.drew fun _=>rfl) hcm hmx (by rw[hib];exact hby)
    have hcap:=grownCap_ge w (n+m) c e
    have hcmx:=grownCap_le_maxLen w (n+m) c e hmx
    generalize grownCap w (n+m) c e=C at*
    have hzl:(Builtin.zeroCells z.cells (C-(n+m))).toList.length=(C-(n+m))*s:=by rw[Array.length_toList,size_zeroCells,hzs,his]
    obtain⟨hne,hR⟩:=h1.xq (w':=w.drew.alloc (.cells (os.toArray++vs.toArray++Builtin.zeroCells z.cells (C-(n+m))) e)) ((j6.refl _ _).drew.alloc (by simp) _) (b:=w.heap.size) (Nat.le_refl _) (heap_alloc_new w.drew _)
     (ds:=(ds.drop of).take (n*s)++cs++List.replicate ((C-(n+m))*s) .any)
     (by
      simp only[Array.toList_append,List.toList_toArray]
      rw[←hzl]
      exact(q1.append r1).append (qL g _))
     (by
      intro u hu
      simp only[Array.toList_append,List.mem_append,List.toList_toArray]at hu
      rcases hu with(hu|hu)|hu
      ·exact q2 u hu
      ·exact r2 u hu
      ·exact cU (fi hei hi hz) _ u hu)
    have:(execOp ρ o).run P w= .ok (.value (.slice (some ⟨w.heap.size,0,none⟩) (n+m) C)) (w.drew.alloc (.cells (os.toArray++vs.toArray++Builtin.zeroCells z.cells (C-(n+m))) e)):=by
     simp[execOp,ho,resolve,invoke,builtin,hxv,hr]
    rw[this]
    exact⟨g,_,_,.refl g,hR,.v _ rfl,hK C hcap hcmx _ (dn hne)⟩
   ·have hK:=hfit hcm
    have hroom:of+n*s+cs.length≤ds.length:=by
     have h3:=Nat.mul_le_mul_right s hcm
     rw[Nat.add_mul]at h3
     have:=r1.len
     omega
    obtain⟨w',e1,e2⟩:=yG (P:=P) h1 hb (o:=of+n*s) r1 r2 hroom
    have hr:=yI (w:=w) (ty:=o.type) (base:=some ⟨b,of,none⟩) (n:=n) (c:=c) hu hu' hd' hi (r4 w) hx' hcm
    simp only[add_plain,his,e1]at hr
    have:(execOp ρ o).run P w= .ok (.value (.slice (some ⟨b,of,none⟩) (n+m) c)) w':=by
     simp[execOp,ho,resolve,invoke,builtin,hxv,hr]
    rw[this]
    exact⟨g,_,_,.refl g,e2,.v _ rfl,hK⟩
  ·exact h.elim
 ·exact h.elim
def rH(k:TK)(z:DV)(S:St)(x y:DV)(K:DV→St→Prop):Prop:=match k,x,y with
 | .sl e s by' true,.v (.slice (some ⟨b,o,none⟩) n c),.v (.int _ m)=>(match lk S.box b with
  |some ds=>eL z=true∧o+c*s≤ds.length∧n≤c∧0<m∧c<n+m.toNat∧(n+m.toNat)*by'≤140737488355328∧n+m.toNat≤maxLen∧∀C,n+m.toNat≤C→C≤maxLen→∀b2,jD S.box b2→
   K (.v (.slice (some ⟨b2,0,none⟩) (n+m.toNat) C)) ⟨(b2,(ds.drop o).take (n*s)++iQ z m.toNat++List.replicate ((C-(n+m.toNat))*s) .any)::S.box,S.acc⟩
  |none=>False)
 |_,_,_=>False
theorem GI{w:World}{t t' ty e:TypeId}{k':IntKind}{i:TypeInfo}{z:Value}(ht:P.underlying t=some (.slice e))(ht':P.underlying t'=some (.int k'))(hi:P.info? e=some i)(hz:i.zero=some z)(hpos:0<i.size)
 {base:Option Addr} {k:IntKind} {n c m:Nat} {old:Array Value} (ho:(Builtin.firstCells i.size n (.slice base n c)).run P w.drew= .ok old w.drew) (h0:0<m) (hg:c<n+m) (h63:n+m≤maxLen) (hby:(n+m)*i.bytes≤140737488355328):
 (Builtin.append_ #[t,t'] ty #[.slice base n c,.int k m]).run P w= .ok (.slice (some ⟨w.heap.size,0,none⟩) (n+m) (grownCap w (n+m) c e))
  (w.drew.alloc (.cells (old++Builtin.zeroCells z.cells m++Builtin.zeroCells z.cells (grownCap w (n+m) c e-(n+m))) e)):=by
 have hw:IntKind.i64.wrap (m:Int)=m:=aX (by omega) (by unfold maxLen at h63;omega)
 have c1:¬((m:Int)<0):=by omega
 have hmb:m*i.bytes≤140737488355328:=by rw[Nat.add_mul]at hby;omega
 have hbi:(m:Int)*i.bytes≤140737488355328:=by rw[←Int.natCast_mul];omega
 have c2:¬(281474976710656<(m:Int)*(i.bytes:Int)):=by omega
 have c3:¬(m*i.size=0):=by
  intro h
  rcases Nat.mul_eq_zero.1 h with h|h <;>omega
 have c4:¬(9223372036854775807<((n:Int)+(m:Int))):=by unfold maxLen at h63;omega
 have hfit:=growslice_fits (need:=n+m) (old:=c) (bytes:=i.bytes) hg hby
 have c5:¬(281474976710656<Builtin.nextslicecap (n+m) c*i.bytes):=by omega
 have c6:¬(n+m≤c):=by omega
 have c7:¬(i.size=0):=by omega
 have c8:¬(m=0):=by omega
 simp[Builtin.append_,run_underlying ht,run_underlying ht',Go.sizeOf,typeInfo,hi,zeroValue,hz,asInt,asIntOf,hw,c1,c2,c3,c4,c5,c6,c7,c8,ho,Question.forced,newRow,grownCap]
theorem Sk{o:Oper}{t t':TypeId}{x y:Operand}{k':IntKind}(ho:o.op= .call {callee:= .builtin .append,args:= #[x,y],argTypes:= #[t,t']})(hk':tk P t'= .int k'){ρD:Operand→DV}{S:St}{K:DV→St→Prop}
 (h:rH (tk P t) (zD P (eG P t)) S (ρD x) (ρD y) K):aj P w0 o ρD S K:=by
 intro g w ρ h1 h2 hcst
 have hx:=h2 x (by simp[ho,Op.operands,Call.operands])
 have hy:=h2 y (by simp[ho,Op.operands,Call.operands])
 have hut':=mT hk'
 unfold rH at h
 split at h
 ·rename_i e s by' b of n c kk m hk hxe hye
  rw[hxe]at hx
  rw[hye]at hy
  have hxv:=ay hx
  have hyv:=ay hy
  obtain⟨hu,hcs,hbs,hei⟩:=eC hk
  obtain⟨ti,z,hi,hz,hzs,hpos⟩:=cB hei
  have his:ti.size=s:=by simpa[Program.cellsOf,hi]using hcs
  have hib:ti.bytes=by':=by simpa[Program.bytesOf,hi]using hbs
  have hel:eG P t=e:=by simp[eG,hk]
  have hzD:zD P (eG P t)=cv z:=by rw[hel];simp[zD,hi,hz]
  have hrz:aK g (zD P (eG P t)) z:=hzD▸jz g z
  split at h
  ·rename_i ds hb
   obtain⟨hok,hle,hnc,hm0,hcm,hby,hmx,hK⟩:=h
   obtain⟨M,rfl⟩:=Int.eq_ofNat_of_zero_le (Int.le_of_lt hm0)
   simp only[Int.toNat_natCast]at*
   have hns:of+n*s≤ds.length:=by have:=Nat.mul_le_mul_right s hnc;omega
   obtain⟨os,q1,q2,q3,q4⟩:=so (P:=P) (o:=of) (m:=n) (s:=s) h1 hb hns
   have hr:=GI (w:=w) (ty:=o.type) (k:=kk) (base:=some ⟨b,of,none⟩) (n:=n) (c:=c) (m:=M) hu hut' hi hz hpos (by rw[his];exact q4 w.drew (fun _=>rfl) n c) (by omega) hcm hmx (by rw[hib];exact hby)
   have hcap:=grownCap_ge w (n+M) c e
   have hcmx:=grownCap_le_maxLen w (n+M) c e hmx
   generalize grownCap w (n+M) c e=C at*
   have hzl:(Builtin.zeroCells z.cells (C-(n+M))).toList.length=(C-(n+M))*s:=by rw[Array.length_toList,size_zeroCells,hzs,his]
   obtain⟨hne,hR⟩:=h1.xq (w':=w.drew.alloc (.cells (os.toArray++Builtin.zeroCells z.cells M++Builtin.zeroCells z.cells (C-(n+M))) e)) ((j6.refl _ _).drew.alloc (by simp) _) (b:=w.heap.size) (Nat.le_refl _) (heap_alloc_new w.drew _)
    (ds:=(ds.drop of).take (n*s)++iQ (zD P (eG P t)) M++List.replicate ((C-(n+M))*s) .any)
    (by
     simp only[Array.toList_append,List.toList_toArray]
     rw[←hzl]
     exact(q1.append (qi hrz hok M)).append (qL g _))
    (by
     intro u hu
     simp only[Array.toList_append,List.mem_append,List.toList_toArray]at hu
     rcases hu with(hu|hu)|hu
     ·exact q2 u hu
     ·exact cU (fi hei hi hz) _ u hu
     ·exact cU (fi hei hi hz) _ u hu)
   have:(execOp ρ o).run P w= .ok (.value (.slice (some ⟨w.heap.size,0,none⟩) (n+M) C)) (w.drew.alloc (.cells (os.toArray++Builtin.zeroCells z.cells M++Builtin.zeroCells z.cells (C-(n+M))) e)):=by
    simp[execOp,ho,resolve,invoke,builtin,hxv,hyv,hr]
   rw[this]
   exact⟨g,_,_,.refl g,hR,.v _ rfl,hK C hcap hcmx _ (dn hne)⟩
  ·exact h.elim
 ·exact h.elim
end
end Aml
namespace Aml
open Go Go.RowKit
def n8(o:Option (List FK))(op:BinOp)(la:List DV)(y:DV)(K:DV→Prop):Prop:=match o,y,op with
 |some ks,.agg bs,.eql=>gr ks la bs true fun r=>K (.v (.bool r))
 |some ks,.agg bs,.neq=>gr ks la bs true fun r=>K (.v (.bool !r))
 |_,_,_=>False
def kG(P:Program)(op:BinOp)(t:TypeId)(cx cy:Bool)(x y:DV)(K:DV→Prop):Prop:=match x with
 | .agg la=>n8 (BE P t) op la y K
 |x=>r9 op (tk P t) cx cy x y K
section
variable {P:Program} {w0:W0}
theorem SO{o:Oper}{op:BinOp}{t t':TypeId}{x y:Operand}(ho:o.op= .binOp op t x y t'){ρD:Operand→DV}{S:St}{K:DV→St→Prop}(h:kG P op t (Bl x) (Bl y) (ρD x) (ρD y) (K · S)):aj P w0 o ρD S K:=by
 unfold kG at h
 split at h
 ·rename_i la hx0
  refine bI fun g w ρ h1 h2=>?_
  have hx:=h2 x (by simp[ho,Op.operands])
  have hy:=h2 y (by simp[ho,Op.operands])
  rw[hx0]at hx
  obtain⟨us,e1,hru,hu1⟩:=nG hx
  unfold n8 at h
  have fin:∀{ks:List FK} {bs:List DV} {F:Bool→Prop},BE P t=some ks→ρD y= .agg bs→gr ks la bs true F→∃(vs:List Value) (q:Bool),ρ y= .agg vs.toArray∧(∀op,(eqGuard op t x y (.agg us.toArray) (.agg vs.toArray)).run P w= .ok () w)∧(Op.equalIn 10000 t (.agg us.toArray) (.agg vs.toArray)).run P w= .ok q w∧F q:=by
   intro ks bs F he hyb hk
   rw[hyb]at hy
   obtain⟨vs,e2,hrv,hv1⟩:=nG hy
   unfold BE at he
   split at he
   ·rename_i fs hst
    split at he
    ·rename_i hc
     simp only[Bool.and_eq_true,Bool.not_eq_true']at hc
     have hfo:P.underlying t=some (.struct (P.fieldsOf t)):=by unfold Program.fieldsOf;rw[hst]
     obtain⟨q,r1,r2⟩:=yf (P:=P) (w:=w) (d:=9998) (us:=us) (vs:=vs) (P.fieldsOf t).toList he (by rw[List.drop_zero];exact hru) (by rw[List.drop_zero];exact hrv) hk
     rw[Bool.true_and]at r2
     exact⟨vs,q,e2,fun op=>run_eqGuard_agg w op t x y _ _ hc.2,by rw[run_equalIn_struct w 9999 t _ _ hfo hc.1];exact r1,r2⟩
    ·cases he
   ·cases he
  split at h
  ·rename_i ks bs he hyb
   obtain⟨vs,q,e2,hg,hq,hF⟩:=fin he hyb h
   exact⟨_,.bool q,by simp[execOp,ho,e1,e2,hg,run_eql_struct w t,hq],.v _ rfl,hF⟩
  ·rename_i ks bs he hyb
   obtain⟨vs,q,e2,hg,hq,hF⟩:=fin he hyb h
   exact⟨_,.bool !q,by simp[execOp,ho,e1,e2,hg,run_neq_struct w t,hq],.v _ rfl,hF⟩
  ·exact h.elim
 ·exact NN ho h
end
theorem JT(P:Program)(op:BinOp)(t:TypeId)(cx cy:Bool)(u:Value)(y:DV)(K:DV→Prop):kG P op t cx cy (.v u) y K=r9 op (tk P t) cx cy (.v u) y K:=rfl
theorem Dd(P:Program)(op:BinOp)(t:TypeId)(cx cy:Bool)(la:List DV)(y:DV)(K:DV→Prop):kG P op t cx cy (.agg la) y K=n8 (BE P t) op la y K:=rfl
theorem Ta(ks:List FK)(la bs:List DV)(K:DV→Prop):n8 (some ks) .eql la (.agg bs) K=gr ks la bs true fun r=>K (.v (.bool r)):=rfl
theorem Eb(r:Bool)(F:Bool→Prop):gr [] [] [] r F=F r:=rfl
theorem IC(k k1 k2:IntKind)(m n:Int)(ks:List FK)(la bs:List DV)(r:Bool)(F:Bool→Prop):gr (.int k::ks) (.v (.int k1 m)::la) (.v (.int k2 n)::bs) r F=(k1=k∧k2=k∧gr ks la bs (r&&decide (m=n)) F):=rfl
theorem IZ(a b:ByteArray)(ks:List FK)(la bs:List DV)(r:Bool)(F:Bool→Prop):gr (.str::ks) (.v (.string a)::la) (.v (.string b)::bs) r F=gr ks la bs (r&&decide (a.data.toList=b.data.toList)) F:=rfl
theorem JQ(a b:Bool)(ks:List FK)(la bs:List DV)(r:Bool)(F:Bool→Prop):gr (.bool::ks) (.v (.bool a)::la) (.v (.bool b)::bs) r F=gr ks la bs (r&&(a==b)) F:=rfl
end Aml
namespace Aml
open Go Go.RowKit
class Cn(α:Type) where
 k:α
def AC(P:Program)(w0:W0)(f:FuncId)(ds:List DV)(S:St)[K:Cn (DV→St→Prop)]:Prop:=aa P w0 f ds S K.k
def iI:List DV→Bool
 |[]=>false
 | .acc _ _::_=>true
 |_::ds=>iI ds
def iD(S:St)(ds:List DV)(F:List DV→St→Prop):Prop:=match iI ds with
 |true=>F ds S∨gy S ds F
 |false=>gy S ds F
def YC(P:Program)(w0:W0)(l:Nat)(ds:List DV)(S:St)[K:Cn (DV→St→Prop)]:Prop:=zL P w0 l ds S K.k
def XC(P:Program)(w0:W0)(f:FuncId)(ds:List DV)(S:St)[K:Cn (DV→St→Prop)]:Prop:=
 ∀g w (us:List Value),Rel w0 g S w→ai g ds us→∃v w' g' d S',(callFunc f us.toArray).run P w= .ok (.value v) w'∧g.le g'∧Rel w0 g' S' w'∧aK g' d v∧K.k d S'
def gX(b:Bool)(A B:Prop):Prop:=match b with
 |true=>A
 |false=>B
theorem Lf(A B:Prop):gX true A B=A:=rfl
theorem Yj(A B:Prop):gX false A B=B:=rfl
@[congr] theorem ZU {b b':Bool} {A B:Prop} (h:b=b'):gX b A B=gX b' A B:=by rw[h]
def Gt(a:Array Value)(A:Prop)(B:List Value→Prop):Prop:=match a.toList with
 |[]=>A
 |us=>us.all (fun u=>u.oneCell')=true∧B us
@[congr] theorem YE {a a':Array Value} {A:Prop} {B:List Value→Prop} (h:a=a'):Gt a A B=Gt a' A B:=by rw[h]
def pD(P:Program)(w0:W0)(cal:DV)(ds:List DV)(S:St)(K:DV→St→Prop):Prop:=match cal with
 | .v (.func (.func f) a cap)=>cap.toList.all (fun u=>u.oneCell')=true∧Gt a (gX (okF P f) (iD S ds fun ds S=>@AC P w0 f (ds++cap.toList.map .v) S ⟨K⟩) (@XC P w0 f (ds++cap.toList.map .v) S ⟨K⟩))
   fun us=>okF P f=true∧iD S ds fun ds S=>@AC P w0 f (us.map .v++(ds++cap.toList.map .v)) S ⟨K⟩
 | .v (.func (.yield l) a cap)=>a.size=0∧cap.size=0∧gy S ds fun ds S=>@YC P w0 l ds S ⟨K⟩
 |_=>False
theorem pC{P:Program}{w0:W0}{f:FuncId}{a cap:Array Value}{ds:List DV}{S:St}{K:DV→St→Prop}(h1:a.size=0)(h2:cap.toList.all (fun u=>u.oneCell')=true)
 (h3:gX (okF P f) (iD S ds fun ds S=>@AC P w0 f (ds++cap.toList.map .v) S ⟨K⟩) (@XC P w0 f (ds++cap.toList.map .v) S ⟨K⟩)):pD P w0 (.v (.func (.func f) a cap)) ds S K:=by
 have ha:a= #[]:=by apply Array.eq_empty_of_size_eq_zero h1
 subst ha
 exact⟨h2,h3⟩
def tZ(P:Program)(x:DV)(name:String)(F:FuncId→DV→Prop):Prop:=match x with
 | .jM t (.agg [])=>(match rV P t name with
  |some f=>okF P f=true∧F f (.agg [])
  |none=>False)
 |_=>False
def xt(w0:W0)(b:Nat)(us:List Value):Prop:=(∀j,w0.gh.bM b j=us[j]?)∧∀u,u∈us→u.oneCell'=true
def rF(w0:W0)(b:Nat)(F:DV→Prop):Prop:=∃us,xt w0 b us∧F (.ip (us.map .v))
theorem I9{w0:W0}{b:Nat}{us:List Value}(h:xt w0 b us)(F:DV→Prop):rF w0 b F=F (.ip (us.map .v)):=by
 unfold rF
 apply propext
 constructor
 ·rintro⟨vs,hv,hF⟩
  have:vs=us:=List.ext_getElem? fun j=>by rw[←hv.1,h.1]
  rw[←this];exact hF
 ·exact fun hF=>⟨us,h,hF⟩
theorem Mr{w0:W0}{b:Nat}{us:List Value}(h:xt w0 b us){g:Gh}(hg:w0.gh.sub g):aK g (.ip (us.map .v)) (.pointer (some ⟨b,0,none⟩)):=
 .ip _ _ _ us (by simp) (fun i d u a1 a2=>by
  simp only[List.getElem?_map,Option.map_eq_some_iff]at a1
  obtain⟨u',a1,rfl⟩:=a1
  rw[a2]at a1;cases a1
  exact .v _ (h.2 _ (List.mem_of_getElem? a2))) h.2 (fun j x hj=>by
  rw[Nat.zero_add]
  exact hg.bM _ _ _ (by rw[h.1];exact hj))
def Hv(w0:W0)(fr:List DV)(x:Operand)(F:DV→Prop):Prop:=match x with
 | .global b=>rF w0 b F
 |x=>F (ev fr x)
@[congr] theorem Zx {w0:W0} {fr fr':List DV} {x:Operand} {F:DV→Prop} (h:fr=fr'):Hv w0 fr x F=Hv w0 fr' x F:=by rw[h]
@[congr] theorem W9 {w0:W0} {b:Nat} {F:DV→Prop}:rF w0 b F=rF w0 b F:=rfl
@[congr] theorem XE {P:Program} {x x':DV} {name:String} {F:FuncId→DV→Prop} (h:x=x'):tZ P x name F=tZ P x' name F:=by rw[h]
def sZ:TK→Bool
 | .int _=>true
 |_=>false
theorem vG{k:TK}(h:sZ k=true):∃k',k= .int k':=by cases k <;>first|exact⟨_,rfl⟩|cases h
def aI(P:Program)(w0:W0)(op:Op)(fr:List DV)(S:St)(K:DV→St→Prop):Prop:=match op with
 | .move x=>K (ev fr x) S
 | .assign x=>K (ev fr x) S
 | .pick c a b=>jI (ev fr c) (ev fr a) (ev fr b) (K · S)
 | .load t x=>bG (tk P t) S (ev fr x) (K · S)
 | .fieldAddr t x f=>ia (tk P t) f (ev fr x) (K · S)
 | .indexAddr t x i=>Hv w0 fr x fun d=>aG (tk P t) d (ev fr i) (K · S)
 | .index t x i=>jJ (tk P t) (ev fr x) (ev fr i) (K · S)
 | .field t x f=>iU (tk P t) f (ev fr x) (K · S)
 | .extract x i=>eg i (ev fr x) (K · S)
 | .nilCheck x=>notNil (ev fr x)=true∧K (ev fr x) S
 | .binOp b t x y _=>(match iM y with
  |true=>mu b (tk P t) (ev fr x) (K · S)
  |false=>kG P b t (Bl x) (Bl y) (ev fr x) (ev fr y) (K · S))
 | .unOp b _ x=>GQ b (ev fr x) (K · S)
 | .convert s d x=>jK (tk P s) (tk P d) (tk P (eG P s)) (tk P (eG P d)) S (ev fr x) (K · S)
 | .makeInterface t x=>ry (tk P t)=false∧shr S (ev fr x) fun d S=>K (.jM t d) S
 | .typeAssert x _ t ok=>sr P t ok (ev fr x) (K · S)
 | .build t parts=>gy S (parts.toList.map fun p=>ev fr p.2) fun ds S=>gE P t ((parts.toList.map (·.1)).zip ds) (K · S)
 | .buildSlice t len parts=>gy S (parts.toList.map fun p=>ev fr p.2) fun ds S=>aP (tk P t) (zD P (eG P t)) len ((parts.toList.map (·.1)).zip ds) (K · S)
 | .makeFunc fn a b=>mV fn (a.toList.map (ev fr)) (b.toList.map (ev fr)) (K · S)
 | .slice t x lo hi mx=>(mx.isSome=true→hi.isSome=true)∧il (tk P t) S (ev fr x) (lo.map (ev fr)) (hi.map (ev fr)) (mx.map (ev fr)) K
 | .box _ x=>eL (ev fr x)=true∧∀b,jD S.box b→K (.v (.pointer (some ⟨b,0,none⟩))) ⟨(b,cd (ev fr x))::S.box,S.acc⟩
 | .alloc t=>eL (zD P t)=true∧∀b,jD S.box b→K (.v (.pointer (some ⟨b,0,none⟩))) ⟨(b,cd (zD P t))::S.box,S.acc⟩
 | .store t x y=>(P.info? t).isSome=true∧fE (P.cellsOf t) S (ev fr x) (ev fr y) (K ud)
 | .makeSlice t x y=>fL (tk P t) (zD P (eG P t)) (ev fr x) (ev fr y) S K
 | .lookup t x y ok=>dv (sB P t) S (ev fr x) (ev fr y) ok (K · S)
 | .mapUpdate t x y z=>jX (sB P t) S (ev fr x) (ev fr y) (ev fr z) (K ud)
 | .makeMap t r=>jh (sB P t) r S K
 | .range t x=>xg (sB P t) S (ev fr x) K
 | .next x s=>EM S (ev fr x) s K
 | .entry x=>uE S (ev fr x) (K · S)
 | .call c=>match c.callee with
  | .builtin .len=>(match c.args.toList,c.argTypes.toList with
   |[x],[t]=>oI (tk P t) (ev fr x) (K · S)
   |_,_=>False)
  | .builtin .cap=>(match c.args.toList,c.argTypes.toList with
   |[x],[t]=>rX (tk P t) (ev fr x) (K · S)
   |_,_=>False)
  | .builtin .append=>(match c.args.toList,c.argTypes.toList with
   |[x,y],[t,t']=>(match uu (ev fr x)with
    |true=>(match sZ (tk P t')with
     |true=>rH (tk P t) (zD P (eG P t)) S (ev fr x) (ev fr y) K
     |false=>rJ (tk P t) (tk P t') S (ev fr x) (ev fr y) K)
    |false=>(match sZ (tk P t')with
     |true=>lR (tk P t) (zD P (eG P t)) S (ev fr x) (ev fr y) K
     |false=>lx (tk P t) (tk P t') S (ev fr x) (ev fr y) K))
   |_,_=>False)
  | .builtin .copy=>(match c.args.toList,c.argTypes.toList with
   |[x,y],[t,t']=>pd (tk P t) S (ev fr x) (ev fr y) K
   |_,_=>False)
  | .builtin .clear=>(match c.args.toList,c.argTypes.toList with
   |[x],[t]=>mw (tk P t) (zD P (eG P t)) S (ev fr x) K
   |_,_=>False)
  | .builtin .delete=>(match c.args.toList,c.argTypes.toList with
   |[x,y],[t,t']=>oO (sB P t) S (ev fr x) (ev fr y) (K ud)
   |_,_=>False)
  | .builtin .min=>(match c.args.toList with
   |[x,y]=>rO (ev fr x) (ev fr y) (K · S)
   |_=>False)
  | .builtin .max=>(match c.args.toList with
   |[x,y]=>rT (ev fr x) (ev fr y) (K · S)
   |_=>False)
  | .value cal=>pD P w0 (ev fr cal) (c.args.toList.map (ev fr)) S K
  | .invoke r name=>tZ P (ev fr r) name fun f d=>iD S (d::c.args.toList.map (ev fr)) fun ds S=>@AC P w0 f ds S ⟨K⟩
  |_=>False
 |_=>False
def gR:Op→Bool
 | .slice _ x lo hi mx=>(match lo with|some y=>!sameO y x|none=>true)&&(match hi with|some y=>!sameO y x|none=>true)&&(match mx with|some y=>!sameO y x|none=>true)
 |_=>true
where sameO:Operand→Operand→Bool
 | .tmp a,.tmp b=>a==b
 | .const _,.const _=>true
 | .global _,.global _=>true
 | .func _,.func _=>true
 |_,_=>false
section
variable {P:Program} {w0:W0}
theorem dQ{α:Type}{a:Array α}{l:List α}(h:a.toList=l):a=l.toArray:=by rw[←h]
theorem uH{y x:Operand}(h:gR.sameO y x=false):y≠x:=by
 rintro rfl
 cases y <;>simp[gR.sameO]at h
theorem Qb{o:Oper}{f:FuncId}{args:List Operand}{ts:Array TypeId}{cal:Operand}(ho:o.op= .call {callee:= .value cal,args:=args.toArray,argTypes:=ts}){ρD:Operand→DV}{S:St}{K:DV→St→Prop}
 {cap:List Value} (hcal:ρD cal= .v (.func (.func f) #[] cap.toArray)) (h:@XC P w0 f (args.map ρD++cap.map .v) S ⟨K⟩) (hcap:∀u,u∈cap→u.oneCell'=true):aj P w0 o ρD S K:=by
 intro g w ρ h1 h2 hcst
 have hc:=h2 cal (by simp[ho,Op.operands,Call.operands])
 rw[hcal]at hc
 have hv:=ay hc
 have hargs:=dw (g:=g) (ρD:=ρD) (ρ:=ρ) args (fun p hp=>h2 p (by simp[ho,Op.operands,Call.operands,hp]))
 have hcapR:ai g (cap.map .v) cap:=⟨by simp,fun i d u a1 a2=>by
  simp only[List.getElem?_map,Option.map_eq_some_iff]at a1
  obtain⟨u',a1,rfl⟩:=a1
  rw[a2]at a1;cases a1
  exact .v _ (hcap _ (List.mem_of_getElem? a2))⟩
 obtain⟨v,w',g',d,S',q1,q2,q3,q4,q5⟩:=h g w ((args.map ρ)++cap) h1 (hargs.append hcapR)
 have hrun:(execOp ρ o).run P w= .ok (.value v) w':=by
  rw[←q1]
  simp[execOp,ho,resolve,hv,Deferred.ofValue,invoke]
 rw[hrun]
 exact⟨g',d,S',q2,q3,q4,q5⟩
theorem bC{o:Oper}{fr:List DV}{S:St}{K:DV→St→Prop}(hs:gR o.op=true)(h:aI P w0 o.op fr S K):aj P w0 o (ev fr) S K:=by
 cases hop:o.op with
 |move x=>rw[hop]at h;exact Co hop h
 |assign x=>rw[hop]at h;exact Iw hop h
 |pick c a b=>rw[hop]at h;exact TD hop h
 |load t x=>rw[hop]at h;exact Td hop h
 |fieldAddr t x f=>rw[hop]at h;exact za hop h
 |indexAddr t x i=>
  rw[hop]at h
  cases x with
  |global b=>
   obtain⟨us,hg,h⟩:=(show rF w0 b fun d=>aG (tk P t) d (ev fr i) (K · S)from h)
   exact pU hop (fun g w u hR r=>by
    have:=ay (show aK g (.v (.pointer (some ⟨b,0,none⟩))) u from r)
    rw[this];exact Mr hg hR.below.kn) h
  |tmp n=>exact mN hop h
  |const u=>exact mN hop h
  |func f=>exact mN hop h
 |index t x i=>rw[hop]at h;exact PD hop h
 |field t x f=>rw[hop]at h;exact J9 hop h
 |extract x i=>rw[hop]at h;exact Hs hop h
 |nilCheck x=>rw[hop]at h;exact D0 hop h
 |binOp b t x y t'=>
  rw[hop]at h
  simp only[aI]at h
  cases hq:iM y with
  |true=>rw[hq]at h;exact O7 hop hq h
  |false=>rw[hq]at h;exact SO hop h
 |unOp b t x=>rw[hop]at h;exact SN hop h
 |convert s d x=>rw[hop]at h;exact EL hop h
 |makeInterface t x=>rw[hop]at h;exact B3 hop h
 |typeAssert x t' t ok=>rw[hop]at h;exact Kb hop h
 |build t parts=>rw[hop]at h;exact LN (parts:=parts.toList) (by simpa using hop) h
 |buildSlice t len parts=>rw[hop]at h;exact vo (parts:=parts.toList) (by simpa using hop) h
 |makeFunc fn a b=>rw[hop]at h;exact Cq (a:=a.toList) (b:=b.toList) (by simpa using hop) h
 |slice t x lo hi mx=>
  rw[hop]at h hs
  simp only[gR,Bool.and_eq_true]at hs
  obtain⟨⟨s1,s2⟩,s3⟩:=hs
  refine IT hop h.1 ⟨?_,?_,?_⟩ h.2
  ·rintro rfl;simp only[Bool.not_eq_true']at s1;exact uH s1 rfl
  ·rintro rfl;simp only[Bool.not_eq_true']at s2;exact uH s2 rfl
  ·rintro rfl;simp only[Bool.not_eq_true']at s3;exact uH s3 rfl
 |box t x=>rw[hop]at h;exact WE hop h
 |alloc t=>rw[hop]at h;exact sw hop h
 |store t x y=>rw[hop]at h;exact KW hop h.1 h.2
 |makeSlice t x y=>rw[hop]at h;exact rD hop h
 |lookup t x y ok=>rw[hop]at h;exact JE hop h
 |mapUpdate t x y z=>rw[hop]at h;exact Bp hop h
 |makeMap t r=>rw[hop]at h;exact Gc hop h
 |range t x=>rw[hop]at h;exact Oq hop h
 |next x s=>rw[hop]at h;exact T0 hop h
 |entry x=>rw[hop]at h;exact Og hop h
 |call c=>
  rw[hop]at h
  obtain⟨callee,args,ts⟩:=c
  simp only[aI]at h
  split at h
  ·split at h
   ·rename_i x t e1 e2
    exact Wi (x:=x) (t:=t) (by rw[hop,dQ e1,dQ e2]) h
   ·exact h.elim
  ·split at h
   ·rename_i x t e1 e2
    exact V4 (x:=x) (t:=t) (by rw[hop,dQ e1,dQ e2]) h
   ·exact h.elim
  ·split at h
   ·rename_i x y t t' e1 e2
    cases hrow:uu (ev fr x)with
    |true=>
     rw[hrow]at h
     cases hq:sZ (tk P t')with
     |true=>
      rw[hq]at h
      obtain⟨k',hk'⟩:=vG hq
      exact Sk (x:=x) (y:=y) (t:=t) (t':=t') (by rw[hop,dQ e1,dQ e2]) hk' h
     |false=>
      rw[hq]at h
      exact SQ (x:=x) (y:=y) (t:=t) (t':=t') (by rw[hop,dQ e1,dQ e2]) h
    |false=>
     rw[hrow]at h
     cases hq:sZ (tk P t')with
     |true=>
      rw[hq]at h
      obtain⟨k',hk'⟩:=vG hq
      exact KT (x:=x) (y:=y) (t:=t) (t':=t') (by rw[hop,dQ e1,dQ e2]) hk' h
     |false=>
      rw[hq]at h
      exact JV (x:=x) (y:=y) (t:=t) (t':=t') (by rw[hop,dQ e1,dQ e2]) h
   ·exact h.elim
  ·split at h
   ·rename_i x y t t' e1 e2
    exact R8 (x:=x) (y:=y) (t:=t) (t':=t') (by rw[hop,dQ e1,dQ e2]) h
   ·exact h.elim
  ·split at h
   ·rename_i x t e1 e2
    exact P2 (x:=x) (t:=t) (by rw[hop,dQ e1,dQ e2]) h
   ·exact h.elim
  ·split at h
   ·rename_i x y t t' e1 e2
    exact JY (x:=x) (y:=y) (t:=t) (t':=t') (by rw[hop,dQ e1,dQ e2]) h
   ·exact h.elim
  ·split at h
   ·rename_i x y e1
    exact WN (x:=x) (y:=y) (ts:=ts) (by rw[hop,dQ e1]) h
   ·exact h.elim
  ·split at h
   ·rename_i x y e1
    exact Wl (x:=x) (y:=y) (ts:=ts) (by rw[hop,dQ e1]) h
   ·exact h.elim
  ·rename_i cal
   unfold pD at h
   split at h
   ·rename_i f a cap hcal
    obtain⟨hcap,h⟩:=h
    obtain⟨a⟩:=a
    cases a with
    |cons u us=>
     obtain⟨hfst,hf,h⟩:=h
     refine JN (args:=args.toList) (cal:=cal) (fst:=u::us) (cap:=cap.toList) (ts:=ts) (by simpa using hop) (by simpa using hcal) hf ?_ (List.all_eq_true.1 hfst) (List.all_eq_true.1 hcap)
     unfold iD at h
     split at h
     ·exact h
     ·exact .inr h
    |nil=>?_
    replace h:gX (okF P f) (iD S (args.toList.map (ev fr)) fun ds S=>@AC P w0 f (ds++cap.toList.map .v) S ⟨K⟩) (@XC P w0 f (args.toList.map (ev fr)++cap.toList.map .v) S ⟨K⟩):=h
    cases hf:okF P f with
    |false=>
     rw[hf]at h
     exact Qb (args:=args.toList) (cal:=cal) (cap:=cap.toList) (ts:=ts) (by simpa using hop) (by simpa using hcal) h (List.all_eq_true.1 hcap)
    |true=>?_
    rw[hf]at h
    simp only[gX]at h
    refine Pa (args:=args.toList) (cal:=cal) (cap:=cap.toList) (ts:=ts) (by simpa using hop) (by simpa using hcal) hf ?_ (List.all_eq_true.1 hcap)
    unfold iD at h
    split at h
    ·exact h
    ·exact .inr h
   ·rename_i l a cap hcal
    obtain⟨ha,hcap,h⟩:=h
    have ha':a= #[]:=by apply Array.eq_empty_of_size_eq_zero ha
    have hc':cap= #[]:=by apply Array.eq_empty_of_size_eq_zero hcap
    subst ha';subst hc'
    exact Qu (args:=args.toList) (cal:=cal) (ts:=ts) (by simpa using hop) hcal h
   ·exact h.elim
  ·rename_i r name
   unfold tZ at h
   split at h
   ·rename_i t hx
    split at h
    ·rename_i f hi
     obtain⟨hf,h⟩:=h
     refine JC (args:=args.toList) (ts:=ts) (by simpa using hop) hx hi hf ?_
     unfold iD at h
     split at h
     ·exact h
     ·exact .inr h
    ·exact h.elim
   ·exact h.elim
  ·exact h.elim
 |_=>rw[hop]at h;exact h.elim
def yu(P:Program)(w0:W0)(ops:Array Oper)(K:List DV→St→Prop):List Oper→List DV→St→Prop
 |[],fr,S=>K fr S
 |o::rest,fr,S=>bV ops fr o.guard (fun fr=>aI P w0 o.op fr S fun d S'=>yu P w0 ops K rest (pt fr o.dst d) S') (fun fr=>yu P w0 ops K rest (pt fr o.dst ud) S)
theorem iz{ops:Array Oper}{fr:List DV}{gd:Option (Nat×Bool)}{A B A' B':List DV→Prop}(ha:∀fr,A fr→A' fr)(hb:∀fr,B fr→B' fr)(h:bV ops fr gd A B):bV ops fr gd A' B':=by
 unfold bV at*
 split at h
 ·exact ha _ h
 ·split at h
  ·exact hb _ h
  ·split at h
   ·exact⟨fun e=>ha _ (h.1 e),fun e=>hb _ (h.2 e)⟩
   ·exact hb _ h
   ·exact h
theorem aQ{o:Oper}{ρD:Operand→DV}{S:St}{K K':DV→St→Prop}(hk:∀d S,K d S→K' d S)(h:aj P w0 o ρD S K):aj P w0 o ρD S K':=by
 intro g w ρ h1 h2 hcst
 have:=h g w ρ h1 h2 hcst
 split at this
 ·obtain⟨g',d,S',a,b,c,e⟩:=this;exact⟨g',d,S',a,b,c,hk _ _ e⟩
 ·obtain⟨g',S',a,b,e⟩:=this;exact⟨g',S',a,b,hk _ _ e⟩
 ·exact this.mono fun e w'' ⟨r,g',d,S',a,b,c,x,y⟩=>⟨r,g',d,S',a,b,c,x,hk _ _ y⟩
 ·exact fun ro=>(this ro).mono fun e w'' ⟨r,g',d,S',a,b,c,x,y⟩=>⟨r,g',d,S',a,b,c,x,hk _ _ y⟩
 ·exact this
theorem nD{ops:Array Oper}{K:List DV→St→Prop}:∀(l:List Oper) {fr:List DV} {S:St},l.all (fun o=>gR o.op)=true→yu P w0 ops K l fr S→Ax P w0 ops K l fr S
 |[],fr,S,_,h=>h
 |o::rest,fr,S,hs,h=>by
  simp only[List.all_cons,Bool.and_eq_true]at hs
  refine iz (fun fr h=>?_) (fun fr h=>nD rest hs.2 h) h
  exact aQ (fun d S h=>nD rest hs.2 h) (bC hs.1 h)
theorem Dw{d:DV}{A B A' B':Prop}(ha:A→A')(hb:B→B')(h:fV d A B):fV d A' B':=by
 unfold fV at*
 split at h
 ·exact⟨fun e=>ha (h.1 e),fun e=>hb (h.2 e)⟩
 ·exact h
end
end Aml
