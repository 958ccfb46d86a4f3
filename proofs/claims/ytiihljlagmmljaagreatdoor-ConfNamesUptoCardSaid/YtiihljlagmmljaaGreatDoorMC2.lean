/-
  Part 2 of the proof that the last text ends: from 'The rule for append' to 'Loops by a state; forgetting slots; growing slices out of nil'. By an AI agent.
-/
import Derived.Test.YtiihljlagmmljaaGreatDoorMC1
import Derived.Lib.ConvBytes
import Derived.Laws.BytesArg
import Derived.Laws.StructEq
import Derived.MapKept
import Derived.Maps.RangeRun
set_option linter.unusedVariables false
set_option linter.unusedSimpArgs false
set_option maxRecDepth 100000
set_option maxHeartbeats 16000000
namespace Aml
open Go Go.RowKit
section
variable {P:Program} {w0:W0}
theorem rM{w:World}{t t' ty e:TypeId}{d':TypeDesc}{i:TypeInfo}(ht:P.underlying t=some (.slice e))(ht':P.underlying t'=some d')(hd':∀k,d'≠ .int k)(hi:P.info? e=some i)
 {base:Option Addr} {n c m:Nat} {x:Value} {new:Array Value} (hl:(Builtin.lenOf x).run P w= .ok m w) (hx:(Builtin.firstCells i.size m x).run P w= .ok new w) (hfit:n+m≤c):
 (Builtin.append_ #[t,t'] ty #[.slice base n c,x]).run P w=match base with
  |some a=>((storeCells (a.add (n*i.size)) new.toList).run P w).andThen fun _ w'=> .ok (.slice base (n+m) c) w'
  |none=> .ok (.slice none (n+m) c) w:=by
 have hzz:(match d' with| .int _=>true|_=>false)=false:=by cases d' <;>first|rfl|exact absurd rfl (hd' _)
 cases base with
 |none=>simp[Builtin.append_,run_underlying ht,run_underlying ht',hzz,Go.sizeOf,typeInfo,hi,hl,hfit,hx]
 |some a=>simp[Builtin.append_,run_underlying ht,run_underlying ht',hzz,Go.sizeOf,typeInfo,hi,hl,hfit,hx]
theorem tT{w:World}{t t' ty e:TypeId}{d':TypeDesc}{i:TypeInfo}{z:Value}(ht:P.underlying t=some (.slice e))(ht':P.underlying t'=some d')(hd':∀k,d'≠ .int k)(hi:P.info? e=some i)(hz:i.zero=some z)
 {base:Option Addr} {n c m:Nat} {x:Value} {old new:Array Value} (hl:(Builtin.lenOf x).run P w= .ok m w) (ho:(Builtin.firstCells i.size n (.slice base n c)).run P w.drew= .ok old w.drew) (hx:(Builtin.firstCells i.size m x).run P w.drew= .ok new w.drew)
 (hg:c<n+m) (h63:n+m≤maxLen) (hby:(n+m)*i.bytes≤140737488355328):
 (Builtin.append_ #[t,t'] ty #[.slice base n c,x]).run P w= .ok (.slice (some ⟨w.heap.size,0,none⟩) (n+m) (grownCap w (n+m) c e))
  (w.drew.alloc (.cells (old++new++Builtin.zeroCells z.cells (grownCap w (n+m) c e-(n+m))) e)):=by
 have hzz:(match d' with| .int _=>true|_=>false)=false:=by cases d' <;>first|rfl|exact absurd rfl (hd' _)
 have hn:¬(n+m≤c):=by omega
 have h63':¬(9223372036854775807<((n:Int)+(m:Int))):=by unfold maxLen at h63;omega
 have hfit:=growslice_fits (need:=n+m) (old:=c) (bytes:=i.bytes) hg hby;have h48':¬(281474976710656<Builtin.nextslicecap (n+m) c*i.bytes):=by omega
 simp[Builtin.append_,run_underlying ht,run_underlying ht',hzz,Go.sizeOf,typeInfo,zeroValue,hi,hz,hl,hn,h63',h48',Question.forced,ho,hx,newRow,grownCap]
def nO:TK→Bool
 | .int _=>false
 | .no=>false
 |_=>true
theorem qE{t:TypeId}(h:nO (tk P t)=true):∃d,P.underlying t=some d∧∀k,d≠ .int k:=by
 unfold tk at h;split at h <;>(try split at h) <;>first|(cases h;done)|exact⟨_,by assumption,by simp⟩
def uv(s:Nat)(by':Nat)(S:St)(x:DV)(ys:List DV)(K:DV→St→Prop):Prop:=match x with
 | .acc l n=>match lk S.acc l with
  |some (.arr s' xs)=>s'=s∧xs.length=n∧(xs.length+ys.length)*by'≤140737488355328∧xs.length+ys.length≤maxLen∧K (.acc l (xs++ys).length) ⟨S.box,up S.acc l (.arr s (xs++ys))⟩
  |some (.tl s' xs)=>s'=s∧xs.length=n∧(xs.length+ys.length)*by'≤140737488355328∧xs.length+ys.length≤maxLen∧K (.acc l (xs++ys).length) ⟨S.box,up S.acc l (.tl s (xs++ys))⟩
  |_=>False
 | .sl _ true []=>ys.length*by'≤140737488355328∧ys.length≤maxLen∧∀l,gx S.acc l→K (.acc l ys.length) ⟨S.box,(l,.arr s ys)::S.acc⟩
 | .sl s' true xs=>s'=s∧(xs.length+ys.length)*by'≤140737488355328∧xs.length+ys.length≤maxLen∧∀l,gx S.acc l→K (.acc l (xs++ys).length) ⟨S.box,(l,.tl s (xs++ys))::S.acc⟩
 |_=>False
def ic(k k2:TK)(S:St)(x y:DV)(K:DV→St→Prop):Prop:=match k with
 | .sl e s by' true=>nO k2=true∧gg S y fun s2 ys=>(s2=s∨ys=[])∧uv s by' S x ys K
 |_=>False
theorem sY{α:Type}{l:List (Nat×α)}{n:Nat}{x:α}(h:lk l n=some x):up l n x=l:=by
 induction l with
 |nil=>cases h
 |cons p t ih=>
  obtain⟨k,y⟩:=p;simp only[lk]at h;simp only[up];split at h
  ·rename_i e;rw[if_pos e];simp only[RC]at h;rw[h]
  ·rename_i e;rw[if_neg e,ih h]
theorem ry(us vs:List Value):fl (us++vs)=fl us++fl vs:=by simp[fl]
theorem nv{g:Gh}{S:St}{w:World}(h:Rel w0 g S w){l s:Nat}{ex:Bool}{xs ys:List DV}(hl:lk S.acc l=some (EG ex s xs)){t t' ty e:TypeId}{d':TypeDesc}{i:TypeInfo}{z:Value}
 (ht:P.underlying t=some (.slice e)) (ht':P.underlying t'=some d') (hd':∀k,d'≠ .int k) (hi:P.info? e=some i) (hz:i.zero=some z) (hzs:z.cells.size=i.size) (his:i.size=s) (hz1:∀x,x∈z.cells.toList→x.oneCell'=true)
 {sv x:Value} (hs:aA g (.acc l xs.length) sv) {vs:List Value} (hv:aa g ys vs) (hvz:∀(i:Nat) (u:Value),vs[i]? =some u→u.cells.size=s) (hv1:∀(u:Value),u∈vs→∀x,x∈u.cells.toList→x.oneCell'=true)
 (hlx:∀w':World,(Builtin.lenOf x).run P w'= .ok ys.length w') (hx:∀w',(∀p,w'.cell? p=w.cell? p)→(Builtin.firstCells s ys.length x).run P w'= .ok (fl vs).toArray w')
 (hby:(xs.length+ys.length)*i.bytes≤140737488355328) (hmx:xs.length+ys.length≤maxLen):
 ∃u w' g',(Builtin.append_ #[t,t'] ty #[sv,x]).run P w= .ok u w'∧g.le g'∧Rel w0 g' ⟨S.box,up S.acc l (EG ex s (xs++ys))⟩ w'∧aA g' (.acc l (xs++ys).length) u:=by
 obtain⟨ow,ho⟩:=h.open_;obtain⟨o,c,hv',ha⟩:=ep hs;subst hv';have hob:EG ex s xs= .arr s xs∨EG ex s xs= .tl s xs:=by cases ex;exact .inr rfl;exact .inl rfl
 obtain⟨hpos,us,a,c',q1,q2,q3,q4,q5,q6,q7⟩:=ho.gy hl hob ha;simp only[Value.slice.injEq,true_and]at q1;obtain⟨rfl,rfl⟩:=q1;have hul:us.length=xs.length:=q2.len.symm;have hvl:vs.length=ys.length:=hv.len.symm;have hx':(Builtin.firstCells i.size ys.length x).run P w= .ok (fl vs).toArray w:=by rw[his];exact hx w fun _=>rfl
 have hsz:∀(i:Nat) (u:Value),(us++vs)[i]? =some u→u.cells.size=s:=by
  intro i u hu;rw[List.getElem?_append]at hu;split at hu
  ·exact q3 _ _ hu
  ·exact hvz _ _ hu
 have hone:∀(u:Value),u∈us++vs→∀x,x∈u.cells.toList→x.oneCell'=true:=by
  intro u hu;rcases RB.1 hu with hu|hu
  ·exact q4 u hu
  ·exact hv1 u hu
 by_cases hy0:ys=[]
 ·subst hy0;have hvs:vs=[]:=Rs (by simpa using hvl);subst hvs;have hr:=rM (w:=w) (ty:=ty) (base:=o) (n:=xs.length) (c:=c) ht ht' hd' hi (hlx w) hx' (by simpa using q5);refine⟨.slice o xs.length c,w,g,?_,.refl g,?_,?_⟩
  ·rw[hr];cases o <;>simp[fl,storeCells]
  ·rw[RU,sY hl];exact h
  ·rw[RU];exact hs
 ·have hypos:0<ys.length:=Sv.2 hy0;have hlt:(EG ex s xs).len<(xs++ys).length:=by rw[zV];simp;omega
  have hoff:∀i j,i*s+j+xs.length*s=(i+xs.length)*s+j:=by intro i j;rw[Ta];omega
  by_cases hfit:xs.length+ys.length≤c
  ·
   rcases q7 with q7|⟨b,cs,e',rfl,q8,q9,q10,q11,q12,q13,q14,qA⟩
   ·omega
   ·have hr:=rM (w:=w) (ty:=ty) (base:=some ⟨b,0,none⟩) (n:=xs.length) (c:=c) ht ht' hd' hi (hlx w) hx' hfit;simp only[add_plain,Sz,his]at hr;have hfl:(fl vs).length=ys.length*s:=by rw[dR hvz,hvl]
    have hroom:xs.length*s+(fl vs).length≤cs.size:=by
     rw[hfl,q11,←Ta];exact RZ s hfit
    have hst:=run_storeCells_at (P:=P) b (xs.length*s) e' (fl vs) 0 cs w q10 (by omega) (ml hv1);simp only[SS]at hst;rw[hst]at hr
    have hrow:cs.toList.take (xs.length*s)++fl vs++cs.toList.drop (xs.length*s+(fl vs).length)=aH cs.toList (xs.length*s) (fl vs):=by
     rw[cm _ _ _ (by simpa using hroom)]
    rw[hrow]at hr
    obtain⟨g',hle,hR,hA⟩:=ho.Gn (w':=w.setRow b (aH cs.toList (xs.length*s) (fl vs)).toArray) hpos hl ex (xs:=xs++ys) (us:=us++vs) (b:=b) (c:=c) (e:=e') (cs:=(aH cs.toList (xs.length*s) (fl vs)).toArray)
     hlt q9 (.inl q8) (setRow_heap w b cs _ e' (0,0) q10) (by simpa[iO]using q11) (by simpa using hfit) q12 (q2.append hv) hsz hone
     (fun i u j x h1 h2=>by
      have hj:j<s:=by rw[←hsz i u h1];exact(Rq.1 h2).1
      rw[show((aH cs.toList (xs.length*s) (fl vs)).toArray)[i*s+j]? =(aH cs.toList (xs.length*s) (fl vs))[i*s+j]? by simp];rw[er (by simpa using hroom),hfl];rw[List.getElem?_append]at h1;split at h1
      ·rename_i hi';have:i*s+j<xs.length*s:=lt_mul (by omega) hj;rw[if_neg (by omega)];rw[Sk];exact q13 i u j x h1 h2
      ·rename_i hi';have hi2:i-us.length<vs.length:=(Rp.1 h1).1
       have e2:i*s+j=xs.length*s+((i-us.length)*s+j):=by
        have:i*s=xs.length*s+(i-us.length)*s:=by rw[←Ta];congr 1;omega
        omega
       have e3:(i-us.length)*s+j<ys.length*s:=lt_mul (by omega) hj;rw[if_pos ⟨by omega,by omega⟩];rw[show i*s+j-xs.length*s=(i-us.length)*s+j by omega];exact yO hvz h1 h2)
     (fun he x hx=>by
      rw[SI,cm _ _ _ (by simpa using hroom)]at hx;rcases RB.1 hx with hx|hx
      ·rcases RB.1 hx with hx|hx
       ·exact qA (by subst he;rfl) x (RY hx)
       ·exact ml hv1 x hx
      ·exact qA (by subst he;rfl) x (Sa hx))
     (fun k u hu=>by
      obtain⟨he,hk⟩:=q14 k u hu;have hex:ex=false:=by cases ex;rfl;cases he
      have hcell:=h.aO _ _ _ hu;rw[bq q10]at hcell;refine⟨hex,by simp only[Rk,Ta];omega,?_⟩;rw[show((aH cs.toList (xs.length*s) (fl vs)).toArray)[k]? =(aH cs.toList (xs.length*s) (fl vs))[k]? by simp];rw[er (by simpa using hroom),if_neg (by omega),Sk];exact hcell)
     (h.below.step ⟨rfl,rfl,rfl,by simp,fun k hk=>setRow_other w b k _ (by omega),Ro _⟩ b (iY q10) fun k _ hne=>setRow_other w b k _ hne) (by simp) (fun k hk hne=>setRow_other w b k _ hne)
    refine⟨_,_,g',hr,hle,hR,?_⟩;have e4:(xs++ys).length=xs.length+ys.length:=by simp
    rw[e4]at hA ⊢;exact hA
  ·
   have hold:(Builtin.firstCells i.size xs.length (.slice o xs.length c)).run P w.drew= .ok (fl us).toArray w.drew:=by
    rw[his];have e1:us=[]↔xs=[]:=by rw[←SX,←SX,hul]
    exact ly (w:=w) (xs:=xs) hul q3 (by rcases q6 with q6|⟨b,o',e,_,q6⟩;exact .inl (e1.2 q6);exact .inr ⟨b,o',e,q6⟩) w.drew (fun _=>rfl) s (.inl rfl)
   have hnew:(Builtin.firstCells i.size ys.length x).run P w.drew= .ok (fl vs).toArray w.drew:=by rw[his];exact hx w.drew fun _=>rfl
   have hr:=tT (w:=w) (ty:=ty) (base:=o) (n:=xs.length) (c:=c) ht ht' hd' hi hz (hlx w) hold hnew (by omega) hmx hby;have hcap:=grownCap_ge w (xs.length+ys.length) c e;have hcm:=grownCap_le_maxLen w (xs.length+ys.length) c e hmx;generalize hC:grownCap w (xs.length+ys.length) c e=C at*;have hfl:(fl us++fl vs).length=(xs.length+ys.length)*s:=by rw[←ry,dR hsz];simp[hul,hvl]
   have hcells:((fl us).toArray++(fl vs).toArray++Builtin.zeroCells z.cells (C-(xs.length+ys.length))).size=C*s:=by
    have h0:(Builtin.zeroCells z.cells (C-(xs.length+ys.length))).size=(C-(xs.length+ys.length))*s:=by rw[size_zeroCells,hzs,his]
    simp only[Tz,h0,SY];rw[←Rk,hfl,←Ta];congr 1;omega
   obtain⟨g',hle,hR,hA⟩:=ho.Gn (w':=w.drew.alloc (.cells ((fl us).toArray++(fl vs).toArray++Builtin.zeroCells z.cells (C-(xs.length+ys.length))) e)) hpos hl ex (xs:=xs++ys) (us:=us++vs) (b:=w.heap.size) (c:=C) (e:=e)
    (cs:=(fl us).toArray++(fl vs).toArray++Builtin.zeroCells z.cells (C-(xs.length+ys.length)))
    hlt h.below.size (.inr (Ro _)) (heap_alloc_new w.drew _) hcells (by simpa using hcap) hcm (q2.append hv) hsz hone
    (fun i u j x h1 h2=>by
     have hj:j<s:=by rw[←hsz i u h1];exact(Rq.1 h2).1
     have hi2:i<(us++vs).length:=(Rp.1 h1).1;have hlt2:i*s+j<(xs.length+ys.length)*s:=lt_mul (by rw[Rk,hul,hvl]at hi2;exact hi2) hj;have:=yO hsz h1 h2;rw[ry]at this;rw[S7 (by simp only[Tz,SY];rw[←Rk,hfl];exact hlt2)];rw[←Sk];simpa using this)
    (fun he x hx=>by
     simp only[SB,RB,SI]at hx;rcases hx with(hx|hx)|hx
     ·exact ml q4 x hx
     ·exact ml hv1 x hx
     ·exact bF hz1 _ x hx)
    (fun k u hu=>by have:=World.block_lt_of_cell? w _ (h.aO _ _ _ hu);simp at this)
    (h.below.grow ((fJ.refl _ _).drew.alloc (by simp) _)) (by simp) (fun k hk hne=>heap_alloc_old w.drew _ hk)
   refine⟨_,_,g',hr,hle,hR,?_⟩;have e4:(xs++ys).length=xs.length+ys.length:=by simp
   rw[e4]at hA ⊢;exact hA
theorem DL{o:Oper}{t t':TypeId}{x y:Operand}(ho:o.op= .call {callee:= .builtin .append,args:= #[x,y],argTypes:= #[t,t']}){ρD:Operand→DV}{S:St}{K:DV→St→Prop}
 (h:ic (tk P t) (tk P t') S (ρD x) (ρD y) K):ae P w0 o ρD S K:=by
 intro g w ρ h1 h2 hcst;have hx:=h2 x (by simp[ho,Op.operands,Call.operands]);have hy:=h2 y (by simp[ho,Op.operands,Call.operands]);unfold ic at h;split at h
 ·rename_i e s by' hk;obtain⟨hni,h⟩:=h;obtain⟨hu,hcs,hbs,hei⟩:=cE hk;obtain⟨d',hu',hd'⟩:=qE hni;obtain⟨ti,z,hi,hz,hzs,hpos⟩:=bI hei;have his:ti.size=s:=by simpa[Program.cellsOf,hi]using hcs
  have hib:ti.bytes=by':=by simpa[Program.bytesOf,hi]using hbs
  obtain⟨s2,ys,vs,⟨hs2,hK⟩,hv,hvz,hv1,hlx,hfx⟩:=tI (P:=P) h1 hy h
  have hvz':∀(i:Nat) (u:Value),vs[i]? =some u→u.cells.size=s:=by
   rcases hs2 with rfl|rfl
   ·exact hvz
   ·have:vs=[]:=Rs hv.len.symm;subst this;simp
  have hfx':∀w',(∀p,w'.cell? p=w.cell? p)→(Builtin.firstCells s ys.length (ρ y)).run P w'= .ok (fl vs).toArray w':=fun w' hw'=>hfx w' hw' s (hs2.imp Eq.symm id)
  have fin:∀{u:Value} {w':World} {g':Gh} {d:DV} {S':St},(Builtin.append_ #[t,t'] o.type #[ρ x,ρ y]).run P w= .ok u w'→g.le g'→Rel w0 g' S' w'→aA g' d u→K d S'→
   match(execOp ρ o).run P w with
   | .ok (.value u) w'=>∃g' d S',g.le g'∧Rel w0 g' S' w'∧aA g' d u∧K d S'
   | .ok .skip w'=>∃g' S',g.le g'∧Rel w0 g' S' w'∧K ud S'
   | .ok (.enter f args) w'=>Calls P f args w' (Ends w0 g K)
   | .ok (.round l f tmps assign body) w'=>∀ro,RoundIn (fz ro) 0 P l f tmps assign body w' (Ends w0 g K)
   | .halt (.panic v) w'=>(∀c,o.op≠ .defer c)∧∃g' d S',g.le g'∧Rel w0 g' S' w'∧aA g' d v∧w0.pq d S'
   |_=>False:=by
   intro u w' g' d S' hr hle hR hd hk;have:(execOp ρ o).run P w= .ok (.value u) w':=by simp[execOp,ho,resolve,invoke,builtin,hr]
   rw[this];exact⟨g',d,S',hle,hR,hd,hk⟩
  unfold uv at hK;split at hK
  ·rename_i l n hxe;split at hK
   ·rename_i s' xs hl;obtain⟨rfl,rfl,hby,hmx,hK⟩:=hK;rw[hxe]at hx;obtain⟨u,w',g',hr,hle,hR,hA⟩:=nv (P:=P) (ex:=true) (ty:=o.type) h1 hl hu hu' hd' hi hz hzs his (cW hei hi hz) hx hv hvz' hv1 hlx hfx' (by rw[hib];exact hby) hmx;exact fin hr hle hR hA hK
   ·rename_i s' xs hl;obtain⟨rfl,rfl,hby,hmx,hK⟩:=hK;rw[hxe]at hx;obtain⟨u,w',g',hr,hle,hR,hA⟩:=nv (P:=P) (ex:=false) (ty:=o.type) h1 hl hu hu' hd' hi hz hzs his (cW hei hi hz) hx hv hvz' hv1 hlx hfx' (by rw[hib];exact hby) hmx;exact fin hr hle hR hA hK
   ·exact hK.elim
  ·rename_i s0 hxe;rw[hxe]at hx;obtain⟨hby,hmx,hK⟩:=hK;have hx:aA g (.sl s true []) (ρ x):=by obtain⟨o',ho'⟩:=cq hx;rw[ho'];exact .nil _ _ _ _ fun _=>rfl
   obtain⟨l,g1,hle1,hne,hR1,hA1⟩:=h1.oX (s:=s) (by omega) hx (.arr s []) (.inr ⟨rfl,rfl⟩);obtain⟨u,w',g',hr,hle,hR,hA⟩:=nv (P:=P) (ex:=true) (xs:=[]) (ty:=o.type) hR1 (by simp[lk,EG]) hu hu' hd' hi hz hzs his (cW hei hi hz) hA1 (hv.mono hle1) hvz' hv1 hlx hfx' (by rw[hib];simpa using hby) (by simpa using hmx);refine fin hr (hle1.trans hle) hR hA ?_;simpa[up,EG]using hK l (bN hne)
  ·rename_i s0 xs _ hxe;rw[hxe]at hx;obtain⟨rfl,hby,hmx,hK⟩:=hK;obtain⟨l,g1,hle1,hne,hR1,hA1⟩:=h1.oX (s:=s0) (by omega) hx (.tl s0 xs) (.inl rfl);obtain⟨u,w',g',hr,hle,hR,hA⟩:=nv (P:=P) (ex:=false) (xs:=xs) (ty:=o.type) hR1 (by simp[lk,EG]) hu hu' hd' hi hz hzs his (cW hei hi hz) hA1 (hv.mono hle1) hvz' hv1 hlx hfx' (by rw[hib];exact hby) hmx;refine fin hr (hle1.trans hle) hR hA ?_;simpa[up,EG]using hK l (bN hne)
  ·exact hK.elim
 ·exact h.elim
end
end Aml
namespace Aml
open Go Go.RowKit
def iZ(S:St)(d:DV)(K:DV→St→Prop):Prop:=match d with
 | .acc l n=>match lk S.acc l with
  |some (.arr s xs)=>xs.length=n∧K (.sl s false xs) ⟨S.box,up S.acc l (.tl s xs)⟩
  |some (.tl s xs)=>xs.length=n∧K (.sl s false xs) S
  |_=>False
 |d=>K d S
def jR(S:St):List DV→(List DV→St→Prop)→Prop
 |[],K=>K [] S
 |d::ds,K=>iZ S d fun e S=>jR S ds fun es S=>K (e::es) S
def shr(S:St)(d:DV)(K:DV→St→Prop):Prop:=match d with
 | .agg ds=>jR S ds fun ds S=>K (.agg ds) S
 |d=>iZ S d K
def eo(S:St):List DV→(List DV→St→Prop)→Prop
 |[],K=>K [] S
 |d::ds,K=>shr S d fun e S=>eo S ds fun es S=>K (e::es) S
def qe(S:St)(d:DV)(K:DV→St→Prop):Prop:=match d with
 | .bU ds=>eo S ds fun ds S=>K (.bU ds) S
 |d=>shr S d K
section
variable {P:Program} {w0:W0}
theorem Rel.freeze{g:Gh}{S:St}{w:World}(h:Rel w0 g S w){l s:Nat}{xs:List DV}(hl:lk S.acc l=some (.arr s xs)){u:Value}(hu:g.acc l xs.length=some u):
 ∃g',g.le g'∧Rel w0 g' ⟨S.box,up S.acc l (.tl s xs)⟩ w∧aA g' (.sl s false xs) u:=by
 obtain⟨ow,ho⟩:=h.open_;have hmem:=bd hl;obtain⟨hs,⟨he,o,ha⟩|⟨b,c,cs,e,h1,h2,h3,h4,h5,h6,h7,h8,hA,us,h9,h10,h11,h12⟩⟩:=ho.acc l _ hmem
 ·subst he;rw[show([]:List DV).length=0 from rfl,ha]at hu;cases hu;refine⟨g,.refl g,dc.close (ow:=ow) ⟨ho.below,ho.aO,ho.nb,by rw[iN];exact ho.na,ho.df,ho.fresh,?_,ho.box,?_,ho.iJ⟩,.nil _ _ _ _ fun x=>by cases x⟩
  ·intro l' o' hl' k hk;rcases dG ho.na hl' with e|⟨hm,hne⟩
   ·simp only[RS]at e;obtain⟨rfl,rfl⟩:=e;exact ho.top _ _ hmem k hk
   ·exact ho.top _ _ hm k hk
  ·intro l' o' hl';rcases dG ho.na hl' with e|⟨hm,hne⟩
   ·simp only[RS]at e;obtain⟨rfl,rfl⟩:=e;exact⟨hs,.inl ⟨_,ha,.nil _ _ _ _ fun _=>rfl⟩⟩
   ·exact ho.acc _ _ hm
 ·rw[h1]at hu;cases hu;let f:Nat→Option Value:=fun i=>if i<xs.length*s then cs[i]? else none
  have hle:g.le (g.aN b f):=Gh.eZ fun i u hu=>by rw[h4]at hu;cases hu
  have hlen:us.length=xs.length:=h9.len.symm
  have hrep:aA (g.aN b f) (.sl s false xs) (.slice (some ⟨b,0,none⟩) xs.length c):=by
   have:=aA.sl (g:=g.aN b f) s false xs b 0 c us hlen.symm (by simp) (by omega) h8 (h9.mono hle).at_ h10 h11 (fun i u j x a1 a2=>by
    simp only[Gh.aN,if_true,Sz,f];have hj:j<s:=by rw[←h10 i u a1];exact(Rq.1 a2).1
    have hi:i<us.length:=(Rp.1 a1).1;rw[if_pos (lt_mul (by omega) hj)];exact h12 i u j x a1 a2)
   rwa [hlen]at this
  refine⟨g.aN b f,hle,dc.close (ow:=ow) ⟨ho.below.le hle,?_,ho.nb,by rw[iN];exact ho.na,ho.df,ho.fresh,?_,?_,?_,ho.iJ⟩,hrep⟩
  ·intro b' i u hu;simp only[Gh.aN]at hu;split at hu
   ·rename_i e';subst e';simp only[f]at hu;split at hu
    ·rw[bq h5];exact hu
    ·cases hu
   ·exact ho.aO _ _ _ hu
  ·intro l' o' hl' k hk;rcases dG ho.na hl' with e|⟨hm,hne⟩
   ·simp only[RS]at e;obtain⟨rfl,rfl⟩:=e;exact ho.top _ _ hmem k hk
   ·exact ho.top _ _ hm k hk
  ·intro b' ds hb';refine(ho.box b' ds hb').step hle fun x=>⟨x,rfl,fun i hi=>?_⟩;have:b'≠b:=by rintro rfl;rw[h2]at x;cases x
   simp only[Gh.aN,if_neg this];exact hi
  ·intro l' o' hl';rcases dG ho.na hl' with e'|⟨hm,hne⟩
   ·simp only[RS]at e';obtain⟨rfl,rfl⟩:=e';refine⟨hs,.inr ⟨b,c,cs,e,h1,h2,h3,fun i hi=>?_,h5,h6,h7,h8,hrep⟩⟩;simp only[Gh.aN,if_true,f];rw[if_neg (by omega)]
   ·refine(ho.acc _ _ hm).step hle fun b' x=>⟨x,rfl,fun i hi=>?_⟩;have:b'≠b:=by rintro rfl;rw[h2]at x;simp at x;exact hne x.symm
    simp only[Gh.aN,if_neg this];exact hi
theorem tp{g:Gh}{S:St}{w:World}(h:Rel w0 g S w){d:DV}{u:Value}(r:aA g d u){K:DV→St→Prop}(hk:iZ S d K):∃g' d' S',g.le g'∧Rel w0 g' S' w∧aA g' d' u∧K d' S':=by
 unfold iZ at hk;split at hk
 ·rename_i l n;obtain⟨o,c,hv,ha⟩:=ep r;split at hk
  ·rename_i s xs hl;obtain⟨rfl,hk⟩:=hk;obtain⟨g',hle,hR,hr⟩:=h.freeze hl (hv▸ha);exact⟨g',_,_,hle,hR,hr,hk⟩
  ·rename_i s xs hl;obtain⟨rfl,hk⟩:=hk;obtain⟨ow,ho⟩:=h.open_;obtain⟨hs,⟨u',ha',r'⟩|⟨b,c',cs,e,h1,h2,h3,h4,h5,h6,h7,h8,r'⟩⟩:=ho.acc l _ (bd hl)
   ·rw[ha]at ha';cases ha';refine⟨g,.sl s false xs,S,.refl g,h,?_,hk⟩;rw[hv];rcases eL r' with⟨he,o',c',hv',_⟩|⟨b,o',c',us,hv',hr,hfl,hlc,hcm,hzz,hone,hc⟩
    ·rw[hv',he];exact .nil _ _ _ _ fun x=>by cases x
    ·rw[hv'];have hlen:us.length=xs.length:=hr.len.symm;have:=aA.sl (g:=g) s false xs b o' c' us hlen.symm (by simp) (by omega) hcm hr.at_ hzz hone hc
     rwa [hlen]at this
   ·rw[ha]at h1;cases h1;exact⟨g,.sl s false xs,S,.refl g,h,by rw[hv];exact r',hk⟩
  ·exact hk.elim
 ·exact⟨g,d,S,.refl g,h,r,hk⟩
theorem uH:∀(ds:List DV) {g:Gh} {S:St} {w:World} (h:Rel w0 g S w) {us:List Value} (r:aa g ds us) {K:List DV→St→Prop} (hk:jR S ds K),∃g' ds' S',g.le g'∧Rel w0 g' S' w∧aa g' ds' us∧K ds' S'
 |[],g,S,w,h,us,r,K,hk=>by
  have:us=[]:=Rs r.len.symm;subst this;exact⟨g,[],S,.refl g,h,aa.nil g,hk⟩
 |d::ds,g,S,w,h,us,r,K,hk=>by
  obtain⟨u,us',rfl,hu,hr⟩:=r.ba;obtain⟨g1,d',S1,l1,R1,r1,k1⟩:=tp h hu hk;obtain⟨g2,ds',S2,l2,R2,r2,k2⟩:=uH ds R1 (hr.mono l1) k1;exact⟨g2,d'::ds',S2,l1.trans l2,R2,aa.cons (r1.mono l2) r2,k2⟩
theorem jS{g:Gh}{S:St}{w:World}(h:Rel w0 g S w){d:DV}{u:Value}(r:aA g d u){K:DV→St→Prop}(hk:shr S d K):∃g' d' S',g.le g'∧Rel w0 g' S' w∧aA g' d' u∧K d' S':=by
 unfold shr at hk;split at hk
 ·obtain⟨us,rfl,hr,h1⟩:=jy r;obtain⟨g',ds',S',l1,R1,r1,k1⟩:=uH _ h hr hk;exact⟨g',_,S',l1,R1,.agg _ _ r1.len r1.at_ h1,k1⟩
 ·exact tp h r hk
theorem eY:∀(ds:List DV) {g:Gh} {S:St} {w:World} (h:Rel w0 g S w) {us:List Value} (r:aa g ds us) {K:List DV→St→Prop} (hk:eo S ds K),∃g' ds' S',g.le g'∧Rel w0 g' S' w∧aa g' ds' us∧K ds' S'
 |[],g,S,w,h,us,r,K,hk=>by
  have:us=[]:=Rs r.len.symm;subst this;exact⟨g,[],S,.refl g,h,aa.nil g,hk⟩
 |d::ds,g,S,w,h,us,r,K,hk=>by
  obtain⟨u,us',rfl,hu,hr⟩:=r.ba;obtain⟨g1,d',S1,l1,R1,r1,k1⟩:=jS h hu hk;obtain⟨g2,ds',S2,l2,R2,r2,k2⟩:=eY ds R1 (hr.mono l1) k1;exact⟨g2,d'::ds',S2,l1.trans l2,R2,aa.cons (r1.mono l2) r2,k2⟩
theorem IF{g:Gh}{S:St}{w:World}(h:Rel w0 g S w){d:DV}{u:Value}(r:aA g d u){K:DV→St→Prop}(hk:qe S d K):∃g' d' S',g.le g'∧Rel w0 g' S' w∧aA g' d' u∧K d' S':=by
 unfold qe at hk;split at hk
 ·obtain⟨us,rfl,hr⟩:=zr r;obtain⟨g',ds',S',l1,R1,r1,k1⟩:=eY _ h hr hk;exact⟨g',_,S',l1,R1,.bU _ _ r1.len r1.at_,k1⟩
 ·exact jS h r hk
def okF(P:Program)(f:FuncId):Bool:=match P.funcs[f]? with
 |some fn=>fn.body.isSome&&!(fn.name== "runtime.NumGoroutine")
 |none=>false
theorem H6{o:Oper}{f:FuncId}{args:List Operand}{ts:Array TypeId}{cal:Operand}(ho:o.op= .call {callee:= .value cal,args:=args.toArray,argTypes:=ts}){ρD:Operand→DV}{S:St}{K:DV→St→Prop}
 {cap:List Value} (hcal:ρD cal= .v (.func (.func f) #[] cap.toArray)) (hf:okF P f=true) (h:(ab P w0 f (args.map ρD++cap.map .v) S K)∨eo S (args.map ρD) fun ds S=>ab P w0 f (ds++cap.map .v) S K) (hcap:∀u,u∈cap→u.oneCell'=true):ae P w0 o ρD S K:=by
 intro g w ρ h1 h2 hcst;have hc:=h2 cal (by simp[ho,Op.operands,Call.operands]);rw[hcal]at hc;have hv:=an hc;have hargs:=bP (g:=g) (ρD:=ρD) (ρ:=ρ) args (fun p hp=>h2 p (by simp[ho,Op.operands,Call.operands,hp]));unfold okF at hf;split at hf
 ·rename_i fn hfn;simp only[Rm,Sc]at hf;obtain⟨hb,hname⟩:=hf
  have hrun:(execOp ρ o).run P w= .ok (.enter f ((args.map ρ)++cap).toArray) w:=by
   have hbn:¬fn.body=none:=by intro e;simp[e]at hb
   have hname':¬fn.name= "runtime.NumGoroutine" :=by simpa using hname
   simp[execOp,ho,resolve,hv,Deferred.ofValue,invoke,callFunc,hfn,hname',hbn]
  rw[hrun]
  obtain⟨g1,ds,S1,l1,R1,r1,k1⟩:∃g1 ds S1,g.le g1∧Rel w0 g1 S1 w∧aa g1 ds (args.map ρ)∧ab P w0 f (ds++cap.map .v) S1 K:=by
   rcases h with h|h
   ·exact⟨g,_,S,.refl g,h1,hargs,h⟩
   ·exact eY _ h1 hargs h
  have hcapR:aa g1 (cap.map .v) cap:=⟨by simp,fun i d u a1 a2=>by
   simp only[Rt,Rw]at a1;obtain⟨u',a1,rfl⟩:=a1;rw[a2]at a1;cases a1;exact .v _ (hcap _ (Rj a2))⟩
  refine(k1 g1 _ w R1 (by simpa using r1.append hcapR)).mono ?_;exact fun e w' k=>k.mono l1 fun _ _ x=>x
 ·cases hf
theorem C9{o:Oper}{f:FuncId}{args:List Operand}{ts:Array TypeId}{cal:Operand}(ho:o.op= .call {callee:= .value cal,args:=args.toArray,argTypes:=ts}){ρD:Operand→DV}{S:St}{K:DV→St→Prop}
 {fst cap:List Value} (hcal:ρD cal= .v (.func (.func f) fst.toArray cap.toArray)) (hf:okF P f=true) (h:(ab P w0 f (fst.map .v++(args.map ρD++cap.map .v)) S K)∨eo S (args.map ρD) fun ds S=>ab P w0 f (fst.map .v++(ds++cap.map .v)) S K) (hfst:∀u,u∈fst→u.oneCell'=true) (hcap:∀u,u∈cap→u.oneCell'=true):ae P w0 o ρD S K:=by
 intro g w ρ h1 h2 hcst;have hc:=h2 cal (by simp[ho,Op.operands,Call.operands]);rw[hcal]at hc;have hv:=an hc;have hargs:=bP (g:=g) (ρD:=ρD) (ρ:=ρ) args (fun p hp=>h2 p (by simp[ho,Op.operands,Call.operands,hp]));unfold okF at hf;split at hf
 ·rename_i fn hfn;simp only[Rm,Sc]at hf;obtain⟨hb,hname⟩:=hf
  have hrun:(execOp ρ o).run P w= .ok (.enter f (fst++((args.map ρ)++cap)).toArray) w:=by
   have hbn:¬fn.body=none:=by intro e;simp[e]at hb
   have hname':¬fn.name= "runtime.NumGoroutine" :=by simpa using hname
   simp[execOp,ho,resolve,hv,Deferred.ofValue,invoke,callFunc,hfn,hname',hbn]
  rw[hrun]
  obtain⟨g1,ds,S1,l1,R1,r1,k1⟩:∃g1 ds S1,g.le g1∧Rel w0 g1 S1 w∧aa g1 ds (args.map ρ)∧ab P w0 f (fst.map .v++(ds++cap.map .v)) S1 K:=by
   rcases h with h|h
   ·exact⟨g,_,S,.refl g,h1,hargs,h⟩
   ·exact eY _ h1 hargs h
  have one:∀{l:List Value},(∀u,u∈l→u.oneCell'=true)→aa g1 (l.map .v) l:=fun{l} hl=>⟨by simp,fun i d u a1 a2=>by
   simp only[Rt,Rw]at a1;obtain⟨u',a1,rfl⟩:=a1;rw[a2]at a1;cases a1;exact .v _ (hl _ (Rj a2))⟩
  refine(k1 g1 _ w R1 (by simpa using(one hfst).append (r1.append (one hcap)))).mono ?_;exact fun e w' k=>k.mono l1 fun _ _ x=>x
 ·cases hf
def Ja(P:Program)(t:TypeId)(name:String):Option FuncId:=match tk P t,P.info? t with
 | .st _ _,some i=>(match i.methods.find? (·.name==name)with
  |some m=>(match m.path.toList,m.func with
   |[],some (f,false)=>some f
   |_,_=>none)
  |none=>none)
 |_,_=>none
theorem xm{t:TypeId}{name:String}{f:FuncId}(h:Ja P t name=some f)(v:Value)(n:Nat)(w:World):(Go.method (n+1) t v name).run P w= .ok (f,v) w:=by
 unfold Ja at h;split at h
 ·rename_i fs sz i hk hi;obtain⟨F,i',hu,_,_,_,_⟩:=zm hk;split at h
  ·rename_i m hm;split at h
   ·rename_i f' hp hf;cases h
    have hr:∀o,(Go.receiverAt t (.val v) false o).run P w= .ok v w:=fun o=>by
     simp[Go.receiverAt,run_underlying hu,Go.Place.get]
    simp[Go.method,typeInfo,hi,hm,hp,hf,Go.follow,hr]
   ·cases h
  ·cases h
 ·cases h
theorem F0{o:Oper}{f:FuncId}{args:List Operand}{ts:Array TypeId}{r:Operand}{name:String}(ho:o.op= .call {callee:= .invoke r name,args:=args.toArray,argTypes:=ts}){ρD:Operand→DV}{S:St}{K:DV→St→Prop}
 {t:TypeId} (hr:ρD r= .fN t (.agg [])) (hi:Ja P t name=some f) (hf:okF P f=true) (h:(ab P w0 f (.agg []::args.map ρD) S K)∨eo S (.agg []::args.map ρD) fun ds S=>ab P w0 f ds S K):ae P w0 o ρD S K:=by
 intro g w ρ h1 h2 hcst;have hc:=h2 r (by simp[ho,Op.operands,Call.operands]);rw[hr]at hc;obtain⟨u,hv,hu⟩:=jA hc;have hargs:=bP (g:=g) (ρD:=ρD) (ρ:=ρ) args (fun p hp=>h2 p (by simp[ho,Op.operands,Call.operands,hp]));unfold okF at hf;split at hf
 ·rename_i fn hfn;simp only[Rm,Sc]at hf;obtain⟨hb,hname⟩:=hf
  have hrun:(execOp ρ o).run P w= .ok (.enter f (u::args.map ρ).toArray) w:=by
   have hbn:¬fn.body=none:=by intro e;simp[e]at hb
   have hname':¬fn.name= "runtime.NumGoroutine" :=by simpa using hname
   have hm:(Go.method (P.types.size+Made.depth) t u name).run P w= .ok (f,u) w:=xm hi u (P.types.size+99) w;simp[execOp,ho,resolve,hv,invoke,callMethod,hm,callFunc,hfn,hname',hbn];exact RN (by simp)
  rw[hrun]
  obtain⟨g1,ds,S1,l1,R1,r1,k1⟩:∃g1 ds S1,g.le g1∧Rel w0 g1 S1 w∧aa g1 ds (u::args.map ρ)∧ab P w0 f ds S1 K:=by
   rcases h with h|h
   ·exact⟨g,_,S,.refl g,h1,aa.cons hu hargs,h⟩
   ·exact eY _ h1 (aa.cons hu hargs) h
  refine(k1 g1 _ w R1 (by simpa using r1)).mono ?_;exact fun e w' k=>k.mono l1 fun _ _ x=>x
 ·cases hf
def Jg(P:Program)(w0:W0)(l:Nat)(args:List DV)(S:St)(K:DV→St→Prop):Prop:=
 ∀g (vs:Array Value) w,Rel w0 g S w→aa g args vs.toList→∃fn tmps assign body,(Instr.yield l vs).run P w= .ok (.round l fn tmps assign body) w∧
  ∀ro,RoundIn (fz ro) 0 P l fn tmps assign body w (Ends w0 g K)
theorem Iy{o:Oper}{l:Nat}{args:List Operand}{ts:Array TypeId}{cal:Operand}(ho:o.op= .call {callee:= .value cal,args:=args.toArray,argTypes:=ts}){ρD:Operand→DV}{S:St}{K:DV→St→Prop}
 (hcal:ρD cal= .v (.func (.yield l) #[] #[])) (h:eo S (args.map ρD) fun ds S=>Jg P w0 l ds S K):ae P w0 o ρD S K:=by
 intro g w ρ h1 h2 hcst;have hc:=h2 cal (by simp[ho,Op.operands,Call.operands]);rw[hcal]at hc;have hv:=an hc;have hargs:=bP (g:=g) (ρD:=ρD) (ρ:=ρ) args (fun p hp=>h2 p (by simp[ho,Op.operands,Call.operands,hp]));obtain⟨g1,ds,S1,l1,R1,r1,k1⟩:=eY _ h1 hargs h;obtain⟨fn,tmps,assign,body,q1,q2⟩:=k1 g1 (args.map ρ).toArray w R1 (by simpa using r1)
 have hrun:(execOp ρ o).run P w= .ok (.round l fn tmps assign body) w:=by
  rw[←q1];simp[execOp,ho,resolve,hv,Deferred.ofValue,invoke]
 rw[hrun];intro ro;exact(q2 ro).mono fun e w' k=>k.mono l1 fun _ _ x=>x
def mq(P:Program)(fr:List DV)(S:St)(K:DV→Prop):ResultVar→Prop
 | .tmp t=>K (fr.getD t ud)
 | .cell a t=>bX (tk P t) S (fr.getD a ud) K
def nL(P:Program)(fr:List DV)(S:St):List ResultVar→(List DV→Prop)→Prop
 |[],K=>K []
 |r::rs,K=>mq P fr S (fun d=>nL P fr S rs fun ds=>K (d::ds)) r
def jJ(P:Program)(fr:List DV)(S:St)(rs:List ResultVar)(K:DV→Prop):Prop:=match rs with
 |[r]=>mq P fr S K r
 |rs=>nL P fr S rs fun ds=>K (.bU ds)
theorem FH{g:Gh}{S:St}{w:World}(h1:Rel w0 g S w){t:TypeId}{d:DV}{u:Value}(hx:aA g d u){K:DV→Prop}(h:bX (tk P t) S d K):∃a v d',u= .pointer (some a)∧(loadVar t a).run P w= .ok v w∧aA g d' v∧K d':=by
 have fin:∀{b o':Nat} {ds:List DV} {us:List Value},u= .pointer (some ⟨b,o',none⟩)→aa g ds us→(∀u,u∈us→u.oneCell'=true)→(∀(j:Nat) (x:Value),us[j]? =some x→w.cell? ⟨b,o'+j,none⟩=some x)→
  mL (tk P t) ds K→∃a v d',u= .pointer (some a)∧(loadVar t a).run P w= .ok v w∧aA g d' v∧K d':=by
  intro b o' ds us hv hr hone hc hk;obtain⟨d,u',hrun,hd,hk⟩:=yZ (P:=P) hr hone hc hk;exact⟨_,u',d,hv,by simpa[Instr.loadAt,Instr.sureAddr]using hrun,hd,hk⟩
 unfold bX at h;split at h
 ·split at h
  ·rename_i ds hb;obtain⟨_,_,us,e,hh,hr,hone⟩:=h1.sF hb;refine fin (an hx) (hr.drop _) (fun u hu=>hone u (Sa hu)) (fun j x hj=>?_) h;rw[bq hh];simpa using hj
  ·exact h.elim
 ·obtain⟨b,o',us,hv,hr,hone,hi⟩:=lT hx;exact fin hv hr hone (fun j x hj=>h1.aO _ _ _ (hi j x hj)) h
 ·rename_i l n s i o';obtain⟨b,q,c,hv,ha⟩:=oR hx
  have go:∀(ob:Ob) (xs:List DV),lk S.acc l=some ob→(ob= .arr s xs∨ob= .tl s xs)→xs.length=n→(∃d,xs[i]? =some d∧dA d=true∧mL (tk P t) ((cd d).drop o') K)→
   ∃a v d',u= .pointer (some a)∧(loadVar t a).run P w= .ok v w∧aA g d' v∧K d':=by
   intro ob xs hob he hn ⟨d,hd1,hd2,hk⟩;subst hn;obtain⟨us,hr,hone,hc⟩:=h1.qZ hob he ha hd1 hd2;refine fin hv (hr.drop o') (fun u hu=>hone u (Sa hu)) (fun j x hj=>?_) hk;rw[Sy];exact hc _ _ (by simpa using hj)
  split at h
  ·rename_i s' xs hob;obtain⟨hn,rfl,hk⟩:=h;exact go _ xs hob (.inl rfl) hn hk
  ·rename_i s' xs hob;obtain⟨hn,rfl,hk⟩:=h;exact go _ xs hob (.inr rfl) hn hk
  ·exact h.elim
 ·exact h.elim
def qv(tmps:Array Value):ResultVar→Sem Value
 | .tmp t=>pure (tmps.getD t undef)
 | .cell p t=>do loadVar t (←asAddr (tmps.getD p undef))
theorem gS(fn:Func)(tmps:Array Value):results fn tmps=(do
 let vs ←fn.results.mapM (qv tmps)
 pure (if h:vs.size=1 then vs[0]else .tuple vs)):=by
 unfold results;congr 1
theorem vt{g:Gh}{S:St}{w:World}(h1:Rel w0 g S w){fr:List DV}{a:Act}(hr:aa g fr a.tmps.toList){K:DV→Prop}{r:ResultVar}(h:mq P fr S K r):
 ∃v d,(qv a.tmps r).run P w= .ok v w∧aA g d v∧K d:=by
 cases r with
 |tmp t=>
  have:=hr.getD t;exact⟨_,_,rfl,by simpa using this,h⟩
 |cell p t=>
  have hx:=hr.getD p;obtain⟨ad,v,d,e1,e2,e3,e4⟩:=FH (P:=P) h1 hx h;refine⟨v,d,?_,e3,e4⟩;have e1':a.tmps.getD p undef= .pointer (some ad):=by simpa using e1
  simp only[qv,e1',asAddr];simpa using e2
theorem uL{g:Gh}{S:St}{w:World}(h1:Rel w0 g S w){fr:List DV}{a:Act}(hr:aa g fr a.tmps.toList):∀(rs:List ResultVar) {K:List DV→Prop} (h:nL P fr S rs K),
 ∃vs ds,(rs.mapM (qv a.tmps)).run P w= .ok vs w∧aa g ds vs∧K ds∧vs.length=rs.length
 |[],K,h=>⟨[],[],by simp,aa.nil g,h,rfl⟩
 |r::rs,K,h=>by
  obtain⟨v,d,e1,e2,e3⟩:=vt (P:=P) h1 hr h;obtain⟨vs,ds,q1,q2,q3,q4⟩:=uL h1 hr rs e3;refine⟨v::vs,d::ds,?_,aa.cons e2 q2,q3,by simp[q4]⟩;rw[List.mapM_cons];simp only[Sem.run_bind,e1,q1,Result.andThen_ok,Sem.run_pure]
theorem zt{g:Gh}{S:St}{w:World}(h1:Rel w0 g S w){fr:List DV}{a:Act}(hr:aa g fr a.tmps.toList){fn:Func}{rs:List ResultVar}(hrs:fn.results=rs.toArray){K:DV→Prop}(h:jJ P fr S rs K):
 ∃v d,(results fn a.tmps).run P w= .ok v w∧aA g d v∧K d:=by
 unfold jJ at h;split at h
 ·rename_i r;obtain⟨v,d,e1,e2,e3⟩:=vt (P:=P) h1 hr h;refine⟨v,d,?_,e2,e3⟩;rw[gS,hrs];simp only[List.mapM_toArray,List.mapM_cons,List.mapM_nil,Sem.run_bind,Sem.run_map,e1];simp
 ·rename_i hne;obtain⟨vs,ds,q1,q2,q3,q4⟩:=uL (P:=P) h1 hr rs h;refine⟨.tuple vs.toArray,.bU ds,?_,.bU ds vs q2.len q2.at_,q3⟩
  have hlen:vs.length≠1:=by
   rw[q4];intro e
   match rs,e with
   |[r],_=>exact hne r rfl
  rw[gS,hrs];simp only[List.mapM_toArray,Sem.run_bind,Sem.run_map,q1];simp[hlen]
theorem eP.put{ow:Nat→Option Key}{B:Nat}{g:Gh}{w w':World}{l:Nat}{o:Ob}{D:Nat}(h:eP ow B g w l o)(hn:∀o,w.heap[D]? =some o→nc o=true)(hs:∀k,k≠D→w'.heap[k]? =w.heap[k]?):eP ow B g w' l o:=by
 cases o with
 |arr s xs=>
  obtain⟨hs',h|⟨b,c,cs,e,h1,h2,h3,h4,h5,h6⟩⟩:=h
  ·exact⟨hs',.inl h⟩
  ·exact⟨hs',.inr ⟨b,c,cs,e,h1,h2,h3,h4,by rw[hs b (by rintro rfl;exact absurd (hn _ h5) (by simp[nc]))];exact h5,h6⟩⟩
 |tl s xs=>
  obtain⟨hs',h|⟨b,c,cs,e,h1,h2,h3,h4,h5,h6⟩⟩:=h
  ·exact⟨hs',.inl h⟩
  ·exact⟨hs',.inr ⟨b,c,cs,e,h1,h2,h3,h4,by rw[hs b (by rintro rfl;exact absurd (hn _ h5) (by simp[nc]))];exact h5,h6⟩⟩
 |xo f=>
  obtain⟨b,o,h1,h2,h3,h4,h5,h6⟩:=h;exact⟨b,o,h1,h2,h3,h4,by rw[hs b (by rintro rfl;exact absurd (hn _ h5) (by rw[h6.nc];simp))];exact h5,h6⟩
 |sb T e bs pin=>
  obtain⟨⟨b,p,v,h1,h2,h3,h4,h5,h6,h7⟩,hpin⟩:=h;refine⟨?_,hpin⟩;refine⟨b,p,v,h1,h2,h3,h4,by rw[hs b (by rintro rfl;exact absurd (hn _ h5) (by simp[nc]))];exact h5,h6,?_⟩;rcases h7 with h7|⟨r,c,cs,z,k1,k2,k3,k4,k5,k6,k7⟩
  ·exact .inl h7
  ·exact .inr ⟨r,c,cs,z,k1,k2,k3,k4,k5,by rw[hs r (by rintro rfl;exact absurd (hn _ k6) (by simp[nc]))];exact k6,k7⟩
theorem Rel.putObj{g:Gh}{S:St}{w:World}(h:Rel w0 g S w){D:Nat}{o o':Obj}(hD:w.heap[D]? =some o)(hn:nc o=true)(ho:g.obj D=none)(hB:w0.heap.size≤D):Rel w0 g S (w.putObj D o'):=by
 have hs:∀k,k≠D→(w.putObj D o').heap[k]? =w.heap[k]? :=fun k hk=>World.putObj_heap_other hk;have hnc:∀o,w.heap[D]? =some o→nc o=true:=fun o h=>by rw[hD]at h;cases h;exact hn
 obtain⟨ow,o1,o2⟩:=h.own;refine⟨⟨h.below.base.trans ⟨rfl,rfl,rfl,by simp,fun k hk=>hs k (by omega),Ro _⟩,fun k o hk=>?_,h.below.jK⟩,fun b i u hu=>?_,h.nb,h.na,h.df,h.fresh,h.top,ow,fun b ds hb=>?_,fun l o hl=>(o2 l o hl).put hnc hs⟩
 ·obtain⟨h1,h2⟩:=h.below.obj k o hk;exact⟨(hs k (by rintro rfl;rw[ho]at hk;cases hk)).trans h1,h2⟩
 ·have h1:=h.aO b i u hu
  have hne:b≠D:=by
   rintro rfl;unfold World.cell? at h1;simp only[hD]at h1;cases o <;>simp_all [nc]
  rw[World.cell?_of_block (w:=w) (w':=w.putObj D o') (a:=⟨b,i,none⟩) (hs b hne)];exact h1
 ·obtain⟨q1,q2,q3,us,e,q4,q5⟩:=o1 b ds hb;exact⟨q1,q2,q3,us,e,by rw[hs b (by rintro rfl;exact absurd (hnc _ q4) (by simp[nc]))];exact q4,q5⟩
theorem ir{fn:Func}{tmps:Array Value}{R:Ending→World→Prop}{g:Gh}{S:St}{u:FrameMode}(hu:u≠ .run)(ds0:List Deferred):∀(ds:List Deferred) (w:World),Rel w0 g S w→ds.Nodup→(∀d,d∈ds→∃D,d={target:= .collected D,args:= #[]}∧w.heap[D]? =some (.deferred (some []))∧g.obj D=none∧w0.heap.size≤D)→
 (∀w',Rel w0 g S w'→LeavesInM (fz none) 0 P fn tmps R ds0 u w')→LeavesInM (fz none) 0 P fn tmps R (ds++ds0) u w
 |[],w,h,_,_,k=>k w h
 |d::ds,w,h,hn,hd,k=>by
  obtain⟨D,e,h1,h2,h3⟩:=hd d Rx;rw[R0]at hn;refine⟨hu,.inl ⟨D,_,by rw[e],run_takeDeferred h1,?_⟩⟩;refine ir hu ds0 ds _ (h.putObj h1 rfl h2 h3) hn.2 (fun d' hd'=>?_) k;obtain⟨D',e',q1,q2⟩:=hd d' (Rr _ hd');have hne:D'≠D:=by rintro rfl;rw[←e]at e';subst e';exact hn.1 hd'
  exact⟨D',e',(World.putObj_heap_other hne).trans q1,q2⟩
theorem Ends.aE{g:Gh}{ds:List Deferred}{K:DV→St→Prop}{e:Ending}{w':World}(hs:w0.gh.sub g)(h:Ends w0 (g.aE ds) K e w'):Ends w0 g K e w':=by
 have go:∀g':Gh,(g.aE ds).le g'→g.le (g'.aE g.lC):=fun g' k=>⟨k.aO,k.acc,k.obj,rfl⟩;have su:∀g':Gh,(g.aE ds).le g'→w0.gh.sub g':=fun g' k=>⟨fun b i u x=>k.aO _ _ _ (hs.aO _ _ _ x),fun b i u x=>k.acc _ _ _ (hs.acc _ _ _ x),fun i o x=>by rw[k.obj];exact hs.obj _ _ x⟩;rcases h with⟨r,g',d,S',e,a,b,c,x⟩|⟨v,g',d,S',e,a,b,c,x⟩
 ·exact .inl ⟨r,_,d,S',e,go _ a,b.aE _ rfl (su _ a),c.aE,x⟩
 ·exact .inr ⟨v,_,d,S',e,go _ a,b.aE _ rfl (su _ a),c.aE,x⟩
theorem oS{f:FuncId}{fn:Func}{c:Code}{rs:List ResultVar}{args:List DV}{S:St}{K:DV→St→Prop}(hf:P.funcs[f]? =some fn)(hb:fn.body=some c)(hrs:fn.results=rs.toArray)
 (h:fK P w0 c (args++List.replicate (fn.ntmps-args.length) ud) S fun e fr S'=>(e= .normal∨e= .ret)∧jJ P fr S' rs fun d=>K d S'):ab P w0 f args S K:=by
 intro g vs w h1 h2;refine Calls.mono (R:=Ends w0 (g.aE []) K) ?_ fun e w'=>Ends.aE h1.below.jK;have h1:=h1.aE (w0':=w0) [] rfl h1.below.jK;have h2:aa (g.aE []) args vs.toList:=h2.aE;generalize hg:g.aE []=g0 at h1 h2 ⊢;have hgd:g0.lC=[]:=by rw[←hg];rfl
 refine(ft (ro:=none) (n:=0)).1 (callsIn_of_wp_marks hf hb trivial ?_ rfl);have hlen:args.length=vs.size:=by simpa using h2.len
 refine wpIn_mono (h g0 _ w h1 (by rw[hlen];simpa using h2.append (aa.replicate g0 (fn.ntmps-vs.size))) (.nil hgd.symm) none (.inl rfl)) ?_;rintro e a w' ⟨hd,g',fr,S',k1,k2,k3,hq⟩;obtain⟨ms,em,m1,m2⟩:=k1.dk hd;have em:a.defers=ms++[]:=by rw[em,k1.lC,hgd]
 have fin:jJ P fr S' rs (fun d=>K d S')→LeavesInM (fz none) 0 P fn a.tmps (Ends w0 g0 K) a.defers .returning w':=by
  intro k4;rw[em];refine ir (by simp) [] ms _ k2 m1 m2 fun w'' k2'=>?_;obtain⟨v,d,e1,e2,e3⟩:=zt (P:=P) k2' k3 hrs k4;exact⟨v,e1,.inl ⟨v,g',d,S',rfl,k1,k2',e2,e3⟩⟩
 cases e with
 |normal=>exact fin hq.2
 |ret=>exact fin hq.2
 |panic ch=>
  obtain⟨v,d,rfl,q1,q2⟩:=hq;show LeavesInM (fz none) 0 P fn a.tmps (Ends w0 g0 K) a.defers (.panicking _) w';rw[em];exact ir (by simp) [] ms _ k2 m1 m2 fun w'' k2'=> .inr ⟨v,g',d,S',rfl,k1,k2',q1,q2⟩
 |exit n=>rcases hq.1 with h|h <;>cases h
 |goto n=>rcases hq.1 with h|h <;>cases h
 |outgrown=>rcases hq.1 with h|h <;>cases h
end
end Aml
namespace Aml
open Go Go.RowKit
def dh(P:Program)(t:TypeId):TypeId:=match tk P t with
 | .sl e _ _ _=>e
 |_=>0
section
variable {P:Program} {w0:W0}
theorem zip_fst{α β:Type}:∀{l:List α} {r:List β},l.length=r.length→(l.zip r).map (·.1)=l
 |[],_,_=>by simp
 |a::l,[],h=>by simp at h
 |a::l,b::r,h=>by simp at h;simp[zip_fst h]
theorem nF{α β:Type}:∀{l:List α} {r:List β},l.length=r.length→(l.zip r).map (·.2)=r
 |[],[],_=>by simp
 |[],_::_,h=>by simp at h
 |a::l,[],h=>by simp at h
 |a::l,b::r,h=>by simp at h;simp[nF h]
theorem C4{o:Oper}{t:TypeId}{parts:List (Nat×Operand)}(ho:o.op= .build t parts.toArray){ρD:Operand→DV}{S:St}{K:DV→St→Prop}
 (h:eo S (parts.map fun p=>ρD p.2) fun ds S=>dO P t ((parts.map (·.1)).zip ds) (K · S)):ae P w0 o ρD S K:=by
 intro g w ρ h1 h2 hcst;have hR:=fS (g:=g) (ρD:=ρD) (ρ:=ρ) parts (fun p hp=>h2 p.2 (by simp only[ho,Op.operands];simp;exact⟨p.1,hp⟩));obtain⟨g',ds,S',l1,R1,r1,k1⟩:=eY _ h1 hR h;have hlen:(parts.map (·.1)).length=ds.length:=by have:=r1.len;simpa using this.symm
 obtain⟨d,u,e1,e2,e3⟩:=x7 (P:=P) (w:=w) (g:=g') (t:=t) (parts:=(parts.map (·.1)).zip ds) (vs:=parts.map fun p=>(p.1,ρ p.2)) (by rw[zip_fst hlen];simp) (by rw[nF hlen];simpa[TM]using r1) k1
 have hrun:(execOp ρ o).run P w= .ok (.value u) w:=by
  have e:(parts.toArray.map fun(i,x)=>(i,ρ x))=(parts.map fun p=>(p.1,ρ p.2)).toArray:=by simp
  simp only[execOp,ho,Sem.run_bind];rw[e,e1];rfl
 rw[hrun];exact⟨g',d,S',l1,R1,e2,e3⟩
theorem qd{o:Oper}{t len:Nat}{parts:List (Nat×Operand)}(ho:o.op= .buildSlice t len parts.toArray){ρD:Operand→DV}{S:St}{K:DV→St→Prop}
 (h:eo S (parts.map fun p=>ρD p.2) fun ds S=>aG (tk P t) (zD P (dh P t)) len ((parts.map (·.1)).zip ds) (K · S)):ae P w0 o ρD S K:=by
 intro g w ρ h1 h2 hcst;have hR:=fS (g:=g) (ρD:=ρD) (ρ:=ρ) parts (fun p hp=>h2 p.2 (by simp only[ho,Op.operands];simp;exact⟨p.1,hp⟩));obtain⟨g',ds,S',l1,R1,r1,k1⟩:=eY _ h1 hR h;have hlen:(parts.map (·.1)).length=ds.length:=by have:=r1.len;simpa using this.symm
 obtain⟨d,u,w',g2,e1,l2,R2,e2,e3⟩:=mX (P:=P) R1 (t:=t) (len:=len) (parts:=(parts.map (·.1)).zip ds) (vs:=parts.map fun p=>(p.1,ρ p.2)) (by rw[zip_fst hlen];simp) (by rw[nF hlen];simpa[TM]using r1)
  (e:=dh P t) (fun e' s b i hk=>by simp[dh,hk]) k1
 have hrun:(execOp ρ o).run P w= .ok (.value u) w':=by
  have e:(parts.toArray.map fun(i,x)=>(i,ρ x))=(parts.map fun p=>(p.1,ρ p.2)).toArray:=by simp
  simp only[execOp,ho,Sem.run_bind];rw[e,e1];rfl
 rw[hrun];exact⟨g2,d,S',l1.trans l2,R2,e2,e3⟩
theorem wF{o:Oper}{t:TypeId}{x:Operand}(ho:o.op= .makeInterface t x){ρD:Operand→DV}{S:St}{K:DV→St→Prop}(h:pY (tk P t)=false∧shr S (ρD x) fun d S=>K (.fN t d) S):ae P w0 o ρD S K:=by
 intro g w ρ h1 h2 hcst;have hx:=h2 x (by simp[ho,Op.operands]);obtain⟨d,hu,hd⟩:=rr h.1;obtain⟨g',d',S',l1,R1,r1,k1⟩:=jS h1 hx h.2
 have hrun:(execOp ρ o).run P w= .ok (.value (.iface t (ρ x))) w:=by
  cases d <;>first|exact absurd rfl (hd _)|simp[execOp,ho,Instr.makeInterface,run_underlying hu]
 rw[hrun];exact⟨g',_,S',l1,R1,.fN t _ _ r1,k1⟩
def gR(k:TK)(S:St)(x:DV)(lo hi mx:Option DV)(K:DV→St→Prop):Prop:=iZ S x fun x S=>du k x lo hi mx (K · S)
theorem uI{o:Oper}{t:TypeId}{x:Operand}{lo hi mx:Option Operand}(ho:o.op= .slice t x lo hi mx){ρD:Operand→DV}{S:St}{K:DV→St→Prop}
 (hh:mx.isSome=true→hi.isSome=true) (hne:(lo≠some x∧hi≠some x∧mx≠some x)) (h:gR (tk P t) S (ρD x) (lo.map ρD) (hi.map ρD) (mx.map ρD) K):ae P w0 o ρD S K:=by
 intro g w ρ h1 h2 hcst;have hx:=h2 x (by simp[ho,Op.operands])
 classical
 obtain⟨g',d',S',l1,R1,r1,k1⟩:=tp h1 hx h
 have e:∀(y:Option Operand),y≠some x→y.map (fun z=>if z=x then d' else ρD z)=y.map ρD:=by
  intro y hy
  cases y with
  |none=>rfl
  |some y=>simp only[R6];rw[if_neg (fun e=>hy (by rw[e]))]
 have:=Jb (P:=P) (w0:=w0) ho (ρD:=fun z=>if z=x then d' else ρD z) (S:=S') (K:=K) hh (by
  simp only[if_true];rw[e lo hne.1,e hi hne.2.1,e mx hne.2.2]
  exact k1) g' w ρ R1 (fun z hz=>by
   by_cases hzx:z=x
   ·simp only[hzx,if_true];exact r1
   ·simp only[hzx,if_false];exact(h2 z hz).mono l1) hcst
 split at this
 ·obtain⟨g2,d,S2,l2,q⟩:=this;exact⟨g2,d,S2,l1.trans l2,q⟩
 ·obtain⟨g2,S2,l2,q⟩:=this;exact⟨g2,S2,l1.trans l2,q⟩
 ·exact this.mono fun e w'' k=>k.mono l1 fun _ _ x=>x
 ·exact fun ro=>(this ro).mono fun e w'' k=>k.mono l1 fun _ _ x=>x
 ·obtain⟨hc,g2,d,S2,l2,q⟩:=this;exact⟨hc,g2,d,S2,l1.trans l2,q⟩
 ·exact this
def Ls:DV→Bool
 | .v _=>false
 |_=>true
def x5:List DV→List Int
 |[]=>[]
 | .v (.int .u8 n)::xs=>n::x5 xs
 |_::xs=>0::x5 xs
def nK:List DV→Bool
 |[]=>true
 | .v (.int .u8 _)::xs=>nK xs
 |_::_=>false
theorem CN:∀{xs:List DV},nK xs=true→xs=(x5 xs).map fun n=>DV.v (.int .u8 n)
 |[],_=>rfl
 | .v (.int .u8 n)::xs,h=>by simp only[x5,Rz];rw[←CN (xs:=xs) h]
 |x::xs,h=>by
  unfold nK at h;split at h
  ·rename_i e;cases e
  ·rename_i e;cases e;simp only[x5,Rz];rw[←CN (xs:=_) h]
  ·cases h
theorem Kc(l:List Int):x5 (l.map fun n=>DV.v (.int .u8 n))=l∧nK (l.map fun n=>DV.v (.int .u8 n))=true:=by
 induction l with
 |nil=>exact⟨rfl,rfl⟩
 |cons a l ih=>exact⟨by simp only[Rz,x5,ih.1],by simp only[Rz,nK,ih.2]⟩
def gm(a b ke kb:TK)(S:St)(x:DV)(K:DV→Prop):Prop:=match a,b with
 | .sl _ _ _ _,.str=>ke= .int .u8∧Ls x=true∧gg S x fun s xs=>s=1∧nK xs=true∧K (.v (.string (strOfNums (x5 xs))))
 | .str,.sl _ 1 1 _=>(match x with
  | .v (.string b)=>b.size<281474976710656∧kb= .int .u8∧K (.sl 1 false (b.data.toList.map fun c=> .v (.int .u8 c.toNat)))
  |_=>False)
 |a,b=>fy a b x K
theorem F6{g:Gh}{S:St}{w:World}{d:DV}{x:Value}{K:List Int→Prop}(h:Rel w0 g S w)(r:aA g d x)(hk:gg S d fun s xs=>s=1∧nK xs=true∧K (x5 xs)):
 (∃u,d= .v u)∨∃bs a c,K bs∧x= .slice a bs.length c∧(bs=[]∨∃b o,a=some ⟨b,o,none⟩∧∀i,i<bs.length→w.cell? ⟨b,o+i,none⟩=some (.int .u8 (bs.getD i 0))):=by
 obtain⟨ow,ho⟩:=h.open_
 have fin:∀{xs:List DV} {s:Nat} {us:List Value} {a:Option Addr} {c:Nat},(s=1∧nK xs=true∧K (x5 xs))→x= .slice a xs.length c→aa g xs us→
  ((xs=[])∨∃b o,a=some ⟨b,o,none⟩∧c≤maxLen∧∀(i:Nat) (u:Value) (j:Nat) (x:Value),us[i]? =some u→u.cells[j]? =some x→w.cell? ⟨b,o+i*s+j,none⟩=some x)→
  ∃bs a c,K bs∧x= .slice a bs.length c∧(bs=[]∨∃b o,a=some ⟨b,o,none⟩∧∀i,i<bs.length→w.cell? ⟨b,o+i,none⟩=some (.int .u8 (bs.getD i 0))):=by
  rintro xs s us a c ⟨rfl,hok,hK⟩ hx hr hc;generalize hbs:x5 xs=bs at hK;have hxs:=CN hok;rw[hbs]at hxs;subst hxs;refine⟨bs,a,c,hK,by simpa using hx,?_⟩;rcases hc with hc|⟨b,o,ha,_,hc⟩
  ·exact .inl (by simpa using hc)
  ·refine .inr ⟨b,o,ha,fun i hi=>?_⟩;have hlen:us.length=bs.length:=by have:=hr.len;simpa using this.symm
   have hu:us[i]? =some us[i]:=so (by omega);have hb:bs[i]? =some bs[i]:=so hi;have h1:=an (hr.at_ i (.v (.int .u8 bs[i])) us[i] (by rw[Rt,hb];rfl) hu);have:=hc i us[i] 0 us[i] hu (by rw[h1];rfl);rw[Tb,SS,h1]at this;rw[this,Rl,hb];rfl
 unfold gg at hk;split at hk
 ·rename_i s f xs;obtain⟨us,a,c,q1,q2,q3,q4,q5,q6,q7⟩:=eS (w:=w) r h.aO;exact .inr (fin hk q1 q2 q7)
 ·rename_i l n;split at hk
  ·rename_i s xs hl;obtain⟨rfl,hk⟩:=hk;obtain⟨o,c,hv,ha⟩:=ep r;obtain⟨hs,us,a,c',q1,q2,q3,q4,q5,q6,_⟩:=ho.gy hl (.inl rfl) ha;exact .inr (fin hk (hv.trans q1) q2 q6)
  ·rename_i s xs hl;obtain⟨rfl,hk⟩:=hk;obtain⟨o,c,hv,ha⟩:=ep r;obtain⟨hs,us,a,c',q1,q2,q3,q4,q5,q6,_⟩:=ho.gy hl (.inr rfl) ha;exact .inr (fin hk (hv.trans q1) q2 q6)
  ·exact hk.elim
 ·exact .inl ⟨_,rfl⟩
 ·exact .inl ⟨_,rfl⟩
 ·exact hk.elim
theorem yK{o:Oper}{s d:TypeId}{x:Operand}(ho:o.op= .convert s d x){ρD:Operand→DV}{S:St}{K:DV→St→Prop}(h:gm (tk P s) (tk P d) (tk P (dh P s)) (tk P (dh P d)) S (ρD x) (K · S)):ae P w0 o ρD S K:=by
 unfold gm at h;split at h
 ·rename_i e c b i hs hd;obtain⟨hke,hnv,hk⟩:=h;intro g w ρ h1 h2 hcst;have hx:=h2 x (by simp[ho,Op.operands])
  have hsl:P.underlying s=some (.slice e):=by
   unfold tk at hs;split at hs <;>(try split at hs) <;>(try cases hs) <;>assumption
  have hel:dh P s=e:=by unfold dh;rw[hs]
  rw[hel]at hke;rcases F6 (w0:=w0) (K:=fun bs=>K (.v (.string (strOfNums bs))) S) h1 hx hk with⟨u,hu⟩|⟨bs,a,c,hK,hv,hc⟩
  ·rw[hu]at hnv;cases hnv
  ·have hrun:(execOp ρ o).run P w= .ok (.value (.string (strOfNums bs))) w:=by
    have hconv:(convert s d (.slice a bs.length c)).run P w= .ok (.string (strOfNums bs)) w:=by
     rcases hc with rfl|⟨b,o',rfl,hc⟩
     ·rw[run_convert_bytes_string w s d e _ _ c hsl (ib hke) (fp hd)]
      cases a with
      |none=>simp[Conv.bytesToString];rfl
      |some a=>
       rw[Sf,run_bytesToString w a 0 c [] (by have:=run_loadCells_list (P:=P) w a [] (fun j v hj=>by simp at hj);simpa using this)];rfl
     ·exact run_convert_bytes_arg w s e hsl (ib hke) b o' bs.length c bs rfl hc d (fp hd)
    simp[execOp,ho,hv,hconv]
   rw[hrun];exact⟨g,_,S,.refl g,h1,.v _ rfl,hK⟩
 ·rename_i e i hs hd;split at h
  ·rename_i b hb;obtain⟨hsz,hkb,hK⟩:=h;intro g w ρ h1 h2 hcst;have hx:=h2 x (by simp[ho,Op.operands]);rw[hb]at hx;have hv:=an hx;have hel:dh P d=e:=by unfold dh;rw[hd]
   rw[hel]at hkb
   have hrun:(execOp ρ o).run P w= .ok (.value (.slice (some ⟨w.heap.size,0,none⟩) b.size (grownCap w b.size 0 e))) (Lib.bytesWorld w e b):=by
    simp[execOp,ho,hv,Lib.run_convert_string_bytes w s d e b (fp hs) (cE hd).1 (ib hkb)]
   rw[hrun];have hbel:fJ w.heap.size w (Lib.bytesWorld w e b):=⟨rfl,rfl,rfl,by rw[Lib.bytesWorld_size];omega,fun k hk=>Lib.bytesWorld_at_old w e b k hk,TP _⟩;obtain⟨hle,hR⟩:=h1.xZ hbel (Ro _) (Lib.bytesWorld_at_new w e b);have hcap:=grownCap_ge w b.size 0 e;have hm8:maxLen=9223372036854775807:=rfl;have hcm:=grownCap_le_maxLen w b.size 0 e (by omega);have hl:(b.data.toList.map fun c=>Value.int .u8 c.toNat).length=b.size:=by simp
   refine⟨_,_,S,hle,hR,?_,hK⟩
   have:=aA.sl (g:=g.aN w.heap.size fun i=>(Lib.bytesCells w e b)[i]?) 1 false (b.data.toList.map fun c=>DV.v (.int .u8 c.toNat)) w.heap.size 0 (grownCap w b.size 0 e) (b.data.toList.map fun c=>Value.int .u8 c.toNat)
    (by simp) (fun hf=>by cases hf) (by rw[hl];exact hcap) hcm (fun i d u a1 a2=>by
     simp only[Rt,Rw]at a1 a2;obtain⟨c,hc,rfl⟩:=a1;obtain⟨c',hc',rfl⟩:=a2;rw[hc]at hc';cases hc';exact .v _ rfl) (fun i u hu=>by
     simp only[Rt,Rw]at hu;obtain⟨c,_,rfl⟩:=hu;rfl) (fun u hu y hy=>by
     obtain⟨c,_,rfl⟩:=RI.1 hu;simp[Value.cells]at hy;subst hy;rfl) (fun i u j y hu hj=>by
     have hu':=hu;simp only[Rt,Rw]at hu;obtain⟨c,hc,rfl⟩:=hu;have hj0:j=0:=by have:=(Rq.1 hj).1;simp[Value.cells]at this;exact this
     subst hj0;simp[Value.cells]at hj;subst hj;simp only[Gh.aN,if_true,Tb,Sz,SS,Lib.bytesCells];rw[S7 (by have:=(Rp.1 hc).1;simpa using this)];have:b.data[i]? =some c:=by simpa using hc
     simp[this])
   rw[hl]at this;exact this
  ·exact h.elim
 ·exact KH ho h
theorem A9{a b ke kb:TK}{S:St}{x:DV}{K:DV→Prop}(h:fy a b x K):gm a b ke kb S x K:=by
 unfold gm;split
 ·unfold fy at h;split at h <;>first|exact h.elim|(rename_i e _;cases e;done)|(rename_i e;cases e;done)|(rename_i e _ _;cases e;done)|(rename_i _ e;cases e;done)
 ·unfold fy at h;split at h <;>first|exact h.elim|(rename_i e _;cases e;done)|(rename_i e;cases e;done)|(rename_i e _ _;cases e;done)|(rename_i _ e;cases e;done)
 ·exact h
end
end Aml
namespace Aml
open Go Go.RowKit
section
variable {P:Program} {w0:W0}
theorem Rel.wo{g:Gh}{S:St}{w w':World}(h:Rel w0 g S w)(k:fJ w.heap.size w w'){s:Nat}(hs:0<s){xs:List DV}{us:List Value}{b c e:Nat}{cs:Array Value}(hge:w.heap.size≤b)(hb:w'.heap[b]? =some (.cells cs e (0,0)))
 (hsz:cs.size=c*s) (hn:xs.length≤c) (hm:c≤maxLen) (hr:aa g xs us) (hz:∀(i:Nat) (u:Value),us[i]? =some u→u.cells.size=s) (hone:∀(u:Value),u∈us→∀x,x∈u.cells.toList→x.oneCell'=true)
 (hc:∀(i:Nat) (u:Value) (j:Nat) (x:Value),us[i]? =some u→u.cells[j]? =some x→cs[i*s+j]? =some x) (hall:∀x,x∈cs.toList→x.oneCell'=true):
 ∃l g',g.le g'∧(∀p,p∈S.acc→p.1≠l)∧Rel w0 g' ⟨S.box,(l,.arr s xs)::S.acc⟩ w'∧aA g' (.acc l xs.length) (.slice (some ⟨b,0,none⟩) xs.length c):=by
 obtain⟨ow,h⟩:=h.open_
 have hnow:ow b=none:=by
  cases ho:ow b with
  |none=>rfl
  |some q=>have:=h.iJ b q ho;omega
 have h':=h.grow k;obtain⟨m,hm'⟩:=h'.fresh
 have hnone:∀i,g.aO b i=none:=by
  intro i
  cases hi:g.aO b i with
  |none=>rfl
  |some u=>have:=World.block_lt_of_cell? w _ (h.aO _ _ _ hi);simp at this;omega
 have hne:∀p,p∈S.acc→p.1≠m:=by
  rintro⟨l',o'⟩ hp rfl;obtain⟨u,hu⟩:=(h'.acc _ _ hp).has;rw[hm' _ _ (Ro _)]at hu;cases hu
 let v:Value:= .slice (some ⟨b,0,none⟩) xs.length c
 have hle:g.le (g.aB m xs.length v):=Gh.eg (.inl (hm' _ _ (Ro _)));have hself:(g.aB m xs.length v).acc m xs.length=some v:=by simp[Gh.aB]
 refine⟨m,g.aB m xs.length v,hle,hne,dc.close (ow:=fun x=>if x=b then some (.a m)else ow x) ⟨h'.below.le hle,h'.aO,h'.nb,?_,?_,?_,?_,?_,?_,?_⟩,.acc _ _ _ _ hself⟩
 ·simp only[Rz,R0];refine⟨fun hx=>?_,h'.na⟩;obtain⟨p,hp,e⟩:=RI.1 hx;exact hne p hp e
 ·intro l' n u hu;simp only[Gh.aB]at hu;split at hu
  ·rename_i e;obtain⟨rfl,rfl⟩:=e;exact⟨_,_,(RG hu).symm,.inr ⟨b,0,rfl⟩⟩
  ·exact h'.df _ _ _ hu
 ·refine⟨m+1,fun l n hl=>?_⟩;simp only[Gh.aB];rw[if_neg (by omega)];exact hm' _ _ (by omega)
 ·intro l o hl k hk;simp only[Gh.aB];rcases Rv.1 hl with e|hl
  ·simp only[RS]at e;obtain⟨rfl,rfl⟩:=e;simp only[Ob.len]at hk;rw[if_neg (by omega)];exact hm' _ _ (Ro _)
  ·rw[if_neg (fun e=>hne _ hl e.1)];exact h'.top _ _ hl k hk
 ·intro b' ds hb';refine(h'.box b' ds hb').step hle fun ho=>⟨?_,rfl,fun _ hi=>hi⟩;split
  ·rename_i e;subst e;exact absurd (hnow.symm.trans ho) (by simp)
  ·exact ho
 ·intro l o hl;rcases Rv.1 hl with e'|hl
  ·simp only[RS]at e';obtain⟨rfl,rfl⟩:=e';exact⟨hs,.inr ⟨b,c,cs,e,hself,if_pos rfl,Se h.below.size hge,hnone,hb,hsz,hn,hm,hall,us,hr.mono hle,hz,hone,hc⟩⟩
  ·refine(h'.acc l o hl).step hle fun b' ho=>⟨?_,rfl,fun _ hi=>hi⟩;split
   ·rename_i e;subst e;exact absurd (hnow.symm.trans ho) (by simp)
   ·exact ho
 ·intro b' q hq;split at hq
  ·rename_i e;subst e;exact lt_of_heap hb
  ·exact h'.iJ _ _ hq
theorem Rel.JD{g:Gh}{S:St}{w w':World}(h:Rel w0 g S w){l s:Nat}{xs ys:List DV}{us:List Value}{b c e:Nat}{cs:Array Value}(hl:lk S.acc l=some (.arr s xs))(hv:g.acc l xs.length=some (.slice (some ⟨b,0,none⟩) xs.length c))(hlen:ys.length=xs.length)(hpos:0<c)
 (hb:w'.heap[b]? =some (.cells cs e (0,0))) (hsz:cs.size=c*s) (hbel:cn w0 g w') (hsize:w.heap.size≤w'.heap.size) (hsame:∀k,k<w.heap.size→k≠b→w'.heap[k]? =w.heap[k]?)
 (hr:aa g ys us) (hz:∀(i:Nat) (u:Value),us[i]? =some u→u.cells.size=s) (hone:∀(u:Value),u∈us→∀x,x∈u.cells.toList→x.oneCell'=true)
 (hc:∀(i:Nat) (u:Value) (j:Nat) (x:Value),us[i]? =some u→u.cells[j]? =some x→cs[i*s+j]? =some x) (hall:∀x,x∈cs.toList→x.oneCell'=true):Rel w0 g ⟨S.box,up S.acc l (.arr s ys)⟩ w':=by
 obtain⟨ow,h⟩:=h.open_;have hmem:=bd hl;obtain⟨hs,⟨he,o,ha⟩|⟨b',c',cs',e',h1,h2,h3,h4,h5,h6,h7,h8,hA,us',h9,h10,h11,h12⟩⟩:=h.acc l _ hmem
 ·exfalso
  subst he;rw[show([]:List DV).length=0 from rfl,ha]at hv;simp only[RC,Value.slice.injEq]at hv;omega
 ·rw[hv]at h1;simp only[RC,Value.slice.injEq,Addr.mk.injEq,true_and,and_true]at h1;obtain⟨rfl,rfl⟩:=h1
  have hbne:∀b' q,ow b'=some q→q≠ .a l→b'≠b:=by
   rintro b' q hq hne rfl;rw[h2]at hq;exact hne (RG hq).symm
  refine dc.close (ow:=ow) ⟨hbel,?_,h.nb,?_,h.df,h.fresh,?_,?_,?_,?_⟩
  ·intro b' i u hu;have hne:b'≠b:=by rintro rfl;rw[h4]at hu;cases hu
   have h1:=h.aO _ _ _ hu;have hblt:=World.block_lt_of_cell? w _ h1;have:=World.cell?_of_block (w:=w) (w':=w') (a:=⟨b',i,none⟩) (hsame b' hblt hne);rw[this];exact h1
  ·rw[iN];exact h.na
  ·intro l' o' hl' k hk;rcases dG h.na hl' with e|⟨hm',hne⟩
   ·simp only[RS]at e;obtain⟨rfl,rfl⟩:=e;refine h.top _ _ hmem k ?_;simp only[Ob.len]at hk ⊢;omega
   ·exact h.top _ _ hm' k hk
  ·intro b' ds hb';have hob':=(h.box _ _ hb').1;have hne:=hbne b' _ hob' (by simp);exact(h.box b' ds hb').step (.refl g) fun x=>⟨x,hsame b' (h.iJ _ _ x) hne,fun i hi=>hi⟩
  ·intro l' o' hl';rcases dG h.na hl' with e'|⟨hm',hne⟩
   ·simp only[RS]at e';obtain⟨rfl,rfl⟩:=e';exact⟨hs,.inr ⟨b,c,cs,e,by rw[hlen];exact hv,h2,h3,h4,hb,hsz,by omega,h8,hall,us,hr,hz,hone,hc⟩⟩
   ·refine(h.acc l' o' hm').step (.refl g) fun b' ho=>?_;have hne':=hbne b' _ ho (by simp;exact hne);exact⟨ho,hsame b' (h.iJ _ _ ho) hne',fun i hi=>hi⟩
  ·intro b' q hq;exact Sx (h.iJ _ _ hq) hsize
def tJ:List (Nat×Ob)→Nat→Nat×Ob→List (Nat×Ob)
 |[],_,_=>[]
 |(k,x)::t,n,p=>if k=n then p::t else(k,x)::tJ t n p
theorem sP{l:List (Nat×Ob)}{n:Nat}{p:Nat×Ob}(hn:(l.map (·.1)).Nodup){q:Nat×Ob}(h:q∈tJ l n p):q=p∨(q∈l∧q.1≠n):=by
 induction l with
 |nil=>cases h
 |cons r t ih=>
  obtain⟨k,x⟩:=r;simp only[Rz,R0]at hn;simp only[tJ]at h;split at h
  ·rename_i e;subst e;rcases Rv.1 h with rfl|h
   ·exact .inl rfl
   ·refine .inr ⟨Rr _ h,fun e=>hn.1 ?_⟩;rw[←e];exact Sl h
  ·rename_i e;rcases Rv.1 h with rfl|h
   ·exact .inr ⟨Rx,e⟩
   ·rcases ih hn.2 h with h|h
    ·exact .inl h
    ·exact .inr ⟨Rr _ h.1,h.2⟩
theorem Ak{l:List (Nat×Ob)}{n:Nat}{p:Nat×Ob}(hn:(l.map (·.1)).Nodup)(hp:∀q,q∈l→q.1≠p.1):((tJ l n p).map (·.1)).Nodup:=by
 induction l with
 |nil=>exact hn
 |cons r t ih=>
  obtain⟨k,x⟩:=r;simp only[Rz,R0]at hn;simp only[tJ];split
  ·simp only[Rz,R0];refine⟨fun h=>?_,hn.2⟩;obtain⟨q,hq,e⟩:=RI.1 h;exact hp q (Rr _ hq) e
  ·simp only[Rz,R0];refine⟨fun h=>?_,ih hn.2 fun q hq=>hp q (Rr _ hq)⟩;obtain⟨q,hq,e⟩:=RI.1 h;rcases sP hn.2 hq with rfl|⟨h1,_⟩
   ·exact hp (k,x) Rx e.symm
   ·refine hn.1 ?_;rw[←e];exact Sl h1
theorem Rel.cut{g:Gh}{S:St}{w:World}(h:Rel w0 g S w){l s:Nat}{xs:List DV}(hl:lk S.acc l=some (.arr s xs)){n:Nat}(hn:n≤xs.length){a:Option Addr}{c:Nat}(hv:g.acc l xs.length=some (.slice a xs.length c)):
 ∃l' g',g.le g'∧(∀p,p∈S.acc→p.1≠l')∧Rel w0 g' ⟨S.box,tJ S.acc l (l',.arr s (xs.take n))⟩ w∧aA g' (.acc l' n) (.slice a n c):=by
 obtain⟨ow,h⟩:=h.open_;have hmem:=bd hl;obtain⟨m,hm'⟩:=h.fresh
 have hne:∀p,p∈S.acc→p.1≠m:=by
  rintro⟨l',o'⟩ hp rfl;obtain⟨u,hu⟩:=(h.acc _ _ hp).has;rw[hm' _ _ (Ro _)]at hu;cases hu
 have htl:(xs.take n).length=n:=by simp;omega
 have hle:g.le (g.aB m n (.slice a n c)):=Gh.eg (.inl (hm' _ _ (Ro _)));have hself:(g.aB m n (.slice a n c)).acc m n=some (.slice a n c):=by simp[Gh.aB]
 have hlm:l≠m:=hne _ hmem;refine⟨m,g.aB m n (.slice a n c),hle,hne,dc.close (ow:=fun x=>if ow x=some (.a l)then some (.a m)else ow x) ⟨h.below.le hle,h.aO,h.nb,Ak h.na hne,?_,?_,?_,?_,?_,?_⟩,.acc _ _ _ _ hself⟩
 ·intro l' n' u hu;simp only[Gh.aB]at hu;split at hu
  ·rename_i e;obtain⟨rfl,rfl⟩:=e;obtain⟨o',c',q1,q2⟩:=h.df _ _ _ hv;simp only[Value.slice.injEq,true_and]at q1;refine⟨_,_,(RG hu).symm,?_⟩;rcases q2 with q2|q2
   ·exact .inl (by omega)
   ·exact .inr (by rw[q1.1];exact q2)
  ·exact h.df _ _ _ hu
 ·refine⟨m+1,fun l' n' hl'=>?_⟩;simp only[Gh.aB];rw[if_neg (by omega)];exact hm' _ _ (by omega)
 ·intro l' o' hl' k hk;simp only[Gh.aB];rcases sP h.na hl' with e|⟨hm2,hne2⟩
  ·simp only[RS]at e;obtain⟨rfl,rfl⟩:=e;simp only[Ob.len,htl]at hk;rw[if_neg (by omega)];exact hm' _ _ (Ro _)
  ·rw[if_neg (fun e=>hne _ hm2 e.1)];exact h.top _ _ hm2 k hk
 ·intro b' ds hb';refine(h.box b' ds hb').step hle fun ho=>⟨?_,rfl,fun _ hi=>hi⟩;rw[if_neg (by rw[ho];simp)];exact ho
 ·intro l' o' hl';rcases sP h.na hl' with e|⟨hm2,hne2⟩
  ·simp only[RS]at e;obtain⟨rfl,rfl⟩:=e;obtain⟨hs,⟨he,o,ha⟩|⟨b',c',cs',e',h1,h2,h3,h4,h5,h6,h7,h8,hA,us',h9,h10,h11,h12⟩⟩:=h.acc l _ hmem
   ·subst he;have hn0:n=0:=by simpa using hn
    subst hn0;rw[show([]:List DV).length=0 from rfl,ha]at hv;simp only[RC,Value.slice.injEq,true_and]at hv;obtain⟨rfl,rfl⟩:=hv;exact⟨hs,.inl ⟨rfl,_,hself⟩⟩
   ·rw[hv]at h1;simp only[RC,Value.slice.injEq,true_and]at h1;obtain⟨rfl,rfl⟩:=h1;refine⟨hs,.inr ⟨b',_,cs',e',by rw[htl];exact hself,if_pos h2,h3,h4,h5,h6,by omega,h8,hA,us'.take n,(h9.mono hle).take n,fun i u hi=>?_,fun u hu=>h11 u (RY hu),fun i u j x hi hj=>?_⟩⟩
    ·rw[Sn]at hi;split at hi
     ·exact h10 i u hi
     ·cases hi
    ·rw[Sn]at hi;split at hi
     ·exact h12 i u j x hi hj
     ·cases hi
  ·refine(h.acc l' o' hm2).step hle fun b' ho=>⟨?_,rfl,fun _ hi=>hi⟩;rw[if_neg (by rw[ho];simp;exact hne2)];exact ho
 ·intro b' q hq;split at hq
  ·rename_i e;exact h.iJ _ _ e
  ·exact h.iJ _ _ hq
end
end Aml
namespace Aml
open Go Go.RowKit
theorem kx{n:Int}(h0: -9223372036854775808≤n)(h1:n≤9223372036854775807):IntKind.i64.wrap n=n:=by
 show(if(true&&decide (n%18446744073709551616≥9223372036854775808))=true then n%18446744073709551616-18446744073709551616 else n%18446744073709551616)=n;by_cases h:n%18446744073709551616≥9223372036854775808
 ·rw[if_pos (by simpa using h)];omega
 ·rw[if_neg (by simpa using h)];omega
section
variable {P:Program} {w0:W0}
def dt(k:TK)(z x y:DV)(S:St)(K:DV→St→Prop):Prop:=match k,x,y with
 | .sl _ s by' true,.v (.int _ n),.v (.int _ m)=>dA z=true∧0≤n∧n≤m∧m*by'≤140737488355328∧m≤9223372036854775807∧∀l,gx S.acc l→K (.acc l n.toNat) ⟨S.box,(l,.arr s (List.replicate n.toNat z))::S.acc⟩
 |_,_,_=>False
theorem mD{o:Oper}{t:TypeId}{x y:Operand}(ho:o.op= .makeSlice t x y){ρD:Operand→DV}{S:St}{K:DV→St→Prop}(h:dt (tk P t) (zD P (dh P t)) (ρD x) (ρD y) S K):ae P w0 o ρD S K:=by
 intro g w ρ h1 h2 hcst;have hx:=h2 x (by simp[ho,Op.operands]);have hy:=h2 y (by simp[ho,Op.operands]);unfold dt at h;split at h
 ·rename_i e s by' k1 n k2 m hk hx' hy';rw[hx']at hx;rw[hy']at hy;obtain⟨hok,h0,hnm,hby,hm63,hK⟩:=h;obtain⟨hu,hs,hbs,hei⟩:=cE hk;obtain⟨ti,z,hi,hz,hzs,hpos⟩:=bI hei;have hsz:ti.size=s:=by simpa[Program.cellsOf,hi]using hs
  have hib:ti.bytes=by':=by simpa[Program.bytesOf,hi]using hbs
  have hel:dh P t=e:=by simp[dh,hk]
  have hzD:zD P (dh P t)=cv z:=by rw[hel];simp[zD,hi,hz]
  have hrz:aA g (zD P (dh P t)) z:=hzD▸ig g z;obtain⟨N,rfl⟩:=TI h0;obtain⟨M,rfl⟩:=TI (Int.le_trans h0 hnm);have hNM:N≤M:=Int.ofNat_le.1 hnm;have hM:M*by'≤140737488355328:=by rw[←Int.natCast_mul]at hby;omega
  have hM63:M≤maxLen:=by unfold maxLen;omega
  have w1:IntKind.i64.wrap (N:Int)=N:=kx (by omega) (by omega);have w2:IntKind.i64.wrap (M:Int)=M:=kx (by omega) (by omega);have hpw:=sA (z:=z) (s:=s) (n:=M) (by omega) (by omega)
  have hrun:(Instr.makeSlice t (ρ x) (ρ y)).run P w= .ok (.slice (some ⟨w.heap.size,0,none⟩) N M) (w.alloc (.cells ((Array.range (M*s)).map (z.cells[·%z.cells.size]!)) e)):=by
   have hby2:¬(281474976710656<(by':Int)*(M:Int)):=by
    have:(M:Int)*by'≤140737488355328:=hby;rw[Int.mul_comm];omega
   have c1:¬((M:Int)<0):=by omega
   have c2:¬((N:Int)<0):=by omega
   have c3:¬((M:Int)<(N:Int)):=by omega
   have hroom:¬(roomBytes<M*by'):=by unfold roomBytes;omega
   simp only[an hx,an hy,Instr.makeSlice,asInt,asIntOf,run_underlying hu,typeInfo,hi,Sem.run_bind,Sem.run_pure,Result.andThen_ok,run_program,w1,w2,hib];by_cases hz0:M*s=0
   ·have hr0:∀f:Nat→Value,(Array.range 0).map f= #[]:=fun f=>by simp
    simp[c1,c2,c3,hby2,askRoom,hroom,Go.sizeOf,typeInfo,hi,hsz,hz0,newRow];rw[hr0,hr0]
   ·simp[c1,c2,c3,hby2,askRoom,hroom,Go.sizeOf,typeInfo,hi,hsz,hz0,newRow,zeroValue,hz]
  have hlenN:(List.replicate N (zD P (dh P t))).length=N:=by simp
  obtain⟨l,g',hle,hne,hR,hA⟩:=h1.wo (s:=s) (xs:=List.replicate N (zD P (dh P t))) (us:=List.replicate N z) (c:=M) (bG w (.cells ((Array.range (M*s)).map (z.cells[·%z.cells.size]!)) e)) (by omega) (Ro _) (heap_alloc_new w _) (by simp) (by rw[hlenN];exact hNM) hM63
   ⟨by simp,fun i d u a b=>by
    rw[RW]at a b;split at a
    ·rename_i hlt;rw[if_pos hlt]at b;simp only[RC]at a b;subst a;subst b;exact hrz
    ·cases a⟩ (fun i u h=>by rw[RW]at h;split at h <;>simp_all) (fun u hu x hx=>by rw[Tf hu]at hx;exact hrz.one hok x hx)
   (fun i u j x a b=>by
    have hlt:i<N:=by rw[RW]at a;split at a <;>first|assumption|cases a
    have:=hpw.at_ i u j x (by rw[RW]at a ⊢;rw[if_pos hlt]at a;rw[if_pos (by omega)];exact a) b
    rwa [Sk]at this)
   (fun x hx=>bF (cW hei hi hz) M x (by unfold Builtin.zeroCells;rw[show z.cells.size=s by omega];rwa [show z.cells.size=s by omega]at hx))
  rw[hlenN]at hA
  have hex:(execOp ρ o).run P w= .ok (.value (.slice (some ⟨w.heap.size,0,none⟩) N M)) (w.alloc (.cells ((Array.range (M*s)).map (z.cells[·%z.cells.size]!)) e)):=by
   simp only[execOp,ho,Sem.run_bind];rw[hrun];rfl
  rw[hex];exact⟨g',_,_,hle,hR,hA,hK l (bN hne)⟩
 ·exact h.elim
def rO(k:TK)(x:DV)(K:DV→Prop):Prop:=match k,x with
 | .sl _ _ _ _,.sl _ true xs=>K (.v (.int .i64 xs.length))
 | .sl _ _ _ _,.v (.slice _ _ c)=>K (.v (.int .i64 c))
 |_,_=>False
theorem No{o:Oper}{t:TypeId}{x:Operand}(ho:o.op= .call {callee:= .builtin .cap,args:= #[x],argTypes:= #[t]}){ρD:Operand→DV}{S:St}{K:DV→St→Prop}(h:rO (tk P t) (ρD x) (K · S)):ae P w0 o ρD S K:=by
 refine aZ fun g w ρ h1 h2=>?_;have hx:=h2 x (by simp[ho,Op.operands,Call.operands]);unfold rO at h;split at h
 ·rename_i hk hx';rw[hx']at hx;rename_i xs
  obtain⟨a,hv⟩:∃a,ρ x= .slice a xs.length xs.length:=by
   rcases eL hx with⟨he,o',c,hv,hf⟩|⟨b,o',c',us,hv',hl,hfl,_⟩
   ·subst he;rw[hv,hf rfl];exact⟨_,rfl⟩
   ·rw[hv',hfl rfl];exact⟨_,rfl⟩
  exact⟨_,_,by simp[execOp,ho,resolve,invoke,builtin,hv,Builtin.cap_,run_underlying (cE hk).1,goInt],.v _ rfl,h⟩
 ·rename_i hk hx';rw[hx']at hx;exact⟨_,_,by simp[execOp,ho,resolve,invoke,builtin,an hx,Builtin.cap_,run_underlying (cE hk).1,goInt],.v _ rfl,h⟩
 ·exact h.elim
def mz(d:DV)(o n s:Nat)(y:DV):Option DV:=if o=0∧n=s then some y else match d with
 | .agg ds=>some (.agg (cG ds o (cd y)))
 |_=>none
def db(n:Nat)(S:St)(x y:DV)(K:St→Prop):Prop:=match x with
 | .ap l m s i o=>dA y=true∧(cd y).length=n∧(match lk S.acc l with
  |some (.arr s' xs)=>s'=s∧xs.length=m∧o+n≤s∧∃d,xs[i]? =some d∧dA d=true∧∃d',mz d o n s y=some d'∧K ⟨S.box,up S.acc l (.arr s (xs.set i d'))⟩
  |_=>False)
 |x=>jZ n S x y K
theorem DZ{g:Gh}{d y:DV}{o n s:Nat}{d':DV}{u v:Value}(hd:aA g d u)(hok:dA d=true)(hus:u.cells.size=s)(hy:aA g y v)(hoy:dA y=true)(hvn:v.cells.size=n)(hon:o+n≤s)(h:mz d o n s y=some d'):
 ∃u',aA g d' u'∧u'.cells.size=s∧(∀x,x∈u'.cells.toList→x.oneCell'=true)∧∀j,u'.cells[j]? =if o≤j∧j<o+n then v.cells[j-o]? else u.cells[j]? :=by
 unfold mz at h;split at h
 ·rename_i hc;obtain⟨rfl,rfl⟩:=hc;cases h;refine⟨v,hy,hvn,hy.one hoy,fun j=>?_⟩;split
  ·simp
  ·rename_i hj;rw[Ss (by omega),Ss (by omega)]
 ·split at h
  ·rename_i ds;cases h
   cases hd with
   |agg _ us hl hr h1=>
    have hu':(Value.agg us.toArray).cells=us.toArray:=rfl;have hcl:=hy.cells hoy;have hlu:us.length=s:=by simpa[hu']using hus
    have hR:=fR (o:=o) (g:=g) (ds:=ds) (us:=us) ⟨hl,hr⟩ hcl;have hle:o+v.cells.toList.length≤us.length:=by simp;omega
    refine⟨.agg (aH us o v.cells.toList).toArray,.agg _ _ hR.len hR.at_ (fun x hx=>?_),?_,fun x hx=>?_,fun j=>?_⟩
    ·rcases gb _ _ _ _ hx with hx|hx
     ·exact h1 x hx
     ·exact hy.one hoy x hx
    ·show(aH us o v.cells.toList).toArray.size=s;simp only[SY];rw[cm _ _ _ hle];simp only[Rk,RA,RP,RT];simp only[RT]at hle;omega
    ·have hx:x∈aH us o v.cells.toList:=by simpa[Value.cells]using hx
     rcases gb _ _ _ _ hx with hx|hx
     ·exact h1 x hx
     ·exact hy.one hoy x hx
    ·show(aH us o v.cells.toList).toArray[j]? =_;rw[List.getElem?_toArray,er hle];simp[hu',hvn]
  ·cases h
theorem FT{o:Oper}{t:TypeId}{x y:Operand}(ho:o.op= .store t x y){ρD:Operand→DV}{S:St}{K:DV→St→Prop}(hi:(P.info? t).isSome=true)(h:db (P.cellsOf t) S (ρD x) (ρD y) (K ud)):ae P w0 o ρD S K:=by
 unfold db at h;split at h
 ·rename_i l m s i o' hxe;intro g w ρ h1 h2 hcst;have hx:=h2 x (by simp[ho,Op.operands]);have hy:=h2 y (by simp[ho,Op.operands]);rw[hxe]at hx;obtain⟨hok,hlen,h⟩:=h;split at h
  ·rename_i s' xs hl;obtain⟨rfl,rfl,hon,d,hd,hod,d',hes,hK⟩:=h;have hilt:i<xs.length:=(Rp.1 hd).1
   obtain⟨b,q,c0,hval,hrx⟩:∃b q c0,g.acc l xs.length=some (.slice (some ⟨b,q,none⟩) xs.length c0)∧ρ x= .pointer (some ⟨b,q+i*s'+o',none⟩):=by
    generalize hu:ρ x=u at hx
    cases hx with
    |ap _ _ _ _ _ b q c h=>exact⟨b,q,c,h,rfl⟩
   obtain⟨ow,hO⟩:=h1.open_;obtain⟨hs,⟨he,o2,ha⟩|⟨b',c,cs,e,q1,q2,q3,q4,q5,q6,q7,q8,qA,us,q9,q10,q11,q12⟩⟩:=hO.acc l _ (bd hl)
   ·rw[he]at hilt;simp at hilt
   ·have hval':=hval;rw[q1]at hval';simp only[RC,Value.slice.injEq,Addr.mk.injEq,true_and,and_true]at hval';obtain⟨⟨rfl,rfl⟩,rfl⟩:=hval';simp only[Sz]at hrx;have hul:us.length=xs.length:=q9.len.symm;have hiu:i<us.length:=by omega
    have hui:us[i]? =some us[i]:=so hiu;have hru:=q9.at_ i d _ hd hui;have husz:=q10 i _ hui;have hcl:=hy.cells hok;have hvl:(ρ y).cells.size=P.cellsOf t:=by have:=hcl.len;simp at this;omega
    obtain⟨u',r1,r2,r3,r4⟩:=DZ hru hod husz hy hok hvl hon hes
    have hbound:i*s'+s'≤cs.size:=by
     rw[q6];have:=RZ s' (show i+1≤c by omega);rw[Sr]at this;exact this
    have hsize:(Go.sizeOf t).run P w= .ok (P.cellsOf t) w:=by
     obtain⟨ti,hi⟩:=Td.1 hi;simp[Go.sizeOf,typeInfo,hi,Program.cellsOf]
    have hst:=run_storeCells_at (P:=P) b' (i*s'+o') e (ρ y).cells.toList 0 cs w q5 (by simp;omega) (hy.one hok);have hle2:(i*s'+o')+(ρ y).cells.toList.length≤cs.toList.length:=by simp;omega
    have hrun:(execOp ρ o).run P w= .ok .skip (w.setRow b' (aH cs.toList (i*s'+o') (ρ y).cells.toList).toArray):=by
     rw[cm _ _ _ hle2];simp only[SS]at hst;simp[execOp,ho,hrx,Instr.storeAt,Instr.sureAddr,storeVar,hsize,hvl,hst]
    rw[hrun];have hxs:(xs.set i d').length=xs.length:=by simp
    refine⟨g,_,.refl g,h1.JD (ys:=xs.set i d') (us:=us.set i u') (b:=b') (c:=c) (e:=e) (cs:=(aH cs.toList (i*s'+o') (ρ y).cells.toList).toArray) hl hval hxs (by omega) ?_ ?_ ?_ ?_ ?_ (q9.set i r1) ?_ ?_ ?_ ?_,hK⟩
    ·exact setRow_heap w b' cs _ e (0,0) q5
    ·rw[SY,cm _ _ _ hle2];simp only[Rk,RA,RP,RT];simp only[RT]at hle2;rw[←q6];omega
    ·exact h1.below.step ⟨rfl,rfl,rfl,by simp,fun k hk=>setRow_other w b' k _ (by omega),Ro _⟩ b' (iY q5) fun k _ hne=>setRow_other w b' k _ hne
    ·simp
    ·intro k _ hkb;exact setRow_other w b' k _ hkb
    ·intro j u hj;rw[Ty]at hj;split at hj
     ·cases hj;exact r2
     ·exact q10 j u hj
    ·intro u hu;rcases SO hu with hu|rfl
     ·exact q11 u hu
     ·exact r3
    ·intro i2 u j x hi2 hj;rw[List.getElem?_toArray,er hle2];rw[Ty]at hi2;split at hi2
     ·rename_i e2;subst e2;cases hi2;rw[r4]at hj;simp only[RT,hvl];split at hj
      ·rename_i hc;rw[if_pos (by omega)];rw[show i*s'+j-(i*s'+o')=j-o' by omega];simpa using hj
      ·rename_i hc;rw[if_neg (by omega)];simpa using q12 i _ j x hui hj
     ·rename_i hne;have hjs:j<s':=by rw[←q10 i2 u hi2];exact(Rq.1 hj).1
      rw[if_neg]
      ·simpa using q12 i2 u j x hi2 hj
      ·simp only[RT,hvl];rintro⟨ha,hb⟩;rcases Nat.lt_or_gt_of_ne hne with h'|h'
       ·have:=RZ s' (show i+1≤i2 by omega);rw[Sr]at this;omega
       ·have:=RZ s' (show i2+1≤i by omega);rw[Sr]at this;omega
    ·intro x hx;rw[SI,cm _ _ _ hle2]at hx;rcases RB.1 hx with hx|hx
     ·rcases RB.1 hx with hx|hx
      ·exact qA x (RY hx)
      ·exact hy.one hok x hx
     ·exact qA x (Sa hx)
  ·exact h.elim
 ·exact Ix ho hi h
end
end Aml
namespace Aml
open Go Go.RowKit
section
variable {P:Program} {w0:W0}
theorem GN{w:World}{t t' ty e:TypeId}{k':IntKind}{i:TypeInfo}{z:Value}(ht:P.underlying t=some (.slice e))(ht':P.underlying t'=some (.int k'))(hi:P.info? e=some i)(hz:i.zero=some z)(hpos:0<i.size)
 {o:Option Addr} {k:IntKind} {n:Nat} (h0:0<n) (h63:n≤maxLen) (hby:n*i.bytes≤140737488355328):
 (Builtin.append_ #[t,t'] ty #[.slice o 0 0,.int k n]).run P w= .ok (.slice (some ⟨w.heap.size,0,none⟩) n (grownCap w n 0 e))
  (w.drew.alloc (.cells (Builtin.zeroCells z.cells n++Builtin.zeroCells z.cells (grownCap w n 0 e-n)) e)):=by
 have hw:IntKind.i64.wrap (n:Int)=n:=kx (by omega) (by unfold maxLen at h63;omega);have c1:¬((n:Int)<0):=by omega
 have hbi:(n:Int)*i.bytes≤140737488355328:=by rw[←Int.natCast_mul];omega
 have c2:¬(281474976710656<(n:Int)*(i.bytes:Int)):=by omega
 have c3:¬(n*i.size=0):=by
  intro h;rcases Nat.mul_eq_zero.1 h with h|h <;>omega
 have c4:¬(9223372036854775807<(n:Int)):=by unfold maxLen at h63;omega
 have hfit:=growslice_fits (need:=n) (old:=0) (bytes:=i.bytes) h0 hby;have c5:¬(281474976710656<Builtin.nextslicecap n 0*i.bytes):=by omega
 have c6:¬(n=0):=by omega
 have c7:¬(i.size=0):=by omega
 have hfc:∀w':World,(Builtin.firstCells i.size 0 (.slice o 0 0)).run P w'= .ok #[] w':=by
  intro w'
  cases o with
  |none=>simp[Builtin.firstCells]
  |some a=>simp[Builtin.firstCells,loadCells,loadCellsFrom]
 simp[Builtin.append_,run_underlying ht,run_underlying ht',Go.sizeOf,typeInfo,hi,zeroValue,hz,asInt,asIntOf,hw,c1,c2,c3,c4,c5,c6,c7,hfc,Question.forced,newRow,grownCap]
def jz(k:TK)(z:DV)(S:St)(x y:DV)(K:DV→St→Prop):Prop:=match k,x,y with
 | .sl _ s by' true,.sl _ true [],.v (.int _ n)=>dA z=true∧0<n∧n*by'≤140737488355328∧n≤9223372036854775807∧∀l,gx S.acc l→K (.acc l n.toNat) ⟨S.box,(l,.arr s (List.replicate n.toNat z))::S.acc⟩
 |_,_,_=>False
theorem CZ{z:Value}{m k:Nat}(hk:k<m*z.cells.size):(Builtin.zeroCells z.cells m)[k]? =some (z.cells[k%z.cells.size]!):=by
 simp[Builtin.zeroCells,hk]
theorem Ew{o:Oper}{t t':TypeId}{x y:Operand}{k':IntKind}(ho:o.op= .call {callee:= .builtin .append,args:= #[x,y],argTypes:= #[t,t']})(hk':tk P t'= .int k'){ρD:Operand→DV}{S:St}{K:DV→St→Prop}
 (h:jz (tk P t) (zD P (dh P t)) S (ρD x) (ρD y) K):ae P w0 o ρD S K:=by
 intro g w ρ h1 h2 hcst;have hx:=h2 x (by simp[ho,Op.operands,Call.operands]);have hy:=h2 y (by simp[ho,Op.operands,Call.operands]);have hut':=ib hk';unfold jz at h;split at h
 ·rename_i e s by' s0 k n hk hxe hye;rw[hxe]at hx;rw[hye]at hy;obtain⟨hok,h0,hby,h63,hK⟩:=h;obtain⟨hu,hs,hbs,hei⟩:=cE hk;obtain⟨ti,z,hi,hz,hzs,hpos⟩:=bI hei;have hsz:ti.size=s:=by simpa[Program.cellsOf,hi]using hs
  have hib:ti.bytes=by':=by simpa[Program.bytesOf,hi]using hbs
  have hel:dh P t=e:=by simp[dh,hk]
  have hzD:zD P (dh P t)=cv z:=by rw[hel];simp[zD,hi,hz]
  have hrz:aA g (zD P (dh P t)) z:=hzD▸ig g z;obtain⟨N,rfl⟩:=TI (Int.le_of_lt h0);have h0':0<N:=by omega
  have hbn:N*by'≤140737488355328:=by rw[←Int.natCast_mul]at hby;omega
  have hN63:N≤maxLen:=by unfold maxLen;omega
  obtain⟨o',hxv⟩:=cq hx;have hr:=GN (w:=w) (ty:=o.type) (o:=o') (k:=k) hu hut' hi hz hpos h0' hN63 (by rw[hib];exact hbn);have hcap:=grownCap_ge w N 0 e;have hcm:=grownCap_le_maxLen w N 0 e hN63;generalize hC:grownCap w N 0 e=C at*;have hlenN:(List.replicate N (zD P (dh P t))).length=N:=by simp
  have hzc:z.cells.size=s:=by omega
  have hsize:(Builtin.zeroCells z.cells N++Builtin.zeroCells z.cells (C-N)).size=C*s:=by
   rw[Tz,size_zeroCells,size_zeroCells,hzc,←Ta];congr 1;omega
  obtain⟨l,g',hle,hne,hR,hA⟩:=h1.wo (w':=w.drew.alloc (.cells (Builtin.zeroCells z.cells N++Builtin.zeroCells z.cells (C-N)) e)) (s:=s) (xs:=List.replicate N (zD P (dh P t))) (us:=List.replicate N z) (b:=w.heap.size) (c:=C) (e:=e)
   ((fJ.refl _ _).drew.alloc (by simp) _) (by omega) (Ro _) (heap_alloc_new w.drew _) hsize (by rw[hlenN];exact hcap) hcm
   ⟨by simp,fun i d u a b=>by
    rw[RW]at a b;split at a
    ·rename_i hlt;rw[if_pos hlt]at b;simp only[RC]at a b;subst a;subst b;exact hrz
    ·cases a⟩ (fun i u h=>by rw[RW]at h;split at h <;>simp_all) (fun u hu x hx=>by rw[Tf hu]at hx;exact hrz.one hok x hx)
   (fun i u j x a b=>by
    rw[RW]at a;split at a
    ·rename_i hlt;cases a;have hj:j<s:=by rw[←hzc];exact(Rq.1 b).1
     have hk:=lt_mul hlt hj;rw[S7 (by rw[size_zeroCells,hzc];exact hk),CZ (by rw[hzc];exact hk),hzc];have:(i*s+j)%s=j:=by rw[Te,Nat.add_mul_mod_self_right];exact SA hj
     rw[this];obtain⟨hj',hjx⟩:=Rq.1 b;simp[hj',hjx]
    ·cases a)
   (fun x hx=>by
    simp only[SB,RB]at hx;exact hx.elim (bF (cW hei hi hz) _ x) (bF (cW hei hi hz) _ x))
  rw[hlenN]at hA
  have hex:(execOp ρ o).run P w= .ok (.value (.slice (some ⟨w.heap.size,0,none⟩) N C)) (w.drew.alloc (.cells (Builtin.zeroCells z.cells N++Builtin.zeroCells z.cells (C-N)) e)):=by
   simp[execOp,ho,resolve,invoke,builtin,hxv,an hy,hr]
  rw[hex];exact⟨g',_,_,hle,hR,hA,hK l (bN hne)⟩
 ·exact h.elim
def fD:Operand→Bool
 | .const (.slice none 0 0)=>true
 |_=>false
def mc(op:BinOp)(k:TK)(x:DV)(K:DV→Prop):Prop:=match k,op,x with
 | .sl _ _ _ _,.eql,.sl _ _ xs=>∀b:Bool,(xs≠[]→b=false)→K (.v (.bool b))
 | .sl _ _ _ _,.neq,.sl _ _ xs=>∀b:Bool,(xs≠[]→b=true)→K (.v (.bool b))
 | .sl _ _ _ _,.eql,.acc _ n=>∀b:Bool,(n≠0→b=false)→K (.v (.bool b))
 | .sl _ _ _ _,.neq,.acc _ n=>∀b:Bool,(n≠0→b=true)→K (.v (.bool b))
 | .sl _ _ _ _,.eql,.v (.slice (some _) _ _)=>K (.v (.bool false))
 | .sl _ _ _ _,.neq,.v (.slice (some _) _ _)=>K (.v (.bool true))
 |_,_,_=>False
theorem vJ{t e:TypeId}{w:World}(ht:P.underlying t=some (.slice e))(a:Option Addr)(n c:Nat):(Op.equal t (.slice a n c) (.slice none 0 0)).run P w= .ok a.isNone w:=by
 rw[fa,Op.equalIn,Sem.run_bind,run_underlying ht];cases a <;>rfl
theorem HS{o:Oper}{op:BinOp}{t t':TypeId}{x y:Operand}(ho:o.op= .binOp op t x y t')(hy:fD y=true){ρD:Operand→DV}{S:St}{K:DV→St→Prop}
 (h:mc op (tk P t) (ρD x) (K · S)):ae P w0 o ρD S K:=by
 refine Dd fun g w ρ h1 h2 hcst=>?_;have hx:=h2 x (by simp[ho,Op.operands])
 have hyv:ρ y= .slice none 0 0:=by
  unfold fD at hy;split at hy
  ·exact hcst _
  ·cases hy
 have acc:∀{l n:Nat},ρD x= .acc l n→∃a c,ρ x= .slice a n c∧(n≠0→a.isNone=false):=by
  intro l n e;rw[e]at hx;obtain⟨o',c,hv,ha⟩:=ep hx;obtain⟨o2,c2,e2,e3⟩:=h1.df _ _ _ ha;simp only[Value.slice.injEq,true_and]at e2;refine⟨o',c,hv,fun hn=>?_⟩;rcases e3 with e3|⟨b,q,e3⟩
  ·exact absurd e3 hn
  ·rw[e2.1,e3];rfl
 have sl:∀{s:Nat} {f:Bool} {xs:List DV},ρD x= .sl s f xs→∃a c,ρ x= .slice a xs.length c∧(xs≠[]→a.isNone=false):=by
  intro s f xs e;rw[e]at hx;rcases eL hx with⟨he,o',c,hv,_⟩|⟨b,o',c',us,hv',_⟩
  ·subst he;exact⟨o',c,hv,fun h=>absurd rfl h⟩
  ·exact⟨_,_,hv',fun _=>rfl⟩
 have fin:∀{a:Option Addr} {n c:Nat} {e:TypeId},P.underlying t=some (.slice e)→ρ x= .slice a n c→(op= .eql→(execOp ρ o).run P w= .ok (.value (.bool a.isNone)) w)∧(op= .neq→(execOp ρ o).run P w= .ok (.value (.bool (!a.isNone))) w):=by
  intro a n c e hu hv;constructor
  ·rintro rfl;simp only[execOp,ho,hv,hyv,Sem.run_bind];rw[aR (by simp) (by simp)];simp only[Result.andThen_ok,(eM rfl rfl (vJ hu a n c)).1];rfl
  ·rintro rfl;simp only[execOp,ho,hv,hyv,Sem.run_bind];rw[aR (by simp) (by simp)];simp only[Result.andThen_ok,(eM rfl rfl (vJ hu a n c)).2];rfl
 unfold mc at h;split at h
 ·rename_i hk e;obtain⟨a,c,hv,hn⟩:=sl e;exact⟨_,_,(fin (cE hk).1 hv).1 rfl,.v _ rfl,h _ hn⟩
 ·rename_i hk e;obtain⟨a,c,hv,hn⟩:=sl e;exact⟨_,_,(fin (cE hk).1 hv).2 rfl,.v _ rfl,h _ fun q=>by rw[hn q];rfl⟩
 ·rename_i hk e;obtain⟨a,c,hv,hn⟩:=acc e;exact⟨_,_,(fin (cE hk).1 hv).1 rfl,.v _ rfl,h _ hn⟩
 ·rename_i hk e;obtain⟨a,c,hv,hn⟩:=acc e;exact⟨_,_,(fin (cE hk).1 hv).2 rfl,.v _ rfl,h _ fun q=>by rw[hn q];rfl⟩
 ·rename_i a n c hk e;rw[e]at hx;exact⟨_,_,(fin (cE hk).1 (an hx)).1 rfl,.v _ rfl,h⟩
 ·rename_i a n c hk e;rw[e]at hx;exact⟨_,_,(fin (cE hk).1 (an hx)).2 rfl,.v _ rfl,h⟩
 ·exact h.elim
def uq(S:St)(x:DV)(z:Nat)(K:DV→St→Prop):Prop:=match x with
 | .acc l n=>match lk S.acc l with
  |some (.arr s xs)=>xs.length=n∧∀l',gx S.acc l'→K (.acc l' z) ⟨S.box,tJ S.acc l (l',.arr s (xs.take z))⟩
  |_=>False
 |_=>False
def Pn(m:Nat):Option DV→Prop
 |some (.v (.int _ n))=>(n==0)=true∨(0≤n∧n≤m)
 |_=>False
def OO:Option DV→Nat
 |some (.v (.int _ n))=>n.toNat
 |_=>0
def eX(k:TK)(S:St)(x:DV)(lo hi mx:Option DV)(K:DV→St→Prop):Prop:=match x with
 | .acc l n=>(lo.isNone=true∧mx.isNone=true∧Pn n hi∧(∃e s b,k= .sl e s b true)∧uq S (.acc l n) (OO hi) K)∨gR k S (.acc l n) lo hi mx K
 |x=>gR k S x lo hi mx K
theorem CD{o:Oper}{t:TypeId}{x:Operand}{lo hi mx:Option Operand}(ho:o.op= .slice t x lo hi mx){ρD:Operand→DV}{S:St}{K:DV→St→Prop}
 (hh:mx.isSome=true→hi.isSome=true) (hne:(lo≠some x∧hi≠some x∧mx≠some x)) (h:eX (tk P t) S (ρD x) (lo.map ρD) (hi.map ρD) (mx.map ρD) K):ae P w0 o ρD S K:=by
 unfold eX at h;split at h
 ·rename_i l n hxe;rcases h with⟨e1,e2,e3,⟨e,s,by',hk⟩,h⟩|h
  ·intro g w ρ h1 h2 hcst;have hx:=h2 x (by simp[ho,Op.operands]);have el:lo=none:=by cases lo <;>simp_all
   have em:mx=none:=by cases mx <;>simp_all
   subst el;subst em
   cases hi with
   |none=>simp[Pn]at e3
   |some y=>
    have hy:=h2 y (by simp[ho,Op.operands]);simp only[R6,Pn]at e3;split at e3
    ·rename_i k m hye;simp only[RC]at hye;rw[hye]at hy
     obtain⟨z,rfl,hz⟩:∃z:Nat,m=z∧z≤n:=by
      rcases e3 with e3|⟨e3,e4⟩
      ·exact⟨0,by simpa using e3,RL _⟩
      ·exact⟨m.toNat,by omega,by omega⟩
     have hat:OO (some (ρD y))=z:=by rw[hye];simp[OO]
     rw[R6,hat]at h;simp only[uq]at h
     ·split at h
      ·rename_i s' xs hl;obtain⟨rfl,hK⟩:=h;rw[hxe]at hx;obtain⟨a,c,hv,ha⟩:=ep hx
       have hcap:xs.length≤c:=by
        obtain⟨ow,ho⟩:=h1.open_;obtain⟨_,us,a',c',q1,_,_,_,q5,_⟩:=ho.gy hl (.inl rfl) ha;simp only[Value.slice.injEq,true_and]at q1;rw[q1.2];exact q5
       obtain⟨l2,g',hle,hne2,hR,hA⟩:=h1.cut hl hz ha;obtain⟨hu,hs,hbs,hei⟩:=cE hk
       have hsize:(Go.sizeOf e).run P w= .ok s w:=by
        obtain⟨j,z',hq,_,_,_⟩:=bI hei;unfold Program.cellsOf at hs;simp[hq]at hs;simp[Go.sizeOf,typeInfo,hq,hs]
       have hrun:(execOp ρ o).run P w= .ok (.value (.slice a z c)) w:=by
        have hb:(Instr.sliceBounds true xs.length c none (some (.int k (z:Int))) none).run P w= .ok (0,z,c) w:=by
         have:(Instr.sliceBound (.int k (z:Int)) c .sliceAcap).run P w= .ok z w:=by
          have:=av (P:=P) (k:=k) (i:=(z:Int)) (y:=c) (code:= .sliceAcap) (w:=w) (by omega) (by omega);simpa using this
         simp[Instr.sliceBounds,this,av]
        simp[execOp,ho,hv,Instr.sliceAt,Instr.slice,run_underlying hu,an hy,hb,hsize];cases a <;>simp[Addr.add]
       rw[hrun];exact⟨g',_,_,hle,by simpa using hR,hA,hK l2 (bN hne2)⟩
      ·exact h.elim
    ·cases e3
  ·exact uI ho hh hne (by rw[hxe];exact h)
 ·exact uI ho hh hne h
end
end Aml
namespace Aml
open Go Go.RowKit
inductive FK where
 |int (k:IntKind)
 |str
 |bool
def KG(P:Program)(T:TypeId):Option FK:=match P.underlying T with
 |some (.int k)=>some (.int k)
 |some .string=>some .str
 |some .bool=>some .bool
 |_=>none
def rE(P:Program):Nat→List Field→Option (List FK)
 |_,[]=>some []
 |i,f::fs=>if(f.name != "_" &&f.offset==i&&!gn P f.type)=true then(match KG P f.type,rE P (i+1) fs with
  |some k,some ks=>some (k::ks)
  |_,_=>none)else none
def wg(P:Program)(t:TypeId):Option (List FK):=match P.underlying t with
 |some (.struct _)=>if(!P.stoodInHeld t&&!P.eqGuardType P.depth t)=true then rE P 0 (P.fieldsOf t).toList else none
 |_=>none
def eC:List FK→List DV→List DV→Bool→(Bool→Prop)→Prop
 |[],[],[],r,F=>F r
 | .int k::ks,.v (.int k1 m)::la,.v (.int k2 n)::bs,r,F=>k1=k∧k2=k∧eC ks la bs (r&&decide (m=n)) F
 | .str::ks,.v (.string a)::la,.v (.string b)::bs,r,F=>eC ks la bs (r&&decide (a.data.toList=b.data.toList)) F
 | .bool::ks,.v (.bool a)::la,.v (.bool b)::bs,r,F=>eC ks la bs (r&&(a==b)) F
 |_,_,_,_,_=>False
theorem gY:∀{ks:List FK} {la bs:List DV} {F:Bool→Prop},eC ks la bs false F→F false
 |[],[],[],F,h=>h
 | .int k::ks,.v (.int k1 m)::la,.v (.int k2 n)::bs,F,h=>gY h.2.2
 | .str::ks,.v (.string a)::la,.v (.string b)::bs,F,h=>gY (la:=la) (bs:=bs) h
 | .bool::ks,.v (.bool a)::la,.v (.bool b)::bs,F,h=>gY (la:=la) (bs:=bs) h
theorem e9:∀{ks:List FK} {la bs:List DV} {r:Bool} {F G:Bool→Prop},(∀r,F r→G r)→eC ks la bs r F→eC ks la bs r G
 |[],[],[],r,F,G,hk,h=>hk _ h
 | .int k::ks,.v (.int k1 m)::la,.v (.int k2 n)::bs,r,F,G,hk,h=>⟨h.1,h.2.1,e9 hk h.2.2⟩
 | .str::ks,.v (.string a)::la,.v (.string b)::bs,r,F,G,hk,h=>e9 (la:=la) (bs:=bs) hk h
 | .bool::ks,.v (.bool a)::la,.v (.bool b)::bs,r,F,G,hk,h=>e9 (la:=la) (bs:=bs) hk h
theorem iU:∀{ks:List FK} {la bs:List DV} {r:Bool} {F:Bool→Prop},eC ks la bs r F→∃q,eC ks la bs r (·=q)∧F q
 |[],[],[],r,F,h=>⟨r,rfl,h⟩
 | .int k::ks,.v (.int k1 m)::la,.v (.int k2 n)::bs,r,F,h=>let⟨q,a,b⟩:=iU h.2.2;⟨q,⟨h.1,h.2.1,a⟩,b⟩
 | .str::ks,.v (.string a)::la,.v (.string b)::bs,r,F,h=>let⟨q,a,b⟩:=iU (ks:=ks) (la:=la) (bs:=bs) h;⟨q,a,b⟩
 | .bool::ks,.v (.bool a)::la,.v (.bool b)::bs,r,F,h=>let⟨q,a,b⟩:=iU (ks:=ks) (la:=la) (bs:=bs) h;⟨q,a,b⟩
section
variable {P:Program} {w0:W0}
def PL:FK→TypeDesc
 | .int k=> .int k
 | .str=> .string
 | .bool=> .bool
def NY:FK→DV→DV→Bool→Prop
 | .int k,a,b,q=>∃m n,a= .v (.int k m)∧b= .v (.int k n)∧q=decide (m=n)
 | .str,a,b,q=>∃m n,a= .v (.string m)∧b= .v (.string n)∧q=decide (m.data.toList=n.data.toList)
 | .bool,a,b,q=>∃m n,a= .v (.bool m)∧b= .v (.bool n)∧q=(m==n)
theorem Bq:∀{la bs:List DV} {r:Bool} {F:Bool→Prop},eC [] la bs r F→F r
 |[],[],r,F,h=>h
theorem xd:∀{k:FK} {ks:List FK} {la bs:List DV} {r:Bool} {F:Bool→Prop},eC (k::ks) la bs r F→∃a la' b bs' q0,la=a::la'∧bs=b::bs'∧eC ks la' bs' (r&&q0) F∧NY k a b q0
 | .int k,ks,.v (.int k1 m)::la,.v (.int k2 n)::bs,r,F,⟨h1,h2,h⟩=>⟨_,_,_,_,_,rfl,rfl,h,m,n,by rw[h1],by rw[h2],rfl⟩
 | .str,ks,.v (.string a)::la,.v (.string b)::bs,r,F,h=>⟨_,_,_,_,_,rfl,rfl,h,a,b,rfl,rfl,rfl⟩
 | .bool,ks,.v (.bool a)::la,.v (.bool b)::bs,r,F,h=>⟨_,_,_,_,_,rfl,rfl,h,a,b,rfl,rfl,rfl⟩
theorem rq{T:TypeId}{k:FK}(h:KG P T=some k):P.underlying T=some (PL k):=by
 unfold KG at h;split at h <;>first|(cases h;assumption)|cases h
theorem rH{g:Gh}{us vs:List Value}{w:World}{d:Nat}{F:Bool→Prop}:∀(fs:List Field) {i:Nat} {ks:List FK} {la bs:List DV} {r:Bool},rE P i fs=some ks→aa g la (us.drop i)→aa g bs (vs.drop i)→eC ks la bs r F→
 ∃q,(Op.eqFields (d+1) us.toArray vs.toArray fs).run P w= .ok q w∧F (r&&q)
 |[],i,ks,la,bs,r,hf,ha,hb,h=>by
  simp only[rE,RC]at hf;subst hf;refine⟨true,by simp[Op.eqFields],?_⟩;rw[Bool.and_true];exact Bq h
 |f::fs,i,ks,la,bs,r,hf,ha,hb,h=>by
  simp only[rE]at hf;split at hf
  ·rename_i hc;simp only[Rm,bne_iff_ne,ne_eq,beq_iff_eq,Sc]at hc;obtain⟨⟨hn,ho⟩,hag⟩:=hc;split at hf
   ·rename_i k ks' hk hks;simp only[RC]at hf;subst hf;have hu:=rq hk
    have step:∀{a b:DV} {la' bs':List DV} {q0:Bool},la=a::la'→bs=b::bs'→
     (∀u v,aA g a u→aA g b v→(Op.equalIn (d+1) f.type u v).run P w= .ok q0 w)→eC ks' la' bs' (r&&q0) F→∃q,(Op.eqFields (d+1) us.toArray vs.toArray (f::fs)).run P w= .ok q w∧F (r&&q):=by
     rintro a b la' bs' q0 rfl rfl hq h;obtain⟨u,us',e1,a1,a2⟩:=ha.ba;obtain⟨v,vs',e2,b1,b2⟩:=hb.ba;have hu1:us[i]? =some u:=by have:=congrArg (·[0]?) e1;simpa[Sq]using this
     have hv1:vs[i]? =some v:=by have:=congrArg (·[0]?) e2;simpa[Sq]using this
     have p1:=kH (P:=P) (w:=w) (us:=us) (off:=f.offset) hag (by rw[hu];rfl) (by rw[ho];exact hu1);have p2:=kH (P:=P) (w:=w) (us:=vs) (off:=f.offset) hag (by rw[hu];rfl) (by rw[ho];exact hv1);have p3:=hq u v a1 b1;have d1:us.drop (i+1)=us':=by rw[←TO,e1];rfl
     have d2:vs.drop (i+1)=vs':=by rw[←TO,e2];rfl
     cases q0 with
     |false=>
      refine⟨false,?_,?_⟩
      ·simp[Op.eqFields,hn,p1,p2,p3]
      ·rw[Bool.and_false]at h ⊢;exact gY h
     |true=>
      rw[Bool.and_true]at h;obtain⟨q,r1,r2⟩:=rH (d:=d) (w:=w) fs hks (by rw[d1];exact a2) (by rw[d2];exact b2) h;exact⟨q,by simp[Op.eqFields,hn,p1,p2,p3,r1],r2⟩
    obtain⟨a,la',b,bs',q0,ea,eb,h',hq⟩:=xd h;refine step ea eb (fun u v r1 r2=>?_) h'
    cases k with
    |int k=>
     obtain⟨m,n,rfl,rfl,rfl⟩:=hq;cases r1;cases r2;rw[run_equalIn_int w d f.type _ _ m n hu,sZ]
    |str=>
     obtain⟨m,n,rfl,rfl,rfl⟩:=hq;cases r1;cases r2;rw[run_equalIn_string w d f.type m n hu,ByteArray.toList_eq,ByteArray.toList_eq,EM]
    |bool=>
     obtain⟨m,n,rfl,rfl,rfl⟩:=hq;cases r1;cases r2;rw[run_equalIn_bool' w d f.type m n hu]
   ·cases hf
  ·cases hf
def iu:List FK→Option (List IntKind)
 |[]=>some []
 | .int k::l=>(iu l).map (k::·)
 |_=>none
theorem vj:∀{fks:List FK} {ks:List IntKind} {us vs:List Value} {r:Bool},iu fks=some ks→aW ks us=true→aW ks vs=true→eC fks (us.map .v) (vs.map .v) r (fun x=>x=(r&& @decide (us=vs) (Classical.propDecidable _)))
 |[],ks,us,vs,r,h,h1,h2=>by
  cases h;cases us <;>cases vs <;>first|(simp[aW]at h1;done)|(simp[aW]at h2;done)|simp[eC]
 | .int k::fks,ks,us,vs,r,h,h1,h2=>by
  simp only[iu,Rw]at h;obtain⟨ks',hk,rfl⟩:=h
  cases us with
  |nil=>simp[aW]at h1
  |cons u us=>
   cases vs with
   |nil=>simp[aW]at h2
   |cons v vs=>
    cases u <;>simp[aW]at h1;cases v <;>simp[aW]at h2;rename_i k1 a k2 b;have:=vj (r:=r&&decide (a=b)) hk h1.2 h2.2;simp only[Rz,eC];refine⟨h1.1,h2.1,e9 (fun x hx=>?_) this⟩;rw[hx,Bool.and_assoc];congr 1;obtain⟨rfl,_⟩:=h1;obtain⟨rfl,_⟩:=h2;by_cases e1:a=b
    ·by_cases e2:us=vs
     ·simp[e1,e2]
     ·simp[e1,e2]
    ·simp[e1]
theorem qF{g:Gh}{us:List Value}(h:∀u,u∈us→u.oneCell'=true):aa g (us.map .v) us:=⟨by simp,fun i d u a b=>by
 rw[Rt,b]at a;cases a;exact .v u (h u (Rj b))⟩
theorem kr:∀{ks:List IntKind} {us:List Value},aW ks us=true→∀u,u∈us→u.oneCell'=true
 |[],[],_,u,hu=>by cases hu
 |[],_::_,h,_,_=>by simp[aW]at h
 |_::_,[],h,_,_=>by simp[aW]at h
 |k::ks,a::us,h,u,hu=>by
  cases a <;>simp[aW]at h;rcases Rv.1 hu with rfl|hu
  ·rfl
  ·exact kr h.2 u hu
theorem NS{kt:TypeId}{fks:List FK}{ks:List IntKind}(he:wg P kt=some fks)(hk:iu fks=some ks){us vs:List Value}(h1:aW ks us=true)(h2:aW ks vs=true)(w:World):
 (Op.equal kt (.agg us.toArray) (.agg vs.toArray)).run P w= .ok (@decide (us=vs) (Classical.propDecidable _)) w:=by
 unfold wg at he;split at he
 ·rename_i fs hst;split at he
  ·rename_i hc;simp only[Rm,Sc]at hc;have hfo:P.underlying kt=some (.struct (P.fieldsOf kt)):=by unfold Program.fieldsOf;rw[hst]
   have g:Gh:=⟨fun _ _=>none,fun _ _=>none,fun _=>none,[]⟩;obtain⟨q,r1,r2⟩:=rH (P:=P) (w:=w) (d:=9998) (g:=g) (us:=us) (vs:=vs) (P.fieldsOf kt).toList he (by rw[List.drop_zero];exact qF (kr h1)) (by rw[List.drop_zero];exact qF (kr h2)) (vj hk h1 h2);rw[Tk,Tk]at r2;show(Op.equalIn 10000 kt _ _).run P w=_;rw[run_equalIn_struct w 9999 kt _ _ hfo hc.1,r1,r2]
  ·cases he
 ·cases he
theorem jx{ks:List IntKind}{k:Value}(h:isKey (.st ks) k=true):∃us:List Value,k= .agg us.toArray∧aW ks us=true:=by
 cases k <;>simp[isKey]at h;rename_i us;exact⟨us.toList,by simp,h⟩
theorem om{kt:TypeId}{fks:List FK}{ks:List IntKind}(he:wg P kt=some fks)(hk:iu fks=some ks){k:Value}(h1:isKey (.st ks) k=true)(w:World):∀(l:List MapEntry) (i:Nat),(∀x,x∈l→isKey (.st ks) x.key=true)→
 ((Instr.findAsking kt k l i).run P w= .ok none w∧∀x,x∈l→x.key≠k)∨∃j e,(Instr.findAsking kt k l i).run P w= .ok (some (i+j,e.val)) w∧l[j]? =some e∧e.key=k
 |[],i,_=> .inl ⟨by simp[Instr.findAsking],by simp⟩
 |e::es,i,hall=>by
  obtain⟨us,rfl,hu⟩:=jx h1;obtain⟨vs,hv,hv2⟩:=jx (hall e (by simp));have hr:=NS he hk hu hv2 w;by_cases hx:us=vs
  ·refine .inr ⟨0,e,?_,rfl,by rw[hv,hx]⟩;rw[show @decide (us=vs) (Classical.propDecidable _)=true from by simp[hx]]at hr;simp[Instr.findAsking,hv,hr]
  ·rw[show @decide (us=vs) (Classical.propDecidable _)=false from by simp[hx]]at hr
   have hne:e.key≠ .agg us.toArray:=by
    rw[hv];intro h;simp at h;exact hx h.symm
   rcases om he hk h1 w es (i+1) (fun x hx=>hall x (by simp[hx]))with⟨a,b⟩|⟨j,e',a,b,c⟩
   ·refine .inl ⟨?_,fun x hx=>?_⟩
    ·simp[Instr.findAsking,hv,hr,a]
    ·rcases Rv.1 hx with rfl|hx
     ·exact hne
     ·exact b x hx
   ·refine .inr ⟨j+1,e',?_,by simpa using b,c⟩;simp[Instr.findAsking,hv,hr,a,Sy,Te 1 j]
theorem FQ{kt:TypeId}{fks:List FK}{ks:List IntKind}(he:wg P kt=some fks)(hk:iu fks=some ks){us:List Value}(h:aW ks us=true)(em:Bool)(w:World):(Instr.checkKey em 10000 kt (.agg us.toArray)).run P w= .ok () w:=by
 unfold wg at he;split at he
 ·rename_i fs0 hst;split at he
  ·have hfo:P.underlying kt=some (.struct (P.fieldsOf kt)):=by unfold Program.fieldsOf;rw[hst]
   rw[show(10000:Nat)=9998+1+1 from rfl,Instr.checkKey];simp only[Sem.run_bind,run_underlying hfo,Result.andThen_ok];rw[←Array.forIn_toList];have h':aW ks (us.drop 0)=true:=by simpa using h
   clear h hst hfo;generalize (P.fieldsOf kt).toList=L at he;generalize (0:Nat)=i at he h'
   induction L generalizing i fks ks with
   |nil=>simp
   |cons f fs ih=>
    simp only[rE]at he;split at he
    ·rename_i hc;simp only[Rm,bne_iff_ne,ne_eq,beq_iff_eq,Sc]at hc;obtain⟨⟨hn,ho⟩,hag⟩:=hc;split at he
     ·rename_i k ks' hkf hks;simp only[RC]at he;subst he
      cases k with
      |int k=>
       simp only[iu,Rw]at hk;obtain⟨ks2,hk2,rfl⟩:=hk;have hu:=rq hkf
       obtain⟨u,us',e1⟩:∃u us',us.drop i=u::us':=by
        cases hd:us.drop i with
        |nil=>rw[hd]at h';simp[aW]at h'
        |cons a b=>exact⟨a,b,rfl⟩
       rw[e1]at h';have hu1:us[i]? =some u:=by have:=congrArg (·[0]?) e1;simpa[Sq]using this
       have p1:=kH (P:=P) (w:=w) (us:=us) (off:=f.offset) hag (by rw[hu];rfl) (by rw[ho];exact hu1);have d1:us.drop (i+1)=us':=by rw[←TO,e1];rfl
       cases u <;>simp[aW]at h';obtain⟨rfl,h'⟩:=h';rename_i k1 a;have p2:(Instr.checkKey em (9998+1) f.type (.int k1 a)).run P w= .ok () w:=MapKept.run_checkKey hu (by simp[PL,MapKept.IsKey]) em 9998;simp only[List.forIn_cons,Sem.run_bind,hn,ne_eq,not_false_eq_true,if_true,Result.andThen_ok,p1,p2,Sem.run_pure];exact ih hk2 (i+1) hks (by rw[d1];exact h')
      |str=>simp[iu]at hk
      |bool=>simp[iu]at hk
     ·cases he
    ·cases he
  ·cases he
 ·cases he
theorem mv(n:Nat):∀{ks:List IntKind} {us:List Value},aW ks us=true→((us.zip us).all fun(x,y)=>Instr.sameBits n x y)=true
 |[],[],_=>rfl
 |[],_::_,h=>by simp[aW]at h
 |_::_,[],h=>by simp[aW]at h
 |k::ks,a::us,h=>by
  cases a <;>simp[aW]at h;have:=mv n h.2;rw[List.zip_cons_cons,SU,this,Bool.and_true];cases n <;>simp[Instr.sameBits]
theorem Fg{ks:List IntKind}{us:List Value}(h:aW ks us=true)(w:World):(Instr.keyThatStays (.agg us.toArray) (.agg us.toArray)).run P w= .ok (.agg us.toArray) w:=by
 have:=mv 9999 h
 have h2:Instr.sameBits 10000 (.agg us.toArray) (.agg us.toArray)=true:=by
  show((us.toArray.size==us.toArray.size)&&_)=true;simp[this]
 unfold Instr.keyThatStays;rw[if_pos h2];simp
end
end Aml
namespace Aml
open Go Go.RowKit
noncomputable def pF(es:List (Value×DV×Nat))(k:Value):Option DV:=(es.find? fun e=>@decide (e.1=k) (Classical.propDecidable _)).map (·.2.1)
noncomputable def ou(k:Value)(d:DV)(e:Value×DV×Nat):Value×DV×Nat:=if @decide (e.1=k) (Classical.propDecidable _)then(e.1,d,e.2.2)else e
noncomputable def xy(es:List (Value×DV×Nat))(clk:Nat)(k:Value)(d:DV):List (Value×DV×Nat):=
 if(pF es k).isSome then es.map (ou k d)else es++[(k,d,clk)]
noncomputable def xH(es:List (Value×DV×Nat))(clk:Nat)(k:Value):Nat:=if(pF es k).isSome then clk else clk+1
noncomputable def xO(es:List (Value×DV×Nat))(k:Value):List (Value×DV×Nat):=es.filter fun e=>!@decide (e.1=k) (Classical.propDecidable _)
theorem HM{k:Value}{d:DV}{e:Value×DV×Nat}(h:e.1=k):ou k d e=(e.1,d,e.2.2):=by
 unfold ou;rw[if_pos (by simp[h])]
theorem H3{k:Value}{d:DV}{e:Value×DV×Nat}(h:e.1≠k):ou k d e=e:=by
 unfold ou;rw[if_neg (by simp[h])]
theorem AI{α:Type}{l:List α}(h:l.Nodup){i j:Nat}{a:α}(hi:l[i]? =some a)(hj:l[j]? =some a):i=j:=by
 obtain⟨h1,rfl⟩:=Rp.1 hi;obtain⟨h2,e⟩:=Rp.1 hj;rcases Ti i j with q|q|q
 ·exact absurd e.symm (SQ.1 h i j h1 h2 q)
 ·exact q
 ·exact absurd e (SQ.1 h j i h2 h1 q)
theorem l9{es:List (Value×DV×Nat)}{k:Value}:pF es k=none↔∀e,e∈es→e.1≠k:=by
 unfold pF;rw[Option.map_eq_none_iff,List.find?_eq_none];simp
theorem HC{es:List (Value×DV×Nat)}(h:(es.map (·.1)).Nodup){j:Nat}{e:Value×DV×Nat}(hj:es[j]? =some e):pF es e.1=some e.2.1:=by
 unfold pF
 have:es.find? (fun x=>@decide (x.1=e.1) (Classical.propDecidable _))=some e:=by
  induction es generalizing j with
  |nil=>simp at hj
  |cons a es ih=>
   rw[Rz,R0]at h;rw[List.find?_cons]
   cases j with
   |zero=>simp at hj;subst hj;simp
   |succ j=>
    simp only[SE]at hj;have hne:a.1≠e.1:=fun x=>h.1 (by rw[x];exact Sl (f:=fun y:Value×DV×Nat=>y.1) (Rj hj));rw[show @decide (a.1=e.1) (Classical.propDecidable _)=false from by simp[hne]];exact ih h.2 hj
 rw[this];rfl
structure Ic(P:Program)(kt:TypeId)(kk:KK):Prop where
 find:∀(k:Value) (l:List MapEntry) (w:World),isKey kk k=true→(∀x,x∈l→isKey kk x.key=true)→
  ((Instr.findKey kt k l).run P w= .ok none w∧∀x,x∈l→x.key≠k)∨∃j e,(Instr.findKey kt k l).run P w= .ok (some (j,e.val)) w∧l[j]? =some e∧e.key=k
 check:∀(b:Bool) (k:Value) (w:World),isKey kk k=true→(Instr.checkKey b 10000 kt k).run P w= .ok () w
 stays:∀(k:Value) (w:World),isKey kk k=true→(Instr.keyThatStays k k).run P w= .ok k w
theorem zL{P:Program}{kt:TypeId}{kk:KK}{d:TypeDesc}(hd:P.underlying kt=some d)(hk:∀k,isKey kk k=true→MapKept.IsKey d k):Ic P kt kk where
 find:=fun k l w h1 h2=>by
  rcases MapKept.findNow_spec (hk k h1) l 0 (fun x hx=>hk _ (h2 x hx))with⟨a,b⟩|⟨j,e,a,b,c⟩
  ·exact .inl ⟨MapKept.run_findKey hd a,b⟩
  ·exact .inr ⟨j,e,by have:=MapKept.run_findKey (w:=w) hd a;simpa using this,b,c⟩
 check:=fun b k w h=>MapKept.run_checkKey hd (hk k h) b 9999
 stays:=fun k w h=>MapKept.run_keyThatStays (hk k h)
def Hh(P:Program)(kt:TypeId):Option KK:=match tk P kt with
 | .int k=>some (.int k)
 | .str=>some .str
 | .st _ _=>(wg P kt).bind fun f=>(iu f).map .st
 |_=>none
theorem Eb{P:Program}{kt:TypeId}{kk:KK}(h:Hh P kt=some kk):Ic P kt kk:=by
 unfold Hh at h;split at h
 ·rename_i k hk;cases h;exact zL (ib hk) fun u hu=>by cases u <;>simp_all [isKey,MapKept.IsKey]
 ·rename_i hk;cases h;exact zL (fp hk) fun u hu=>by cases u <;>simp_all [isKey,MapKept.IsKey]
 ·obtain⟨fks,he,h⟩:=TH.1 h;obtain⟨ks,hk,rfl⟩:=Rw.1 h;refine⟨fun k l w h1 h2=>?_,fun b k w h1=>?_,fun k w h1=>?_⟩
  ·have hu:∃fs,P.underlying kt=some (.struct fs):=by
    unfold wg at he;split at he
    ·exact⟨_,by assumption⟩
    ·cases he
   obtain⟨fs,hu⟩:=hu
   have hf:(Instr.findKey kt k l).run P w=(Instr.findAsking kt k l 0).run P w∨l=[]:=by
    cases l with
    |nil=>exact .inr rfl
    |cons e l=>
     refine .inl ?_;have:Instr.sameNow (.struct fs) k e.key=none:=by cases k <;>rfl
     simp[Instr.findKey,run_underlying hu,Instr.findNow,this]
   rcases hf with hf|rfl
   ·rcases om he hk h1 w l 0 h2 with⟨a,b⟩|⟨j,e,a,b,c⟩
    ·exact .inl ⟨hf.trans a,b⟩
    ·exact .inr ⟨j,e,by rw[hf,a,Sz],b,c⟩
   ·exact .inl ⟨by simp[Instr.findKey,run_underlying hu,Instr.findNow],by simp⟩
  ·obtain⟨us,rfl,hu⟩:=jx h1;exact FQ he hk hu b w
  ·obtain⟨us,rfl,hu⟩:=jx h1;exact Fg hu w
 ·cases h
def nT(P:Program)(t:TypeId):Option (KK×DV):=match tk P t with
 | .map k e=>(Hh P k).map fun kk=>(kk,zD P e)
 |_=>none
theorem nG{P:Program}{t:TypeId}{kk:KK}{z:DV}(h:nT P t=some (kk,z)):∃k e,P.underlying t=some (.map k e)∧Ic P k kk∧zD P e=z:=by
 unfold nT at h;split at h
 ·rename_i k e hk;obtain⟨kk',h1,h2⟩:=Rw.1 h;cases h2;exact⟨k,e,by unfold tk at hk;split at hk <;>(try split at hk) <;>(try cases hk) <;>assumption,Eb h1,rfl⟩
 ·cases h
def oK{α:Type}:Option α→(α→Prop)→Prop
 |some a,F=>F a
 |none,_=>False
def qx:DV→Option Value
 | .v u=>some u
 | .agg ds=>(cU ds).map fun us=> .agg us.toArray
 |_=>none
theorem qI{g:Gh}:∀{ds:List DV} {us vs:List Value},cU ds=some us→aa g ds vs→vs=us
 |[],us,vs,h,r=>by
  cases h;exact Rs (by have:=r.len;simpa using this.symm)
 |d::ds,us,vs,h,r=>by
  obtain⟨u,us',rfl,r1,r2⟩:=r.ba
  cases d with
  |v x=>
   simp only[cU,Rw]at h;obtain⟨ys,hy,rfl⟩:=h;rw[an r1,qI hy r2]
  |_=>simp[cU]at h
theorem oh{g:Gh}{d:DV}{k u:Value}(h:qx d=some k)(r:aA g d u):u=k:=by
 cases d with
 |v x=>cases h;exact an r
 |agg ds=>
  simp only[qx,Rw]at h;obtain⟨us,h1,rfl⟩:=h;obtain⟨vs,rfl,r1,_⟩:=jy r;rw[qI h1 r1]
 |_=>cases h
def kD:Value→DV
 | .agg us=> .agg (us.toList.map .v)
 |u=> .v u
theorem DB{g:Gh}{kk:KK}{k:Value}(h:isKey kk k=true):aA g (kD k) k:=by
 cases kk <;>cases k <;>first|(simp[isKey]at h;done)|exact .v _ rfl|skip
 rename_i ks us
 have hl:∀(ks:List IntKind) (l:List Value),aW ks l=true→∀u,u∈l→u.oneCell'=true:=by
  intro ks l
  induction l generalizing ks with
  |nil=>intro _ u hu;cases hu
  |cons a l ih=>
   intro h u hu
   cases ks with
   |nil=>simp[aW]at h
   |cons k ks=>
    cases a <;>simp[aW]at h;rcases Rv.1 hu with rfl|hu
    ·rfl
    ·exact ih ks h.2 u hu
 have h1:=hl ks us.toList h
 have:=aA.agg (g:=g) (us.toList.map .v) us.toList (by simp) (fun i d u a b=>by
  rw[Rt,b]at a;cases a;exact .v u (h1 u (Rj b))) h1
 simpa[kD]using this
section
variable {P:Program} {w0:W0}
theorem Rel.AK{g:Gh}{S:St}{w:World}(h:Rel w0 g S w){l:Nat}{f:XO}(hl:lk S.acc l=some (.xo f)):∃b o,g.acc l 0=some (.slice (some ⟨b,0,none⟩) 0 0)∧w.heap[b]? =some o∧wi g f o∧
 ∀f' o' w',wi g f' o'→fJ b w w'→w'.heap[b]? =some o'→(∀i,i≠b→w'.heap[i]? =w.heap[i]?)→Rel w0 g ⟨S.box,up S.acc l (.xo f')⟩ w':=by
 obtain⟨ow,h⟩:=h.open_;have hm:=bd hl;obtain⟨b,o,q1,q2,q3,q4,q5,q6⟩:=h.acc l _ hm;refine⟨b,o,q1,q5,q6,fun f' o' w' hx hB hb' hs=>dc.close (ow:=ow) ⟨?_,?_,h.nb,?_,h.df,h.fresh,?_,?_,?_,?_⟩⟩
 ·exact h.below.step (hB.mono q3) b (fun x hx'=>by rw[q5]at hx';cases hx';exact q6.nc) fun i _ hne=>hs i hne
 ·intro b' i u hu;have hne:b'≠b:=by rintro rfl;rw[q4]at hu;cases hu
  rw[World.cell?_of_block (w:=w) (w':=w') (a:=⟨b',i,none⟩) (hs b' hne)];exact h.aO _ _ _ hu
 ·rw[iN];exact h.na
 ·intro l' o'' hm' k hk;rcases dG h.na hm' with e|⟨hm',hne⟩
  ·simp only[RS]at e;obtain⟨rfl,rfl⟩:=e;exact h.top _ _ hm k hk
  ·exact h.top _ _ hm' k hk
 ·intro b' ds hb;refine(h.box _ _ hb).step (.refl g) fun ho=>⟨ho,hs b' ?_,fun _ hi=>hi⟩;rintro rfl;rw[q2]at ho;cases ho
 ·intro l' o'' hm';rcases dG h.na hm' with e|⟨hm',hne⟩
  ·simp only[RS]at e;obtain⟨rfl,rfl⟩:=e;exact⟨b,o',q1,q2,q3,q4,hb',hx⟩
  ·refine(h.acc _ _ hm').step (.refl g) fun b' ho=>⟨ho,hs b' ?_,fun _ hi=>hi⟩;rintro rfl;rw[q2]at ho;simp only[RC,Key.a.injEq]at ho;exact hne ho.symm
 ·intro b' k hk;exact Sx (h.iJ _ _ hk) hB.size
theorem Rel.FI{g:Gh}{S:St}{w:World}(h:Rel w0 g S w){l:Nat}{f:XO}(hl:lk S.acc l=some (.xo f)):∃b o,g.acc l 0=some (.slice (some ⟨b,0,none⟩) 0 0)∧w.heap[b]? =some o∧wi g f o:=
 let⟨b,o,q1,q2,q3,_⟩:=h.AK hl
 ⟨b,o,q1,q2,q3⟩
theorem Rel.JZ{g:Gh}{S:St}{w w':World}(h:Rel w0 g S w)(k:fJ w.heap.size w w'){b:Nat}{o:Obj}{f:XO}(hge:w.heap.size≤b)(hb:w'.heap[b]? =some o)(hx:wi g f o):
 ∃l g',g.le g'∧(∀p,p∈S.acc→p.1≠l)∧Rel w0 g' ⟨S.box,(l,.xo f)::S.acc⟩ w'∧g'.acc l 0=some (.slice (some ⟨b,0,none⟩) 0 0):=by
 obtain⟨ow,h⟩:=h.open_
 have hnow:ow b=none:=by
  cases ho:ow b with
  |none=>rfl
  |some q=>have:=h.iJ b q ho;omega
 have h':=h.grow k;obtain⟨m,hm'⟩:=h'.fresh
 have hnone:∀i,g.aO b i=none:=by
  intro i
  cases hi:g.aO b i with
  |none=>rfl
  |some u=>have:=World.block_lt_of_cell? w _ (h.aO _ _ _ hi);simp at this;omega
 have hne:∀p,p∈S.acc→p.1≠m:=by
  rintro⟨l',o'⟩ hp rfl;obtain⟨u,hu⟩:=(h'.acc _ _ hp).has;rw[hm' _ _ (Ro _)]at hu;cases hu
 let v:Value:= .slice (some ⟨b,0,none⟩) 0 0
 have hle:g.le (g.aB m 0 v):=Gh.eg (.inl (hm' _ _ (Ro _)));have hself:(g.aB m 0 v).acc m 0=some v:=by simp[Gh.aB]
 refine⟨m,g.aB m 0 v,hle,hne,dc.close (ow:=fun x=>if x=b then some (.a m)else ow x) ⟨h'.below.le hle,h'.aO,h'.nb,?_,?_,?_,?_,?_,?_,?_⟩,hself⟩
 ·simp only[Rz,R0];refine⟨fun hx=>?_,h'.na⟩;obtain⟨p,hp,e⟩:=RI.1 hx;exact hne p hp e
 ·intro l' n u hu;simp only[Gh.aB]at hu;split at hu
  ·rename_i e;obtain⟨rfl,rfl⟩:=e;exact⟨_,_,(RG hu).symm,.inl rfl⟩
  ·exact h'.df _ _ _ hu
 ·refine⟨m+1,fun l n hl=>?_⟩;simp only[Gh.aB];rw[if_neg (by omega)];exact hm' _ _ (by omega)
 ·intro l o hl k hk;simp only[Gh.aB];rcases Rv.1 hl with e|hl
  ·simp only[RS]at e;obtain⟨rfl,rfl⟩:=e;simp only[Ob.len]at hk;rw[if_neg (by omega)];exact hm' _ _ (Ro _)
  ·rw[if_neg (fun e=>hne _ hl e.1)];exact h'.top _ _ hl k hk
 ·intro b' ds hb';refine(h'.box b' ds hb').step hle fun ho=>⟨?_,rfl,fun _ hi=>hi⟩;split
  ·rename_i e;subst e;exact absurd (hnow.symm.trans ho) (by simp)
  ·exact ho
 ·intro l o hl;rcases Rv.1 hl with e'|hl
  ·simp only[RS]at e';obtain⟨rfl,rfl⟩:=e';exact⟨b,_,hself,if_pos rfl,Se h.below.size hge,hnone,hb,hx.mono hle⟩
  ·refine(h'.acc l o hl).step hle fun b' ho=>⟨?_,rfl,fun _ hi=>hi⟩;split
   ·rename_i e;subst e;exact absurd (hnow.symm.trans ho) (by simp)
   ·exact ho
 ·intro b' q hq;split at hq
  ·rename_i e;subst e;exact lt_of_heap hb
  ·exact h'.iJ _ _ hq
theorem oI{g:Gh}{l:Nat}{x:Value}(r:aA g (.mp l) x):∃b,x= .map (some b)∧g.acc l 0=some (.slice (some ⟨b,0,none⟩) 0 0):=by
 cases r with
 |mp _ b h=>exact⟨b,rfl,h⟩
theorem x0{g:Gh}{l:Nat}{x:Value}(r:aA g (.it l) x):∃b,x= .pointer (some ⟨b,0,none⟩)∧g.acc l 0=some (.slice (some ⟨b,0,none⟩) 0 0):=by
 cases r with
 |it _ b h=>exact⟨b,rfl,h⟩
theorem cT(w:World)(b:Nat)(o:Obj):fJ b w {w with heap:=w.heap.setIfInBounds b o}:=⟨rfl,rfl,rfl,by simp,fun k hk=>by simp[RF,Nat.ne_of_gt hk],Ro _⟩
theorem fg{w:World}{b:Nat}{o o':Obj}(h:w.heap[b]? =some o):({w with heap:=w.heap.setIfInBounds b o'}:World).heap[b]? =some o'∧∀i,i≠b→({w with heap:=w.heap.setIfInBounds b o'}:World).heap[i]? =w.heap[i]? :=MapKept.heap_set h
theorem eV.get{g:Gh}{es:List (Value×DV×Nat)}{es':List MapEntry}(r:eV g es es'){j:Nat}{e':MapEntry}(h:es'[j]? =some e'):∃e,es[j]? =some e∧e'.key=e.1∧aA g e.2.1 e'.val∧e'.born=e.2.2:=by
 have hlt:j<es.length:=by rw[r.len];exact(Rp.1 h).1
 have he:es[j]? =some es[j]:=so hlt;exact⟨_,he,r.at_ j _ _ he h⟩
theorem eV.get'{g:Gh}{es:List (Value×DV×Nat)}{es':List MapEntry}(r:eV g es es'){j:Nat}{e:Value×DV×Nat}(h:es[j]? =some e):∃e',es'[j]? =some e'∧e'.key=e.1∧aA g e.2.1 e'.val∧e'.born=e.2.2:=by
 have hlt:j<es'.length:=by rw[←r.len];exact(Rp.1 h).1
 have he:es'[j]? =some es'[j]:=so hlt;exact⟨_,he,r.at_ j _ _ h he⟩
theorem eV.keys{g:Gh}{es:List (Value×DV×Nat)}{es':List MapEntry}(r:eV g es es'){kk:KK}{clk:Nat}(h:o9 kk es clk):∀x,x∈es'→isKey kk x.key=true:=fun x hx=>by
 obtain⟨j,hj⟩:=Su.1 hx;obtain⟨e,he,h1,_⟩:=r.get hj;rw[h1];exact h.key e (Rj he)
theorem eV.found{g:Gh}{es:List (Value×DV×Nat)}{es':List MapEntry}(r:eV g es es'){kk:KK}{clk:Nat}(h:o9 kk es clk){kt:TypeId}(L:Ic P kt kk){k:Value}(hk:isKey kk k=true)(w:World):
 ((Instr.findKey kt k es').run P w= .ok none w∧pF es k=none)∨∃j e e',(Instr.findKey kt k es').run P w= .ok (some (j,e'.val)) w∧es'[j]? =some e'∧es[j]? =some e∧e.1=k∧e'.key=k∧aA g e.2.1 e'.val∧e'.born=e.2.2∧pF es k=some e.2.1:=by
 rcases L.find k es' w hk (r.keys h)with⟨a,b⟩|⟨j,e',a,b,c⟩
 ·refine .inl ⟨a,l9.2 fun e he hek=>?_⟩;obtain⟨j,hj⟩:=Su.1 he;obtain⟨e',he',h1,_⟩:=r.get' hj;exact b e' (Rj he') (h1.trans hek)
 ·obtain⟨e,he,h1,h2,h3⟩:=r.get b;exact .inr ⟨j,e,e',a,b,he,h1.symm.trans c,c,h2,h3,by have:=HC h.nd he;rwa [h1.symm.trans c]at this⟩
def MA(ok:Bool)(d:DV)(is:Bool):DV:=if ok then .bU [d,.v (.bool is)]else d
def cL(m:Option (KK×DV))(S:St)(x y:DV)(ok:Bool)(K:DV→Prop):Prop:=oK m fun p=>dA p.2=true∧oK (qx y) fun k=>isKey p.1 k=true∧(match x with
 | .v (.map none)=>K (MA ok p.2 false)
 | .mp l=>(match lk S.acc l with
  |some (.xo (.mp kk es clk))=>kk=p.1∧(match pF es k with
   |some d=>K (MA ok d true)
   |none=>K (MA ok p.2 false))
  |_=>False)
 |_=>False)
theorem DU{o:Oper}{t:TypeId}{x y:Operand}{ok:Bool}(ho:o.op= .lookup t x y ok){ρD:Operand→DV}{S:St}{K:DV→St→Prop}(h:cL (nT P t) S (ρD x) (ρD y) ok (K · S)):ae P w0 o ρD S K:=by
 refine aZ fun g w ρ h1 h2=>?_;have hx:=h2 x (by simp[ho,Op.operands]);have hy:=h2 y (by simp[ho,Op.operands]);unfold cL at h
 cases hm:nT P t with
 |none=>rw[hm]at h;exact h.elim
 |some p=>
  obtain⟨kk,z⟩:=p;rw[hm]at h;obtain⟨hz,h⟩:=h
  cases hk:qx (ρD y)with
  |none=>rw[hk]at h;exact h.elim
  |some k=>
   rw[hk]at h;obtain⟨hkk,h⟩:=h;have hyk:=oh hk hy;obtain⟨kt,et,hu,L,hzd⟩:=nG hm;simp only at hz hkk h;obtain⟨zv,hzr,hzz⟩:=tj (P:=P) hzd hz w
   have hlk:∀(d:DV) (v:Value) (is:Bool),aA g d v→aA g (MA ok d is) (if ok=true then .tuple #[v,.bool is]else v):=fun d v is r=>by
    unfold MA;cases ok
    ·exact r
    ·exact kR r (.v (.bool is) rfl)
   split at h
   ·rename_i e;rw[e]at hx;refine⟨_,_,?_,hlk z zv false (hzz g),h⟩;have hxe:=an hx
    have hf:(Instr.findKey kt k []).run P w= .ok none w:=by
     rcases L.find k [] w hkk (fun x hx=>by cases hx)with h|⟨j,e,_,h,_⟩
     ·exact h.1
     ·simp at h
    simp[execOp,ho,Instr.lookup,run_underlying hu,hxe,hyk,L.check _ k w hkk,hf,hzr]
   ·rename_i l e;rw[e]at hx;obtain⟨b,hxb,hgb⟩:=oI hx;split at h
    ·rename_i kk' es clk hl;obtain⟨rfl,h⟩:=h;obtain⟨b',o',q1,q2,es',rfl,r,hok⟩:=h1.FI hl;rw[hgb]at q1;cases q1;have hg:=MapKept.run_getObj_map (P:=P) q2;rcases r.found hok L hkk w with⟨f1,f2⟩|⟨j,e,e',f1,f2,f3,f4,f5,f6,f7,f8⟩
     ·rw[f2]at h;refine⟨_,_,?_,hlk z zv false (hzz g),h⟩;simp[execOp,ho,Instr.lookup,run_underlying hu,hxb,hyk,hg,L.check _ k w hkk,f1,hzr]
     ·rw[f8]at h;refine⟨_,_,?_,hlk _ _ true f6,h⟩;simp[execOp,ho,Instr.lookup,run_underlying hu,hxb,hyk,hg,L.check _ k w hkk,f1]
    ·exact h.elim
   ·exact h.elim
theorem eV.set{g:Gh}{es:List (Value×DV×Nat)}{es':List MapEntry}(r:eV g es es')(hn:(es.map (·.1)).Nodup){j:Nat}{e:Value×DV×Nat}(hj:es[j]? =some e){d:DV}{v:Value}(hd:aA g d v):
 eV g (es.map (ou e.1 d)) (es'.modify j fun x=>{x with key:=e.1,val:=v}):=by
 refine⟨by rw[RM,List.length_modify];exact r.len,fun i x x' hx hx'=>?_⟩;rw[Rt]at hx;rw[List.getElem?_modify]at hx'
 cases hi:es[i]? with
 |none=>rw[hi]at hx;cases hx
 |some y=>
  rw[hi]at hx;cases hx;obtain⟨y',hy',q1,q2,q3⟩:=r.get' hi;rw[hy']at hx';simp only[Option.map_eq_map,R6,RC]at hx';by_cases hij:j=i
  ·subst hij;rw[hj]at hi;cases hi;simp only[if_true]at hx';subst hx';rw[HM rfl];exact⟨rfl,hd,q3⟩
  ·have hne:y.1≠e.1:=fun he=>hij (AI hn (a:=e.1) (by rw[Rt,hj];rfl) (by rw[Rt,hi,←he];rfl));rw[if_neg hij]at hx';subst hx';rw[H3 hne];exact⟨q1,q2,q3⟩
theorem BE{es:List (Value×DV×Nat)}{k:Value}{d:DV}:(es.map (ou k d)).map (·.1)=es.map (·.1)∧(es.map (ou k d)).map (·.2.2)=es.map (·.2.2):=by
 constructor
 ·rw[S6];refine Tm fun e _=>?_;simp only[Function.comp,ou];split <;>rfl
 ·rw[S6];refine Tm fun e _=>?_;simp only[Function.comp,ou];split <;>rfl
theorem GQ{kk:KK}{es:List (Value×DV×Nat)}{clk:Nat}(h:o9 kk es clk){k:Value}(hk:isKey kk k=true)(d:DV):o9 kk (xy es clk k d) (xH es clk k):=by
 unfold xy xH
 cases hg:pF es k with
 |some x=>
  simp only[Option.isSome_some,if_true];obtain⟨e1,e2⟩:=BE (es:=es) (k:=k) (d:=d);refine⟨fun e he=>?_,by rw[e1];exact h.nd,by rw[e2];exact h.bn,fun e he=>?_⟩
  ·have:=Sl (f:=fun x:Value×DV×Nat=>x.1) he;rw[e1]at this;obtain⟨y,hy,hye⟩:=RI.1 this;rw[←hye];exact h.key y hy
  ·have:=Sl (f:=fun x:Value×DV×Nat=>x.2.2) he;rw[e2]at this;obtain⟨y,hy,hye⟩:=RI.1 this;rw[←hye];exact h.lt y hy
 |none=>
  simp only[Option.isSome_none,Sw,if_false];have hne:=l9.1 hg;refine⟨fun e he=>?_,?_,?_,fun e he=>?_⟩
  ·rcases RB.1 he with he|he
   ·exact h.key e he
   ·rw[RX]at he;subst he;exact hk
  ·rw[R8,List.nodup_append];refine⟨h.nd,by simp,fun a ha b hb=>?_⟩;obtain⟨e,he,rfl⟩:=RI.1 ha;simp only[Rz,SN,RX]at hb;rw[hb];exact hne e he
  ·rw[R8,List.nodup_append];refine⟨h.bn,by simp,fun a ha b hb=>?_⟩;obtain⟨e,he,rfl⟩:=RI.1 ha;simp only[Rz,SN,RX]at hb;have:=h.lt e he;omega
  ·rcases RB.1 he with he|he
   ·have:=h.lt e he;omega
   ·rw[RX]at he;subst he;exact Nat.lt_succ_self _
theorem HO{kk:KK}{es:List (Value×DV×Nat)}{clk:Nat}(h:o9 kk es clk)(k:Value):o9 kk (xO es k) clk:=
 ⟨fun e he=>h.key e (List.mem_filter.1 he).1,h.nd.sublist ((List.filter_sublist (l:=es)).map _),h.bn.sublist ((List.filter_sublist (l:=es)).map _),fun e he=>h.lt e (List.mem_filter.1 he).1⟩
theorem eV.push{g:Gh}{es:List (Value×DV×Nat)}{es':List MapEntry}(r:eV g es es'){k:Value}{d:DV}{v:Value}{b:Nat}(hd:aA g d v):eV g (es++[(k,d,b)]) (es'++[{key:=k,val:=v,born:=b}]):=by
 refine⟨by simp[r.len],fun i x x' hx hx'=>?_⟩;rcases Sj i es.length with h|h
 ·rw[RV h]at hx;rw[RV (by rw[←r.len];exact h)]at hx';exact r.at_ i x x' hx hx'
 ·rw[RO h]at hx;rw[RO (by rw[←r.len];exact h),←r.len]at hx'
  cases hi:i-es.length with
  |zero=>rw[hi]at hx hx';simp at hx hx';subst hx;subst hx';exact⟨rfl,hd,rfl⟩
  |succ n=>rw[hi]at hx;simp at hx
theorem eV.erase{g:Gh}{es:List (Value×DV×Nat)}{es':List MapEntry}(r:eV g es es')(hn:(es.map (·.1)).Nodup){j:Nat}{e:Value×DV×Nat}(hj:es[j]? =some e):eV g (xO es e.1) (es'.eraseIdx j):=by
 have he:xO es e.1=es.eraseIdx j:=by
  unfold xO;clear r
  induction es generalizing j with
  |nil=>simp at hj
  |cons a es ih=>
   rw[Rz,R0]at hn
   cases j with
   |zero=>
    simp at hj;subst hj;rw[TC,show @decide (a.1=a.1) (Classical.propDecidable _)=true from by simp];simp only[Bool.not_true,Sw,if_false,List.eraseIdx_zero,List.tail_cons];refine List.filter_eq_self.2 fun x hx=>?_;have:x.1≠a.1:=fun h=>hn.1 (by rw[←h];exact Sl (f:=fun y:Value×DV×Nat=>y.1) hx);simp[this]
   |succ j=>
    simp only[SE]at hj;have hne:a.1≠e.1:=fun x=>hn.1 (by rw[x];exact Sl (f:=fun y:Value×DV×Nat=>y.1) (Rj hj));rw[TC,show @decide (a.1=e.1) (Classical.propDecidable _)=false from by simp[hne]];simp only[Bool.not_false,if_true,List.eraseIdx_cons_succ];rw[ih hn.2 hj]
 rw[he];refine⟨by rw[List.length_eraseIdx,List.length_eraseIdx,r.len],fun i x x' hx hx'=>?_⟩;rw[List.getElem?_eraseIdx]at hx hx';split at hx
 ·rename_i h;rw[if_pos h]at hx';exact r.at_ _ _ _ hx hx'
 ·rename_i h;rw[if_neg h]at hx';exact r.at_ _ _ _ hx hx'
def kF(m:Option (KK×DV))(S:St)(x y d:DV)(K:St→Prop):Prop:=oK m fun p=>oK (qx y) fun k=>isKey p.1 k=true∧shr S d fun d S=>(match x with
 | .mp l=>(match lk S.acc l with
  |some (.xo (.mp kk es clk))=>kk=p.1∧K ⟨S.box,up S.acc l (.xo (.mp kk (xy es clk k d) (xH es clk k)))⟩
  |_=>False)
 |_=>False)
theorem vK{o:Oper}{t:TypeId}{x y z:Operand}(ho:o.op= .mapUpdate t x y z){ρD:Operand→DV}{S:St}{K:DV→St→Prop}(h0:kF (nT P t) S (ρD x) (ρD y) (ρD z) (K ud)):ae P w0 o ρD S K:=by
 intro g w ρ h1 h2 hcst;have hx0:=h2 x (by simp[ho,Op.operands]);have hy:=h2 y (by simp[ho,Op.operands]);have hz:=h2 z (by simp[ho,Op.operands]);unfold kF at h0
 cases hm:nT P t with
 |none=>rw[hm]at h0;exact h0.elim
 |some p=>
  obtain⟨kk,zz⟩:=p;rw[hm]at h0
  cases hk:qx (ρD y)with
  |none=>rw[hk]at h0;exact h0.elim
  |some k=>
   rw[hk]at h0;obtain⟨hkk,hA⟩:=h0;have hyk:=oh hk hy;obtain⟨kt,et,hu,L,hzd⟩:=nG hm;simp only at hkk hA;obtain⟨g1,d,S1,le1,R1,hd,hB⟩:=jS h1 hz hA;have hx:=hx0.mono le1;clear hA;split at hB
   ·rename_i l e;rw[e]at hx;obtain⟨b,hxb,hgb⟩:=oI hx;split at hB
    ·rename_i kk' es clk hl;obtain⟨hkke,hC⟩:=hB;subst hkke;obtain⟨b',o',q1,q2,⟨es',rfl,r,hok⟩,hset⟩:=R1.AK hl;rw[hgb]at q1;cases q1;have hg:=MapKept.run_getObj_map (P:=P) q2;have hm2:=GQ hok hkk d;rcases r.found hok L hkk w with⟨f1,f2⟩|⟨j,e,e',f1,f2,f3,f4,f5,f6,f7,f8⟩
     ·obtain⟨s1,s2⟩:=fg (o':= .map (es'++[({key:=k,val:=ρ z,born:=clk}:MapEntry)]).toArray (clk+1)) q2
      have hrun:(execOp ρ o).run P w= .ok .skip {w with heap:=w.heap.setIfInBounds b (.map (es'++[({key:=k,val:=ρ z,born:=clk}:MapEntry)]).toArray (clk+1))}:=by
       simp[execOp,ho,Instr.mapUpdate,run_underlying hu,hxb,hyk,hg,L.check _ k w hkk,f1,MapKept.run_setObj_map _ q2]
      rw[hrun];have hsk:xy es clk k d=es++[(k,d,clk)]∧xH es clk k=clk+1:=by unfold xy xH;rw[f2];exact⟨rfl,rfl⟩
      rw[hsk.1,hsk.2]at hC hm2;exact⟨g1,_,le1,hset (.mp kk' (es++[(k,d,clk)]) (clk+1)) _ _ ⟨_,rfl,r.push hd,hm2⟩ (cT _ _ _) s1 s2,hC⟩
     ·have hat:es'.toArray[j]? =some e':=by simpa using f2
      obtain⟨s1,s2⟩:=fg (o':= .map (es'.modify j fun x=>{x with key:=k,val:=ρ z}).toArray clk) q2
      have hrun:(execOp ρ o).run P w= .ok .skip {w with heap:=w.heap.setIfInBounds b (.map (es'.modify j fun x=>{x with key:=k,val:=ρ z}).toArray clk)}:=by
       simp[execOp,ho,Instr.mapUpdate,run_underlying hu,hxb,hyk,hg,L.check _ k w hkk,f1,f2,f5,L.stays k w hkk,MapKept.run_setObj_map _ q2]
      rw[hrun];have hsk:xy es clk k d=es.map (ou k d)∧xH es clk k=clk:=by unfold xy xH;rw[f8];exact⟨rfl,rfl⟩
      rw[hsk.1,hsk.2]at hC hm2;have hr:=r.set hok.nd f3 hd;rw[f4]at hr;exact⟨g1,_,le1,hset (.mp kk' _ clk) _ _ ⟨_,rfl,hr,hm2⟩ (cT _ _ _) s1 s2,hC⟩
    ·exact hB.elim
   ·exact hB.elim
def lr(m:Option (KK×DV))(r:Option Operand)(S:St)(K:DV→St→Prop):Prop:=r=none∧oK m fun p=>∀l,gx S.acc l→K (.mp l) ⟨S.box,(l,.xo (.mp p.1 [] 0))::S.acc⟩
theorem A4{o:Oper}{t:TypeId}{r:Option Operand}(ho:o.op= .makeMap t r){ρD:Operand→DV}{S:St}{K:DV→St→Prop}(h:lr (nT P t) r S K):ae P w0 o ρD S K:=by
 intro g w ρ h1 h2 hcst;obtain⟨rfl,h⟩:=h
 cases hm:nT P t with
 |none=>rw[hm]at h;exact h.elim
 |some p=>
  obtain⟨kk,zz⟩:=p;rw[hm]at h
  have hrun:(execOp ρ o).run P w= .ok (.value (.map (some w.heap.size))) (w.alloc (.map #[] 0)):=by
   simp[execOp,ho,Instr.makeMap]
  rw[hrun];obtain⟨l,g',hle,hne,hR,ha⟩:=h1.JZ (f:= .mp kk [] 0) (bG w (.map #[] 0)) (Ro _) (heap_alloc_new w _) ⟨[],rfl,⟨rfl,fun i e e' h=>by simp at h⟩,⟨fun e he=>(by cases he),by simp,by simp,fun e he=>(by cases he)⟩⟩;exact⟨g',_,_,hle,hR,.mp l _ ha,h l (bN hne)⟩
def lp(m:Option (KK×DV))(S:St)(x y:DV)(K:St→Prop):Prop:=oK m fun p=>oK (qx y) fun k=>isKey p.1 k=true∧(match x with
 | .mp l=>(match lk S.acc l with
  |some (.xo (.mp kk es clk))=>kk=p.1∧K ⟨S.box,up S.acc l (.xo (.mp kk (xO es k) clk))⟩
  |_=>False)
 |_=>False)
theorem DQ{o:Oper}{t t':TypeId}{x y:Operand}(ho:o.op= .call {callee:= .builtin .delete,args:= #[x,y],argTypes:= #[t,t']}){ρD:Operand→DV}{S:St}{K:DV→St→Prop}(h0:lp (nT P t) S (ρD x) (ρD y) (K ud)):ae P w0 o ρD S K:=by
 intro g w ρ h1 h2 hcst;have hx:=h2 x (by simp[ho,Op.operands,Call.operands]);have hy:=h2 y (by simp[ho,Op.operands,Call.operands]);unfold lp at h0
 cases hm:nT P t with
 |none=>rw[hm]at h0;exact h0.elim
 |some p=>
  obtain⟨kk,zz⟩:=p;rw[hm]at h0
  cases hk:qx (ρD y)with
  |none=>rw[hk]at h0;exact h0.elim
  |some k=>
   rw[hk]at h0;obtain⟨hkk,hB⟩:=h0;have hyk:=oh hk hy;obtain⟨kt,et,hu,L,hzd⟩:=nG hm;simp only at hkk hB;split at hB
   ·rename_i l e;rw[e]at hx;obtain⟨b,hxb,hgb⟩:=oI hx;split at hB
    ·rename_i kk' es clk hl;obtain⟨hkke,hC⟩:=hB;subst hkke;obtain⟨b',o',q1,q2,⟨es',rfl,r,hok⟩,hset⟩:=h1.AK hl;rw[hgb]at q1;cases q1;have hg:=MapKept.run_getObj_map (P:=P) q2;have hm2:=HO hok k;rcases r.found hok L hkk w with⟨f1,f2⟩|⟨j,e,e',f1,f2,f3,f4,f5,f6,f7,f8⟩
     ·obtain⟨s1,s2⟩:=fg (o':= .map es'.toArray clk) q2
      have hrun:(execOp ρ o).run P w= .ok (.value (.tuple #[])) {w with heap:=w.heap.setIfInBounds b (.map es'.toArray clk)}:=by
       simp[execOp,ho,resolve,invoke,builtin,Builtin.delete_,run_underlying hu,hxb,hyk,hg,L.check _ k w hkk,f1,MapKept.run_setObj_map _ q2]
      rw[hrun]
      have hd:xO es k=es:=by
       unfold xO;refine List.filter_eq_self.2 fun e he=>?_;have:=l9.1 f2 e he;simp[this]
      rw[hd]at hC;exact⟨g,_,_,.refl g,hset (.mp kk' es clk) _ _ ⟨_,rfl,r,hok⟩ (cT _ _ _) s1 s2,.bU [] [] rfl (by intro i d u h;simp at h),hC⟩
     ·obtain⟨s1,s2⟩:=fg (o':= .map (es'.eraseIdx j).toArray clk) q2;have hlt:j<es'.length:=(Rp.1 f2).1;have her:es'.toArray.eraseIdxIfInBounds j=(es'.eraseIdx j).toArray:=by simp
      have hrun:(execOp ρ o).run P w= .ok (.value (.tuple #[])) {w with heap:=w.heap.setIfInBounds b (.map (es'.eraseIdx j).toArray clk)}:=by
       simp[execOp,ho,resolve,invoke,builtin,Builtin.delete_,run_underlying hu,hxb,hyk,hg,L.check _ k w hkk,f1,MapKept.run_setObj_map _ q2,her]
      rw[hrun];have hr:=r.erase hok.nd f3;rw[f4]at hr;exact⟨g,_,_,.refl g,hset (.mp kk' _ clk) _ _ ⟨_,rfl,hr,hm2⟩ (cT _ _ _) s1 s2,.bU [] [] rfl (by intro i d u h;simp at h),hC⟩
    ·exact hB.elim
   ·exact hB.elim
def rK(m:Option (KK×DV))(S:St)(x:DV)(K:DV→St→Prop):Prop:=m.isSome=true∧(match x with
 | .mp l=>(match lk S.acc l with
  |some (.xo (.mp kk es clk))=>∀l',gx S.acc l'→K (.it l') ⟨S.box,(l',.xo (.it l clk [] clk))::S.acc⟩
  |_=>False)
 |_=>False)
theorem Hx{o:Oper}{t:TypeId}{x:Operand}(ho:o.op= .range t x){ρD:Operand→DV}{S:St}{K:DV→St→Prop}(h:rK (nT P t) S (ρD x) K):ae P w0 o ρD S K:=by
 intro g w ρ h1 h2 hcst;have hx:=h2 x (by simp[ho,Op.operands]);obtain⟨hm,h⟩:=h;obtain⟨p,hm⟩:=Td.1 hm;obtain⟨kt,et,hu,L,hzd⟩:=nG (kk:=p.1) (z:=p.2) hm;split at h
 ·rename_i l e;rw[e]at hx;obtain⟨b,hxb,hgb⟩:=oI hx;split at h
  ·rename_i kk es clk hl;obtain⟨b',o',q1,q2,es',rfl,r,hok⟩:=h1.FI hl;rw[hgb]at q1;cases q1;have hg:=MapKept.run_getObj_map (P:=P) q2
   have hrun:(execOp ρ o).run P w= .ok (.value (.pointer (some ⟨w.heap.size,0,none⟩))) (w.alloc (.mapIter (some b) clk #[] clk)):=by
    simp[execOp,ho,Instr.range,run_underlying hu,hxb,hg]
   rw[hrun];obtain⟨l',g',hle,hne,hR,ha⟩:=h1.JZ (f:= .it l clk [] clk) (bG w (.mapIter (some b) clk #[] clk)) (Ro _) (heap_alloc_new w _) ⟨b,rfl,hgb⟩;exact⟨g',_,_,hle,hR,.it l' _ ha,h l' (bN hne)⟩
  ·exact h.elim
 ·exact h.elim
def zI(S:St)(x:DV)(s:Bool)(K:DV→St→Prop):Prop:=s=false∧(match x with
 | .it l=>(match lk S.acc l with
  |some (.xo (.it m since seen last))=>(match lk S.acc m with
   |some (.xo (.mp kk es clk))=>clk=since∧last=since∧((∀e,e∈es→e.2.2∈seen)→K (.bU [.v (.bool false)]) S)∧∀e,e∈es→e.2.2∉seen→K (.bU [.v (.bool true),kD e.1,e.2.1]) ⟨S.box,up S.acc l (.xo (.it m since (seen++[e.2.2]) since))⟩
   |_=>False)
  |_=>False)
 |_=>False)
theorem LC{o:Oper}{x:Operand}{s:Bool}(ho:o.op= .next x s){ρD:Operand→DV}{S:St}{K:DV→St→Prop}(h:zI S (ρD x) s K):ae P w0 o ρD S K:=by
 intro g w ρ h1 h2 hcst;have hx:=h2 x (by simp[ho,Op.operands]);obtain⟨rfl,h⟩:=h;split at h
 ·rename_i l e;rw[e]at hx;obtain⟨r0,hxb,hgb⟩:=x0 hx;split at h
  ·rename_i m since seen last hl;split at h
   ·rename_i kk es clk hlm;obtain⟨hc1,hc2,hA,hB⟩:=h;subst hc1;have hc3:=hc2.symm;subst hc3;obtain⟨b',o',q1,q2,⟨bm,rfl,hbm⟩,hset⟩:=h1.AK hl;rw[hgb]at q1;cases q1;obtain⟨b2,o2,p1,p2,es',rfl,r,hok⟩:=h1.FI hlm;rw[hbm]at p1;cases p1
    have hold:∀y∈es'.toArray.toList,y.born<clk:=fun y hy=>by
     obtain⟨j,hj⟩:=Su.1 (by simpa using hy);obtain⟨e,he,_,_,h3⟩:=r.get hj;rw[h3];exact hok.lt e (Rj he)
    rcases run_next_at (P:=P) w o.type r0 bm clk clk seen.toArray es'.toArray clk q2 p2 hold (Ro _)with⟨n1,n2⟩|⟨e',he',w1,hw1,n2⟩
    ·have hrun:(execOp ρ o).run P w= .ok (.value (.tuple #[.bool false])) w:=by simp[execOp,ho,hxb,n2]
     rw[hrun];refine⟨g,_,_,.refl g,h1,.bU [.v (.bool false)] [.bool false] rfl (fun i d u a b=>by cases i <;>simp at a b;subst a;subst b;exact .v _ rfl),hA fun e he=>?_⟩;obtain⟨j,hj⟩:=Su.1 he;obtain⟨e',he',_,_,h3⟩:=r.get' hj;have hl:=Tg n1;unfold leftOf at hl;rw[Array.filter_eq_empty_iff]at hl;have:=hl e' (by simpa using Rj he');rw[←h3];simpa using this
    ·unfold leftOf at he';have he2:e'∈es'∧e'.born∉seen:=by simpa using he'
     obtain⟨j,hj⟩:=Su.1 he2.1;obtain⟨e,he,k1,k2,k3⟩:=r.get hj;have hem:=Rj he;have hrun:(execOp ρ o).run P w= .ok (.value (.tuple #[.bool true,e'.key,e'.val])) (ChangeMaps.setBlock w1 r0 (.mapIter (some bm) clk (seen.toArray.push e'.born) clk)):=by simp[execOp,ho,hxb,n2]
     rw[hrun]
     have hw:w1.heap=w.heap∧fJ r0 w (ChangeMaps.setBlock w1 r0 (.mapIter (some bm) clk (seen.toArray.push e'.born) clk)):=by
      rcases hw1 with rfl|rfl
      ·exact⟨rfl,cT _ _ _⟩
      ·exact⟨rfl,((fJ.refl r0 w).drew).trans (cT w.drew r0 _)⟩
     have hh:∀(o':Obj),(ChangeMaps.setBlock w1 r0 o').heap=w.heap.setIfInBounds r0 o':=fun o'=>by show w1.heap.setIfInBounds r0 o'=_;rw[hw.1]
     obtain⟨s1,s2⟩:=MapKept.heap_set (o':= .mapIter (some bm) clk (seen.toArray.push e'.born) clk) q2;refine⟨g,_,_,.refl g,hset (.it m clk (seen++[e.2.2]) clk) (.mapIter (some bm) clk (seen.toArray.push e'.born) clk) _ ⟨bm,by rw[k3];simp,hbm⟩ hw.2 (by rw[hh];exact s1) (fun i hi=>by rw[hh];exact s2 i hi),?_,hB e hem (by rw[←k3];exact he2.2)⟩;refine .bU [.v (.bool true),kD e.1,e.2.1] [.bool true,e'.key,e'.val] rfl fun i d u a b=>?_
     match i with
     |0=>simp at a b;subst a;subst b;exact .v _ rfl
     |1=>simp at a b;subst a;subst b;rw[k1];exact DB (hok.key e hem)
     |2=>simp at a b;subst a;subst b;exact k2
     |n+3=>simp at a
   ·exact h.elim
  ·exact h.elim
 ·exact h.elim
def hY(S:St)(x:DV)(K:DV→St→Prop):Prop:=match x with
 | .v (.string s)=>∀l',gx S.acc l'→K (.it l') ⟨S.box,(l',.xo (.si s 0))::S.acc⟩
 |_=>False
theorem EC{o:Oper}{t:TypeId}{x:Operand}(ho:o.op= .range t x)(ht:tk P t= .str){ρD:Operand→DV}{S:St}{K:DV→St→Prop}(h:hY S (ρD x) K):ae P w0 o ρD S K:=by
 intro g w ρ h1 h2 hcst;have hx:=h2 x (by simp[ho,Op.operands]);have hu:=fp ht;unfold hY at h;split at h
 ·rename_i s e;rw[e]at hx;have hxb:=an hx
  have hrun:(execOp ρ o).run P w= .ok (.value (.pointer (some ⟨w.heap.size,0,none⟩))) (w.alloc (.stringIter s 0)):=by
   simp[execOp,ho,Instr.range,run_underlying hu,hxb]
  rw[hrun];obtain⟨l',g',hle,hne,hR,ha⟩:=h1.JZ (f:= .si s 0) (bG w (.stringIter s 0)) (Ro _) (heap_alloc_new w _) rfl;exact⟨g',_,_,hle,hR,.it l' _ ha,h l' (bN hne)⟩
 ·exact h.elim
def J9(k:TK)(m:Option (KK×DV))(S:St)(x:DV)(K:DV→St→Prop):Prop:=match k with
 | .str=>hY S x K
 |_=>rK m S x K
theorem OT{o:Oper}{t:TypeId}{x:Operand}(ho:o.op= .range t x){ρD:Operand→DV}{S:St}{K:DV→St→Prop}(h:J9 (tk P t) (nT P t) S (ρD x) K):ae P w0 o ρD S K:=by
 unfold J9 at h;split at h
 ·rename_i e;exact EC ho e h
 ·exact Hx ho h
def iI(S:St)(x:DV)(K:DV→St→Prop):Prop:=match x with
 | .it l=>(match lk S.acc l with
  |some (.xo (.si s pos))=>(¬pos<s.size→K (.bU [.v (.bool false)]) S)∧(pos<s.size→K (.bU [.v (.bool true),.v (.int .i64 pos),.v (.int .i32 (Utf8.decode s pos).1)]) ⟨S.box,up S.acc l (.xo (.si s (pos+(Utf8.decode s pos).2)))⟩)
  |_=>False)
 |_=>False
theorem GA{o:Oper}{x:Operand}(ho:o.op= .next x true){ρD:Operand→DV}{S:St}{K:DV→St→Prop}(h:iI S (ρD x) K):ae P w0 o ρD S K:=by
 intro g w ρ h1 h2 hcst;have hx:=h2 x (by simp[ho,Op.operands]);unfold iI at h;split at h
 ·rename_i l e;rw[e]at hx;obtain⟨r0,hxb,hgb⟩:=x0 hx;split at h
  ·rename_i s pos hl;obtain⟨b',o',q1,q2,q3,hset⟩:=h1.AK hl;rw[hgb]at q1;cases q1;have q3:o'= .stringIter s pos:=q3;subst q3;by_cases hp:pos<s.size
   ·have hrun:(execOp ρ o).run P w= .ok (.value (.tuple #[.bool true,.int .i64 pos,.int .i32 (Utf8.decode s pos).1])) {w with heap:=w.heap.setIfInBounds r0 (.stringIter s (pos+(Utf8.decode s pos).2))}:=by
     simp[execOp,ho,hxb,Instr.next,getObj,setObj,Sem.run_bind,Sem.run,q2,Result.andThen,hp,goInt]
    rw[hrun];obtain⟨s1,s2⟩:=fg (o':= .stringIter s (pos+(Utf8.decode s pos).2)) q2;refine⟨g,_,_,.refl g,hset (.si s (pos+(Utf8.decode s pos).2)) _ _ rfl (cT w r0 _) s1 s2,?_,h.2 hp⟩;refine .bU [.v (.bool true),.v (.int .i64 pos),.v (.int .i32 (Utf8.decode s pos).1)] [.bool true,.int .i64 pos,.int .i32 (Utf8.decode s pos).1] rfl fun i d u a b=>?_
    match i with
    |0=>simp at a b;subst a;subst b;exact .v _ rfl
    |1=>simp at a b;subst a;subst b;exact .v _ rfl
    |2=>simp at a b;subst a;subst b;exact .v _ rfl
    |n+3=>simp at a
   ·have hrun:(execOp ρ o).run P w= .ok (.value (.tuple #[.bool false])) w:=by
     simp[execOp,ho,hxb,Instr.next,getObj,Sem.run_bind,Sem.run,q2,Result.andThen,hp]
    rw[hrun];exact⟨g,_,_,.refl g,h1,.bU [.v (.bool false)] [.bool false] rfl (fun i d u a b=>by cases i <;>simp at a b;subst a;subst b;exact .v _ rfl),h.1 hp⟩
  ·exact h.elim
 ·exact h.elim
def Me(b:Bool)(S:St)(x:DV)(K:DV→St→Prop):Prop:=match b with
 |true=>iI S x K
 |false=>zI S x false K
theorem OK{o:Oper}{x:Operand}{s:Bool}(ho:o.op= .next x s){ρD:Operand→DV}{S:St}{K:DV→St→Prop}(h:Me s S (ρD x) K):ae P w0 o ρD S K:=by
 cases s with
 |true=>exact GA ho h
 |false=>exact LC ho h
def oU(S:St)(x:DV)(K:DV→Prop):Prop:=match x with
 | .it l=>(match lk S.acc l with
  |some (.xo (.it m since seen last))=>(match lk S.acc m with
   |some (.xo (.mp kk es clk))=>clk=last∧∃e,e∈es∧(∃s0,seen=s0++[e.2.2])∧K (.bU [kD e.1,e.2.1])
   |_=>False)
  |_=>False)
 |_=>False
theorem HJ{o:Oper}{x:Operand}(ho:o.op= .entry x){ρD:Operand→DV}{S:St}{K:DV→St→Prop}(h:oU S (ρD x) (K · S)):ae P w0 o ρD S K:=by
 refine aZ fun g w ρ h1 h2=>?_;have hx:=h2 x (by simp[ho,Op.operands]);unfold oU at h;split at h
 ·rename_i l e;rw[e]at hx;obtain⟨r0,hxb,hgb⟩:=x0 hx;split at h
  ·rename_i m since seen last hl;split at h
   ·rename_i kk es clk hlm;obtain⟨rfl,e,hem,⟨s0,rfl⟩,hK⟩:=h;obtain⟨b',o',q1,q2,bm,rfl,hbm⟩:=h1.FI hl;rw[hgb]at q1;cases q1;obtain⟨b2,o2,p1,p2,es',rfl,r,hok⟩:=h1.FI hlm;rw[hbm]at p1;cases p1;obtain⟨j,hj⟩:=Su.1 hem;obtain⟨e',he',k1,k2,k3⟩:=r.get' hj
    have hbn:(es'.toArray.toList.map (·.born)).Nodup:=by
     have:es'.toArray.toList.map (·.born)=es.map (·.2.2):=by
      refine Sh fun i=>?_;rw[Rt,Rt];simp only
      cases hi:es'[i]? with
      |none=>
       have:es[i]? =none:=Ry (by rw[r.len];exact List.getElem?_eq_none_iff.1 hi);rw[this];rfl
      |some y=>obtain⟨z,hz,_,_,h3⟩:=r.get hi;rw[hz];simp[h3]
     rw[this];exact hok.bn
    have hrn:=run_entry_at (P:=P) w r0 bm since s0.toArray es'.toArray clk e' (by rw[q2,k3];simp) p2 (by simpa using Rj he') hbn;refine⟨_,.tuple #[e'.key,e'.val],by simp[execOp,ho,hxb,hrn],?_,hK⟩;refine .bU [kD e.1,e.2.1] [e'.key,e'.val] rfl fun i d u a b=>?_
    match i with
    |0=>simp at a b;subst a;subst b;rw[k1];exact DB (hok.key e hem)
    |1=>simp at a b;subst a;subst b;exact k2
    |n+2=>simp at a
   ·exact h.elim
  ·exact h.elim
 ·exact h.elim
end
/- The words as they are reckoned out. -/
def xK(o:Option Ob)(F:KK→List (Value×DV×Nat)→Nat→Prop):Prop:=match o with
 |some (.xo (.mp kk es clk))=>F kk es clk
 |_=>False
def MC(o:Option Ob)(F:ByteArray→Nat→Prop):Prop:=match o with
 |some (.xo (.si s pos))=>F s pos
 |_=>False
def iK(o:Option Ob)(F:Nat→Nat→List Nat→Nat→Prop):Prop:=match o with
 |some (.xo (.it m since seen last))=>F m since seen last
 |_=>False
def P1(o:Option DV)(F:DV→Prop)(G:Prop):Prop:=match o with
 |some d=>F d
 |none=>G
def PD(o:Option (List FK))(z:DV):Option (KK×DV):=match o with
 |some l=>(iu l).map fun ks=>(.st ks,z)
 |none=>none
def PM(P:Program)(t:TypeId):TK→DV→Option (KK×DV)
 | .int k,z=>some (.int k,z)
 | .str,z=>some (.str,z)
 | .st _ _,z=>PD (wg P t) z
 |_,_=>none
def PG(P:Program):TK→Option (KK×DV)
 | .map k e=>PM P k (tk P k) (zD P e)
 |_=>none
theorem Na(P:Program)(t:TypeId):nT P t=PG P (tk P t):=by
 unfold nT PG Hh;cases tk P t <;>try rfl
 rename_i k e;simp only;cases tk P k <;>try rfl
 simp only[PM,PD]
 cases wg P k with
 |none=>rfl
 |some l=>
  show Option.map _ (Option.map _ (iu l))=_;rw[Option.map_map];rfl
section
variable (kk:KK) (z:DV) (S:St) (l:Nat) (y:DV)
theorem Nw(s:ByteArray)(pos:Nat)(F:ByteArray→Nat→Prop):MC (some (.xo (.si s pos))) F=F s pos:=rfl
theorem G5(K:DV→St→Prop):iI S (.it l) K=MC (lk S.acc l) fun s pos=>(¬pos<s.size→K (.bU [.v (.bool false)]) S)∧(pos<s.size→K (.bU [.v (.bool true),.v (.int .i64 pos),.v (.int .i32 (Utf8.decode s pos).1)]) ⟨S.box,up S.acc l (.xo (.si s (pos+(Utf8.decode s pos).2)))⟩):=by
 unfold iI MC;split <;>simp_all
end
end Aml
namespace Aml
open Go Go.RowKit
section
variable {P:Program} {w0:W0}
def kI(ds:List DV)(o:Nat)(cs:List DV):List DV:=ds.take o++cs++ds.drop (o+cs.length)
theorem sf{g:Gh}{S:St}{w:World}(h:Rel w0 g S w){b o:Nat}{ds cs:List DV}(hb:lk S.box b=some ds){vs:List Value}(hr:aa g cs vs)(h1:∀v,v∈vs→v.oneCell'=true)(hle:o+cs.length≤ds.length):
 ∃w',(storeCells ⟨b,o,none⟩ vs).run P w= .ok () w'∧Rel w0 g ⟨up S.box b (kI ds o cs),S.acc⟩ w':=by
 obtain⟨us,e,hh,hru,hone,hset⟩:=h.xw (ds':=kI ds o cs) hb;have hl:vs.length=cs.length:=hr.len.symm;have hul:us.toList.length=ds.length:=hru.len.symm;have hst:=run_storeCells_at (P:=P) b o e vs 0 us w hh (by simp at hul;omega) h1;simp only[SS]at hst;refine⟨_,hst,hset _ ?_ ?_⟩
 ·unfold kI;rw[SI,hl];exact((hru.take o).append hr).append (hru.drop _)
 ·intro u hu;rw[SI]at hu;rcases RB.1 hu with hu|hu
  ·rcases RB.1 hu with hu|hu
   ·exact hone u (RY hu)
   ·exact h1 u hu
  ·exact hone u (Sa hu)
theorem nz{g:Gh}{S:St}{w:World}(h:Rel w0 g S w){b o m s:Nat}{ds:List DV}(hb:lk S.box b=some ds)(hle:o+m*s≤ds.length):
 ∃vs,aa g ((ds.drop o).take (m*s)) vs∧(∀v,v∈vs→v.oneCell'=true)∧vs.length=m*s∧∀w',(∀p,w'.cell? p=w.cell? p)→∀n c,(Builtin.firstCells s m (.slice (some ⟨b,o,none⟩) n c)).run P w'= .ok vs.toArray w':=by
 obtain⟨_,_,us,e,hh,hru,hone⟩:=h.sF hb;have hul:us.toList.length=ds.length:=hru.len.symm;refine⟨(us.toList.drop o).take (m*s),(hru.drop o).take _,fun v hv=>hone v (Sa (RY hv)),by simp at hul ⊢;omega,fun w' hw' n c=>?_⟩;refine run_firstCells_some (P:=P) w' s m _ n c _ (by simp at hul ⊢;omega) fun j v hj=>?_;rw[Sn]at hj;split at hj
 ·rw[Sq]at hj;rw[hw',add_plain,bq hh];simpa using hj
 ·cases hj
theorem jo{g:Gh}:∀{ys:List DV} {us:List Value},aa g ys us→(∀d,d∈ys→dA d=true)→aa g (ys.flatMap cd) (fl us)
 |[],us,h,_=>by
  have:us=[]:=Rs (by have:=h.len;simpa using this.symm);subst this;exact aa.nil g
 |d::ys,us,h,ho=>by
  obtain⟨u,us',rfl,r1,r2⟩:=h.ba;have:=(r1.cells (ho d Rx)).append (jo r2 fun x hx=>ho x (Rr _ hx));simpa[fl]using this
def tQ:DV→Bool
 | .v (.slice (some _) _ _)=>true
 |_=>false
def u6(k:TK)(S:St)(x y:DV)(K:DV→St→Prop):Prop:=match k,x with
 | .sl e s by' true,.v (.slice (some ⟨b,o,none⟩) n c)=>(match lk S.box b with
  |some ds=>o+n*s≤ds.length∧(match y with
   | .v (.slice (some ⟨b2,o2,none⟩) m c2)=>(match lk S.box b2 with
    |some es=>o2+m*s≤es.length∧K (.v (.int .i64 (min m n:Nat))) ⟨up S.box b (kI ds o ((es.drop o2).take (min m n*s))),S.acc⟩
    |none=>False)
   |y=>gg S y fun s' ys=>(s'=s∨ys=[])∧(∀d,d∈ys→dA d=true)∧ys.length≤n∧K (.v (.int .i64 ys.length)) ⟨up S.box b (kI ds o (ys.flatMap cd)),S.acc⟩)
  |none=>False)
 |_,_=>False
theorem LS{o:Oper}{t t':TypeId}{x y:Operand}(ho:o.op= .call {callee:= .builtin .copy,args:= #[x,y],argTypes:= #[t,t']}){ρD:Operand→DV}{S:St}{K:DV→St→Prop}
 (h:u6 (tk P t) S (ρD x) (ρD y) K):ae P w0 o ρD S K:=by
 intro g w ρ h1 h2 hcst;have hx:=h2 x (by simp[ho,Op.operands,Call.operands]);have hy:=h2 y (by simp[ho,Op.operands,Call.operands]);unfold u6 at h;split at h
 ·rename_i e s by' b of n c hk hxe;rw[hxe]at hx;have hxv:=an hx;obtain⟨hu,hcs,_,hei⟩:=cE hk;obtain⟨ti,z,hi,hz,hzs,hpos⟩:=bI hei;have his:ti.size=s:=by simpa[Program.cellsOf,hi]using hcs
  split at h
  ·rename_i ds hb;obtain⟨hle,h⟩:=h
   have fin:∀(m k:Nat) (vs:List Value) (cs:List DV),k=min m n→(Builtin.lenOf (ρ y)).run P w= .ok m w→(Builtin.firstCells s k (ρ y)).run P w= .ok vs.toArray w→aa g cs vs→(∀v,v∈vs→v.oneCell'=true)→vs.length=k*s→
    K (.v (.int .i64 k)) ⟨up S.box b (kI ds of cs),S.acc⟩→
    match(execOp ρ o).run P w with
    | .ok (.value u) w'=>∃g' d S',g.le g'∧Rel w0 g' S' w'∧aA g' d u∧K d S'
    | .ok .skip w'=>∃g' S',g.le g'∧Rel w0 g' S' w'∧K ud S'
    | .ok (.enter f args) w'=>Calls P f args w' (Ends w0 g K)
    | .ok (.round l f tmps assign body) w'=>∀ro,RoundIn (fz ro) 0 P l f tmps assign body w' (Ends w0 g K)
    | .halt (.panic v) w'=>(∀c,o.op≠ .defer c)∧∃g' d S',g.le g'∧Rel w0 g' S' w'∧aA g' d v∧w0.pq d S'
    |_=>False:=by
    intro m k vs cs hkm hl hf hr hone hvl hK;have hkn:k*s≤n*s:=RZ s (by omega);obtain⟨w',e1,e2⟩:=sf (P:=P) h1 hb (o:=of) hr hone (by have:=hr.len;omega);have hmn:Nat.min m n=k:=hkm.symm
    have:(execOp ρ o).run P w= .ok (.value (.int .i64 k)) w':=by
     simp[execOp,ho,resolve,invoke,builtin,hxv,Builtin.copy_,run_underlying hu,hl,hmn,Go.sizeOf,typeInfo,hi,his,hf,e1,goInt]
    rw[this];exact⟨g,_,_,.refl g,e2,.v _ rfl,hK⟩
   split at h
   ·rename_i b2 o2 m c2 hye;rw[hye]at hy;have hyv:=an hy;split at h
    ·rename_i es hb2;obtain⟨hle2,hK⟩:=h;have hmn:min m n*s≤m*s:=RZ s (Nat.min_le_left _ _);obtain⟨vs,r1,r2,r3,r4⟩:=nz (P:=P) (o:=o2) (m:=min m n) (s:=s) h1 hb2 (by omega);exact fin m (min m n) vs _ rfl (by rw[hyv];rfl) (by rw[hyv];exact r4 w (fun _=>rfl) m c2) r1 r2 r3 hK
    ·exact h.elim
   ·obtain⟨s2,ys,vs,⟨hs2,hok,hlen,hK⟩,hv,hvz,hv1,hlx,hfx⟩:=tI (P:=P) h1 hy h
    have hvz':∀(i:Nat) (u:Value),vs[i]? =some u→u.cells.size=s:=by
     rcases hs2 with rfl|rfl
     ·exact hvz
     ·have:vs=[]:=Rs hv.len.symm;subst this;simp
    exact fin ys.length ys.length (fl vs) _ (by omega) (hlx w) (hfx w (fun _=>rfl) s (hs2.imp Eq.symm id)) (jo hv hok) (ml hv1) (by rw[dR hvz',hv.len]) hK
  ·exact h.elim
 ·exact h.elim
def Ju(S:St)(s:Nat)(ds:List DV)(o b n:Nat)(y:DV)(K:DV→St→Prop):Prop:=match y with
 | .v (.slice (some ⟨b2,o2,none⟩) m c2)=>oK (lk S.box b2) fun es=>o2+m*s≤es.length∧K (.v (.int .i64 (min m n:Nat))) ⟨up S.box b (kI ds o ((es.drop o2).take (min m n*s))),S.acc⟩
 |y=>gg S y fun s' ys=>(s'=s∨ys=[])∧(∀d,d∈ys→dA d=true)∧ys.length≤n∧K (.v (.int .i64 ys.length)) ⟨up S.box b (kI ds o (ys.flatMap cd)),S.acc⟩
def fU(z:DV)(n:Nat):List DV:=(List.replicate n (cd z)).flatten
theorem qV{z:DV}{s:Nat}(h:(cd z).length=s)(n:Nat):(fU z n).length=n*s:=by
 unfold fU
 induction n with
 |zero=>simp
 |succ n ih=>rw[List.replicate_succ,List.flatten_cons,Rk,ih,h,Sr];omega
theorem oA(z:Array Value)(n:Nat):(Builtin.zeroCells z (n+1)).toList=z.toList++(Builtin.zeroCells z n).toList:=by
 apply Sh;intro k;simp only[Builtin.zeroCells,Array.toList_map,Array.toList_range,Rt];rcases Sj k z.size with hk|hk
 ·rw[RV (by simpa using hk),R9 (by rw[Sr];omega)];simp[SA hk,hk]
 ·rw[RO (by simpa using hk)];simp only[RT,Rt];rcases Sj k ((n+1)*z.size)with h2|h2
  ·have h3:k-z.size<n*z.size:=by rw[Sr]at h2;omega
   rw[R9 h2,R9 h3]
   have e:k%z.size=(k-z.size)%z.size:=by
    conv=>lhs;rw[show k=(k-z.size)+z.size by omega,Nat.add_mod_right]
   simp only[R6,e]
  ·have h3:n*z.size≤k-z.size:=by rw[Sr]at h2;omega
   rw[Ry (by simpa using h2),Ry (by simpa using h3)]
theorem lG{g:Gh}{zd:DV}{z:Value}(hr:aA g zd z)(hok:dA zd=true):∀n,aa g (fU zd n) (Builtin.zeroCells z.cells n).toList
 |0=>by simp[fU,Builtin.zeroCells];exact aa.nil g
 |n+1=>by
  rw[oA];have e:fU zd (n+1)=cd zd++fU zd n:=by unfold fU;rw[List.replicate_succ,List.flatten_cons]
  rw[e];exact(hr.cells hok).append (lG hr hok n)
def jc(k:TK)(z:DV)(S:St)(x:DV)(K:DV→St→Prop):Prop:=match k,x with
 | .sl e s by' true,.v (.slice (some ⟨b,o,none⟩) n c)=>(match lk S.box b with
  |some ds=>dA z=true∧o+n*s≤ds.length∧K ud ⟨up S.box b (kI ds o (fU z n)),S.acc⟩
  |none=>False)
 | .map _ _,.mp l=>(match lk S.acc l with
  |some (.xo (.mp kk es clk))=>K ud ⟨S.box,up S.acc l (.xo (.mp kk [] clk))⟩
  |_=>False)
 |_,_=>False
theorem Hi{o:Oper}{t:TypeId}{x:Operand}(ho:o.op= .call {callee:= .builtin .clear,args:= #[x],argTypes:= #[t]}){ρD:Operand→DV}{S:St}{K:DV→St→Prop}
 (h:jc (tk P t) (zD P (dh P t)) S (ρD x) K):ae P w0 o ρD S K:=by
 intro g w ρ h1 h2 hcst;have hx:=h2 x (by simp[ho,Op.operands,Call.operands]);unfold jc at h;split at h
 ·rename_i e s by' b of n c hk hxe;rw[hxe]at hx;have hxv:=an hx;obtain⟨hu,hcs,_,hei⟩:=cE hk;obtain⟨ti,z,hi,hz,hzs,hpos⟩:=bI hei;have his:ti.size=s:=by simpa[Program.cellsOf,hi]using hcs
  have hel:dh P t=e:=by simp[dh,hk]
  have hzD:zD P (dh P t)=cv z:=by rw[hel];simp[zD,hi,hz]
  have hrz:aA g (zD P (dh P t)) z:=hzD▸ig g z;split at h
  ·rename_i ds hb;obtain⟨hok,hle,hK⟩:=h
   have hzl:(cd (zD P (dh P t))).length=s:=by
    have:=(hrz.cells hok).len;rw[this];simp;omega
   obtain⟨w',e1,e2⟩:=sf (P:=P) h1 hb (o:=of) (lG hrz hok n) (bF (cW hei hi hz) n) (by rw[qV hzl];exact hle)
   have:(execOp ρ o).run P w= .ok (.value (.tuple #[])) w':=by
    cases n with
    |zero=>
     have hz0:(Builtin.zeroCells z.cells 0).toList=[]:=by simp[Builtin.zeroCells]
     rw[hz0]at e1;simp[storeCells]at e1;subst e1;simp[execOp,ho,resolve,invoke,builtin,hxv,Builtin.clear_,run_underlying hu]
    |succ n=>simp[execOp,ho,resolve,invoke,builtin,hxv,Builtin.clear_,run_underlying hu,zeroValue,typeInfo,hi,hz,e1]
   rw[this];exact⟨g,_,_,.refl g,e2,gu g,hK⟩
  ·exact h.elim
 ·rename_i kt et l hk hxe;rw[hxe]at hx;obtain⟨b,hxb,hgb⟩:=oI hx;have hu:P.underlying t=some (.map kt et):=by unfold tk at hk;split at hk <;>(try split at hk) <;>(try cases hk) <;>assumption
  split at h
  ·rename_i kk es clk hl;obtain⟨b',o',q1,q2,⟨es',rfl,r,hok⟩,hset⟩:=h1.AK hl;rw[hgb]at q1;cases q1;have hg:=MapKept.run_getObj_map (P:=P) q2;obtain⟨s1,s2⟩:=fg (o':= .map #[] clk) q2
   have hrun:(execOp ρ o).run P w= .ok (.value (.tuple #[])) {w with heap:=w.heap.setIfInBounds b (.map #[] clk)}:=by
    simp[execOp,ho,resolve,invoke,builtin,Builtin.clear_,run_underlying hu,hxb,hg,MapKept.run_setObj_map _ q2]
   rw[hrun];exact⟨g,_,_,.refl g,hset (.mp kk [] clk) _ _ ⟨[],rfl,⟨rfl,fun i e e' h=>by simp at h⟩,⟨fun e he=>(by cases he),by simp,by simp,fun e he=>(by cases he)⟩⟩ (cT _ _ _) s1 s2,gu g,h⟩
  ·exact h.elim
 ·exact h.elim
end
end Aml
namespace Aml
open Go Go.RowKit
section
variable {P:Program} {w0:W0}
def uC(S:St)(s:Nat)(y:DV)(F:Nat→List DV→Prop):Prop:=match y with
 | .v (.slice (some ⟨b,o,none⟩) m c)=>(match lk S.box b with
  |some es=>o+m*s≤es.length∧F m ((es.drop o).take (m*s))
  |none=>False)
 |y=>gg S y fun s' ys=>(s'=s∨ys=[])∧(∀d,d∈ys→dA d=true)∧F ys.length (ys.flatMap cd)
theorem GI{g:Gh}{S:St}{w:World}{s:Nat}{y:DV}{v:Value}{F:Nat→List DV→Prop}(h1:Rel w0 g S w)(hy:aA g y v)(h:uC S s y F):
 ∃m cs vs,F m cs∧aa g cs vs∧(∀u,u∈vs→u.oneCell'=true)∧vs.length=m*s∧(∀w',(Builtin.lenOf v).run P w'= .ok m w')∧∀w',(∀p,w'.cell? p=w.cell? p)→(Builtin.firstCells s m v).run P w'= .ok vs.toArray w':=by
 unfold uC at h;split at h
 ·rename_i b o m c;have hyv:=an hy;subst hyv;split at h
  ·rename_i es hb;obtain⟨hle,hF⟩:=h;obtain⟨vs,r1,r2,r3,r4⟩:=nz (P:=P) (o:=o) (m:=m) (s:=s) h1 hb hle;exact⟨m,_,vs,hF,r1,r2,r3,fun w'=>rfl,fun w' hw'=>r4 w' hw' m c⟩
  ·exact h.elim
 ·obtain⟨s2,ys,vs,⟨hs2,hok,hF⟩,hv,hvz,hv1,hlx,hfx⟩:=tI (P:=P) h1 hy h
  have hvz':∀(i:Nat) (u:Value),vs[i]? =some u→u.cells.size=s:=by
   rcases hs2 with rfl|rfl
   ·exact hvz
   ·have:vs=[]:=Rs hv.len.symm;subst this;simp
  exact⟨ys.length,_,fl vs,hF,jo hv hok,ml hv1,by rw[dR hvz',hv.len],hlx,fun w' hw'=>hfx w' hw' s (hs2.imp Eq.symm id)⟩
def qC(k k2:TK)(S:St)(x y:DV)(K:DV→St→Prop):Prop:=match k,x with
 | .sl e s by' true,.v (.slice (some ⟨b,o,none⟩) n c)=>(match lk S.box b with
  |some ds=>nO k2=true∧o+c*s≤ds.length∧n≤c∧uC S s y fun m cs=>
   (n+m≤c→K (.v (.slice (some ⟨b,o,none⟩) (n+m) c)) ⟨up S.box b (kI ds (o+n*s) cs),S.acc⟩)∧
   (c<n+m→(n+m)*by'≤140737488355328∧n+m≤maxLen∧∀C,n+m≤C→C≤maxLen→∀b2,gx S.box b2→
    K (.v (.slice (some ⟨b2,0,none⟩) (n+m) C)) ⟨(b2,(ds.drop o).take (n*s)++cs++List.replicate ((C-(n+m))*s) .any)::S.box,S.acc⟩)
  |none=>False)
 |_,_=>False
theorem mn(g:Gh)(us:List Value):aa g (List.replicate us.length .any) us:=⟨by simp,fun i d u a _=>by
 rw[RW]at a;split at a
 ·cases a;exact .any u
 ·cases a⟩
theorem LA{o:Oper}{t t':TypeId}{x y:Operand}(ho:o.op= .call {callee:= .builtin .append,args:= #[x,y],argTypes:= #[t,t']}){ρD:Operand→DV}{S:St}{K:DV→St→Prop}
 (h:qC (tk P t) (tk P t') S (ρD x) (ρD y) K):ae P w0 o ρD S K:=by
 intro g w ρ h1 h2 hcst;have hx:=h2 x (by simp[ho,Op.operands,Call.operands]);have hy:=h2 y (by simp[ho,Op.operands,Call.operands]);unfold qC at h;split at h
 ·rename_i e s by' b of n c hk hxe;rw[hxe]at hx;have hxv:=an hx;obtain⟨hu,hcs,hbs,hei⟩:=cE hk;obtain⟨ti,z,hi,hz,hzs,hpos⟩:=bI hei;have his:ti.size=s:=by simpa[Program.cellsOf,hi]using hcs
  have hib:ti.bytes=by':=by simpa[Program.bytesOf,hi]using hbs
  split at h
  ·rename_i ds hb;obtain⟨hni,hle,hnc,h⟩:=h;obtain⟨d',hu',hd'⟩:=qE hni;obtain⟨m,cs,vs,⟨hfit,hgrow⟩,r1,r2,r3,r4,r5⟩:=GI (P:=P) h1 hy h;have hx':(Builtin.firstCells ti.size m (ρ y)).run P w= .ok vs.toArray w:=by rw[his];exact r5 w fun _=>rfl
   rcases Sj c (n+m)with hcm|hcm
   ·obtain⟨hby,hmx,hK⟩:=hgrow hcm;have hns:of+n*s≤ds.length:=by have:=RZ s hnc;omega
    obtain⟨os,q1,q2,q3,q4⟩:=nz (P:=P) (o:=of) (m:=n) (s:=s) h1 hb hns;have hr:=tT (w:=w) (ty:=o.type) (base:=some ⟨b,of,none⟩) (n:=n) (c:=c) hu hu' hd' hi hz (r4 w) (by rw[his];exact q4 w.drew (fun _=>rfl) n c) (by rw[his];exact r5 w.drew fun _=>rfl) hcm hmx (by rw[hib];exact hby);have hcap:=grownCap_ge w (n+m) c e;have hcmx:=grownCap_le_maxLen w (n+m) c e hmx;generalize grownCap w (n+m) c e=C at*;have hzl:(Builtin.zeroCells z.cells (C-(n+m))).toList.length=(C-(n+m))*s:=by rw[RT,size_zeroCells,hzs,his]
    obtain⟨hne,hR⟩:=h1.tH (w':=w.drew.alloc (.cells (os.toArray++vs.toArray++Builtin.zeroCells z.cells (C-(n+m))) e)) ((fJ.refl _ _).drew.alloc (by simp) _) (b:=w.heap.size) (Ro _) (heap_alloc_new w.drew _)
     (ds:=(ds.drop of).take (n*s)++cs++List.replicate ((C-(n+m))*s) .any)
     (by
      simp only[SB,SI];rw[←hzl];exact(q1.append r1).append (mn g _))
     (by
      intro u hu;simp only[SB,RB,SI]at hu;rcases hu with(hu|hu)|hu
      ·exact q2 u hu
      ·exact r2 u hu
      ·exact bF (cW hei hi hz) _ u hu)
    have:(execOp ρ o).run P w= .ok (.value (.slice (some ⟨w.heap.size,0,none⟩) (n+m) C)) (w.drew.alloc (.cells (os.toArray++vs.toArray++Builtin.zeroCells z.cells (C-(n+m))) e)):=by
     simp[execOp,ho,resolve,invoke,builtin,hxv,hr]
    rw[this];exact⟨g,_,_,.refl g,hR,.v _ rfl,hK C hcap hcmx _ (bN hne)⟩
   ·have hK:=hfit hcm
    have hroom:of+n*s+cs.length≤ds.length:=by
     have h3:=RZ s hcm;rw[Ta]at h3;have:=r1.len;omega
    obtain⟨w',e1,e2⟩:=sf (P:=P) h1 hb (o:=of+n*s) r1 r2 hroom;have hr:=rM (w:=w) (ty:=o.type) (base:=some ⟨b,of,none⟩) (n:=n) (c:=c) hu hu' hd' hi (r4 w) hx' hcm;simp only[add_plain,his,e1]at hr
    have:(execOp ρ o).run P w= .ok (.value (.slice (some ⟨b,of,none⟩) (n+m) c)) w':=by
     simp[execOp,ho,resolve,invoke,builtin,hxv,hr]
    rw[this];exact⟨g,_,_,.refl g,e2,.v _ rfl,hK⟩
  ·exact h.elim
 ·exact h.elim
def rb(k:TK)(z:DV)(S:St)(x y:DV)(K:DV→St→Prop):Prop:=match k,x,y with
 | .sl e s by' true,.v (.slice (some ⟨b,o,none⟩) n c),.v (.int _ m)=>(match lk S.box b with
  |some ds=>dA z=true∧o+c*s≤ds.length∧n≤c∧0<m∧c<n+m.toNat∧(n+m.toNat)*by'≤140737488355328∧n+m.toNat≤maxLen∧∀C,n+m.toNat≤C→C≤maxLen→∀b2,gx S.box b2→
   K (.v (.slice (some ⟨b2,0,none⟩) (n+m.toNat) C)) ⟨(b2,(ds.drop o).take (n*s)++fU z m.toNat++List.replicate ((C-(n+m.toNat))*s) .any)::S.box,S.acc⟩
  |none=>False)
 |_,_,_=>False
theorem Ah{w:World}{t t' ty e:TypeId}{k':IntKind}{i:TypeInfo}{z:Value}(ht:P.underlying t=some (.slice e))(ht':P.underlying t'=some (.int k'))(hi:P.info? e=some i)(hz:i.zero=some z)(hpos:0<i.size)
 {base:Option Addr} {k:IntKind} {n c m:Nat} {old:Array Value} (ho:(Builtin.firstCells i.size n (.slice base n c)).run P w.drew= .ok old w.drew) (h0:0<m) (hg:c<n+m) (h63:n+m≤maxLen) (hby:(n+m)*i.bytes≤140737488355328):
 (Builtin.append_ #[t,t'] ty #[.slice base n c,.int k m]).run P w= .ok (.slice (some ⟨w.heap.size,0,none⟩) (n+m) (grownCap w (n+m) c e))
  (w.drew.alloc (.cells (old++Builtin.zeroCells z.cells m++Builtin.zeroCells z.cells (grownCap w (n+m) c e-(n+m))) e)):=by
 have hw:IntKind.i64.wrap (m:Int)=m:=kx (by omega) (by unfold maxLen at h63;omega);have c1:¬((m:Int)<0):=by omega
 have hmb:m*i.bytes≤140737488355328:=by rw[Ta]at hby;omega
 have hbi:(m:Int)*i.bytes≤140737488355328:=by rw[←Int.natCast_mul];omega
 have c2:¬(281474976710656<(m:Int)*(i.bytes:Int)):=by omega
 have c3:¬(m*i.size=0):=by
  intro h;rcases Nat.mul_eq_zero.1 h with h|h <;>omega
 have c4:¬(9223372036854775807<((n:Int)+(m:Int))):=by unfold maxLen at h63;omega
 have hfit:=growslice_fits (need:=n+m) (old:=c) (bytes:=i.bytes) hg hby;have c5:¬(281474976710656<Builtin.nextslicecap (n+m) c*i.bytes):=by omega
 have c6:¬(n+m≤c):=by omega
 have c7:¬(i.size=0):=by omega
 have c8:¬(m=0):=by omega
 simp[Builtin.append_,run_underlying ht,run_underlying ht',Go.sizeOf,typeInfo,hi,zeroValue,hz,asInt,asIntOf,hw,c1,c2,c3,c4,c5,c6,c7,c8,ho,Question.forced,newRow,grownCap]
theorem Kb{o:Oper}{t t':TypeId}{x y:Operand}{k':IntKind}(ho:o.op= .call {callee:= .builtin .append,args:= #[x,y],argTypes:= #[t,t']})(hk':tk P t'= .int k'){ρD:Operand→DV}{S:St}{K:DV→St→Prop}
 (h:rb (tk P t) (zD P (dh P t)) S (ρD x) (ρD y) K):ae P w0 o ρD S K:=by
 intro g w ρ h1 h2 hcst;have hx:=h2 x (by simp[ho,Op.operands,Call.operands]);have hy:=h2 y (by simp[ho,Op.operands,Call.operands]);have hut':=ib hk';unfold rb at h;split at h
 ·rename_i e s by' b of n c kk m hk hxe hye;rw[hxe]at hx;rw[hye]at hy;have hxv:=an hx;have hyv:=an hy;obtain⟨hu,hcs,hbs,hei⟩:=cE hk;obtain⟨ti,z,hi,hz,hzs,hpos⟩:=bI hei;have his:ti.size=s:=by simpa[Program.cellsOf,hi]using hcs
  have hib:ti.bytes=by':=by simpa[Program.bytesOf,hi]using hbs
  have hel:dh P t=e:=by simp[dh,hk]
  have hzD:zD P (dh P t)=cv z:=by rw[hel];simp[zD,hi,hz]
  have hrz:aA g (zD P (dh P t)) z:=hzD▸ig g z;split at h
  ·rename_i ds hb;obtain⟨hok,hle,hnc,hm0,hcm,hby,hmx,hK⟩:=h;obtain⟨M,rfl⟩:=TI (Int.le_of_lt hm0);simp only[Int.toNat_natCast]at*;have hns:of+n*s≤ds.length:=by have:=RZ s hnc;omega
   obtain⟨os,q1,q2,q3,q4⟩:=nz (P:=P) (o:=of) (m:=n) (s:=s) h1 hb hns;have hr:=Ah (w:=w) (ty:=o.type) (k:=kk) (base:=some ⟨b,of,none⟩) (n:=n) (c:=c) (m:=M) hu hut' hi hz hpos (by rw[his];exact q4 w.drew (fun _=>rfl) n c) (by omega) hcm hmx (by rw[hib];exact hby);have hcap:=grownCap_ge w (n+M) c e;have hcmx:=grownCap_le_maxLen w (n+M) c e hmx;generalize grownCap w (n+M) c e=C at*;have hzl:(Builtin.zeroCells z.cells (C-(n+M))).toList.length=(C-(n+M))*s:=by rw[RT,size_zeroCells,hzs,his]
   obtain⟨hne,hR⟩:=h1.tH (w':=w.drew.alloc (.cells (os.toArray++Builtin.zeroCells z.cells M++Builtin.zeroCells z.cells (C-(n+M))) e)) ((fJ.refl _ _).drew.alloc (by simp) _) (b:=w.heap.size) (Ro _) (heap_alloc_new w.drew _)
    (ds:=(ds.drop of).take (n*s)++fU (zD P (dh P t)) M++List.replicate ((C-(n+M))*s) .any)
    (by
     simp only[SB,SI];rw[←hzl];exact(q1.append (lG hrz hok M)).append (mn g _))
    (by
     intro u hu;simp only[SB,RB,SI]at hu;rcases hu with(hu|hu)|hu
     ·exact q2 u hu
     ·exact bF (cW hei hi hz) _ u hu
     ·exact bF (cW hei hi hz) _ u hu)
   have:(execOp ρ o).run P w= .ok (.value (.slice (some ⟨w.heap.size,0,none⟩) (n+M) C)) (w.drew.alloc (.cells (os.toArray++Builtin.zeroCells z.cells M++Builtin.zeroCells z.cells (C-(n+M))) e)):=by
    simp[execOp,ho,resolve,invoke,builtin,hxv,hyv,hr]
   rw[this];exact⟨g,_,_,.refl g,hR,.v _ rfl,hK C hcap hcmx _ (bN hne)⟩
  ·exact h.elim
 ·exact h.elim
end
end Aml
namespace Aml
open Go Go.RowKit
def jg(o:Option (List FK))(op:BinOp)(la:List DV)(y:DV)(K:DV→Prop):Prop:=match o,y,op with
 |some ks,.agg bs,.eql=>eC ks la bs true fun r=>K (.v (.bool r))
 |some ks,.agg bs,.neq=>eC ks la bs true fun r=>K (.v (.bool !r))
 |_,_,_=>False
def gH(P:Program)(op:BinOp)(t:TypeId)(cx cy:Bool)(x y:DV)(K:DV→Prop):Prop:=match x with
 | .agg la=>jg (wg P t) op la y K
 |x=>mV op (tk P t) cx cy x y K
section
variable {P:Program} {w0:W0}
theorem Lm{o:Oper}{op:BinOp}{t t':TypeId}{x y:Operand}(ho:o.op= .binOp op t x y t'){ρD:Operand→DV}{S:St}{K:DV→St→Prop}(h:gH P op t (ux x) (ux y) (ρD x) (ρD y) (K · S)):ae P w0 o ρD S K:=by
 unfold gH at h;split at h
 ·rename_i la hx0;refine aZ fun g w ρ h1 h2=>?_;have hx:=h2 x (by simp[ho,Op.operands]);have hy:=h2 y (by simp[ho,Op.operands]);rw[hx0]at hx;obtain⟨us,e1,hru,hu1⟩:=jy hx;unfold jg at h
  have fin:∀{ks:List FK} {bs:List DV} {F:Bool→Prop},wg P t=some ks→ρD y= .agg bs→eC ks la bs true F→∃(vs:List Value) (q:Bool),ρ y= .agg vs.toArray∧(∀op,(eqGuard op t x y (.agg us.toArray) (.agg vs.toArray)).run P w= .ok () w)∧(Op.equalIn 10000 t (.agg us.toArray) (.agg vs.toArray)).run P w= .ok q w∧F q:=by
   intro ks bs F he hyb hk;rw[hyb]at hy;obtain⟨vs,e2,hrv,hv1⟩:=jy hy;unfold wg at he;split at he
   ·rename_i fs hst;split at he
    ·rename_i hc;simp only[Rm,Sc]at hc;have hfo:P.underlying t=some (.struct (P.fieldsOf t)):=by unfold Program.fieldsOf;rw[hst]
     obtain⟨q,r1,r2⟩:=rH (P:=P) (w:=w) (d:=9998) (us:=us) (vs:=vs) (P.fieldsOf t).toList he (by rw[List.drop_zero];exact hru) (by rw[List.drop_zero];exact hrv) hk;rw[Tk]at r2;exact⟨vs,q,e2,fun op=>run_eqGuard_agg w op t x y _ _ hc.2,by rw[run_equalIn_struct w 9999 t _ _ hfo hc.1];exact r1,r2⟩
    ·cases he
   ·cases he
  split at h
  ·rename_i ks bs he hyb;obtain⟨vs,q,e2,hg,hq,hF⟩:=fin he hyb h;exact⟨_,.bool q,by simp[execOp,ho,e1,e2,hg,run_eql_struct w t,hq],.v _ rfl,hF⟩
  ·rename_i ks bs he hyb;obtain⟨vs,q,e2,hg,hq,hF⟩:=fin he hyb h;exact⟨_,.bool !q,by simp[execOp,ho,e1,e2,hg,run_neq_struct w t,hq],.v _ rfl,hF⟩
  ·exact h.elim
 ·exact Hc ho h
end
theorem Fy(P:Program)(op:BinOp)(t:TypeId)(cx cy:Bool)(u:Value)(y:DV)(K:DV→Prop):gH P op t cx cy (.v u) y K=mV op (tk P t) cx cy (.v u) y K:=rfl
theorem yG(P:Program)(op:BinOp)(t:TypeId)(cx cy:Bool)(la:List DV)(y:DV)(K:DV→Prop):gH P op t cx cy (.agg la) y K=jg (wg P t) op la y K:=rfl
theorem Ko(ks:List FK)(la bs:List DV)(K:DV→Prop):jg (some ks) .eql la (.agg bs) K=eC ks la bs true fun r=>K (.v (.bool r)):=rfl
theorem LR(ks:List FK)(la bs:List DV)(K:DV→Prop):jg (some ks) .neq la (.agg bs) K=eC ks la bs true fun r=>K (.v (.bool !r)):=rfl
theorem w7(r:Bool)(F:Bool→Prop):eC [] [] [] r F=F r:=rfl
theorem CB(k k1 k2:IntKind)(m n:Int)(ks:List FK)(la bs:List DV)(r:Bool)(F:Bool→Prop):eC (.int k::ks) (.v (.int k1 m)::la) (.v (.int k2 n)::bs) r F=(k1=k∧k2=k∧eC ks la bs (r&&decide (m=n)) F):=rfl
end Aml
namespace Aml
open Go Go.RowKit
class Cn(α:Type) where
 k:α
def AC(P:Program)(w0:W0)(f:FuncId)(ds:List DV)(S:St)[K:Cn (DV→St→Prop)]:Prop:=ab P w0 f ds S K.k
def eK:List DV→Bool
 |[]=>false
 | .acc _ _::_=>true
 |_::ds=>eK ds
def eQ(S:St)(ds:List DV)(F:List DV→St→Prop):Prop:=match eK ds with
 |true=>F ds S∨eo S ds F
 |false=>eo S ds F
def YC(P:Program)(w0:W0)(l:Nat)(ds:List DV)(S:St)[K:Cn (DV→St→Prop)]:Prop:=Jg P w0 l ds S K.k
def XC(P:Program)(w0:W0)(f:FuncId)(ds:List DV)(S:St)[K:Cn (DV→St→Prop)]:Prop:=
 ∀g w (us:List Value),Rel w0 g S w→aa g ds us→∃v w' g' d S',(callFunc f us.toArray).run P w= .ok (.value v) w'∧g.le g'∧Rel w0 g' S' w'∧aA g' d v∧K.k d S'
def gX(b:Bool)(A B:Prop):Prop:=match b with
 |true=>A
 |false=>B
theorem J0(A B:Prop):gX true A B=A:=rfl
@[congr] theorem Qt {b b':Bool} {A B:Prop} (h:b=b'):gX b A B=gX b' A B:=by rw[h]
def DF(a:Array Value)(A:Prop)(B:List Value→Prop):Prop:=match a.toList with
 |[]=>A
 |us=>us.all (fun u=>u.oneCell')=true∧B us
@[congr] theorem OH {a a':Array Value} {A:Prop} {B:List Value→Prop} (h:a=a'):DF a A B=DF a' A B:=by rw[h]
def pU(P:Program)(w0:W0)(cal:DV)(ds:List DV)(S:St)(K:DV→St→Prop):Prop:=match cal with
 | .v (.func (.func f) a cap)=>cap.toList.all (fun u=>u.oneCell')=true∧DF a (gX (okF P f) (eQ S ds fun ds S=>@AC P w0 f (ds++cap.toList.map .v) S ⟨K⟩) (@XC P w0 f (ds++cap.toList.map .v) S ⟨K⟩))
   fun us=>okF P f=true∧eQ S ds fun ds S=>@AC P w0 f (us.map .v++(ds++cap.toList.map .v)) S ⟨K⟩
 | .v (.func (.yield l) a cap)=>a.size=0∧cap.size=0∧eo S ds fun ds S=>@YC P w0 l ds S ⟨K⟩
 |_=>False
theorem v7{P:Program}{w0:W0}{f:FuncId}{a cap:Array Value}{ds:List DV}{S:St}{K:DV→St→Prop}(h1:a.size=0)(h2:cap.toList.all (fun u=>u.oneCell')=true)
 (h3:gX (okF P f) (eQ S ds fun ds S=>@AC P w0 f (ds++cap.toList.map .v) S ⟨K⟩) (@XC P w0 f (ds++cap.toList.map .v) S ⟨K⟩)):pU P w0 (.v (.func (.func f) a cap)) ds S K:=by
 have ha:a= #[]:=by apply Tg h1
 subst ha;exact⟨h2,h3⟩
def xr(P:Program)(x:DV)(name:String)(F:FuncId→DV→Prop):Prop:=match x with
 | .fN t (.agg [])=>(match Ja P t name with
  |some f=>okF P f=true∧F f (.agg [])
  |none=>False)
 |_=>False
def s8(w0:W0)(b:Nat)(us:List Value):Prop:=(∀j,w0.gh.aO b j=us[j]?)∧∀u,u∈us→u.oneCell'=true
def mF(w0:W0)(b:Nat)(F:DV→Prop):Prop:=∃us,s8 w0 b us∧F (.ip (us.map .v))
theorem D1{w0:W0}{b:Nat}{us:List Value}(h:s8 w0 b us)(F:DV→Prop):mF w0 b F=F (.ip (us.map .v)):=by
 unfold mF;apply propext;constructor
 ·rintro⟨vs,hv,hF⟩;have:vs=us:=Sh fun j=>by rw[←hv.1,h.1]
  rw[←this];exact hF
 ·exact fun hF=>⟨us,h,hF⟩
theorem DG{w0:W0}{b:Nat}{us:List Value}(h:s8 w0 b us){g:Gh}(hg:w0.gh.sub g):aA g (.ip (us.map .v)) (.pointer (some ⟨b,0,none⟩)):=
 .ip _ _ _ us (by simp) (fun i d u a1 a2=>by
  simp only[Rt,Rw]at a1;obtain⟨u',a1,rfl⟩:=a1;rw[a2]at a1;cases a1;exact .v _ (h.2 _ (Rj a2))) h.2 (fun j x hj=>by
  rw[Sz];exact hg.aO _ _ _ (by rw[h.1];exact hj))
def Ay(w0:W0)(fr:List DV)(x:Operand)(F:DV→Prop):Prop:=match x with
 | .global b=>mF w0 b F
 |x=>F (ev fr x)
@[congr] theorem PT {w0:W0} {fr fr':List DV} {x:Operand} {F:DV→Prop} (h:fr=fr'):Ay w0 fr x F=Ay w0 fr' x F:=by rw[h]
@[congr] theorem N7 {w0:W0} {b:Nat} {F:DV→Prop}:mF w0 b F=mF w0 b F:=rfl
@[congr] theorem O8 {P:Program} {x x':DV} {name:String} {F:FuncId→DV→Prop} (h:x=x'):xr P x name F=xr P x' name F:=by rw[h]
def rR:TK→Bool
 | .int _=>true
 |_=>false
theorem qW{k:TK}(h:rR k=true):∃k',k= .int k':=by cases k <;>first|exact⟨_,rfl⟩|cases h
def oM(w0:W0)(d:DV)(S:St):Prop:=match d with
 | .fN t x=>w0.pq (.fN t x) S
 |_=>False
def aL(P:Program)(w0:W0)(op:Op)(fr:List DV)(S:St)(K:DV→St→Prop):Prop:=match op with
 | .move x=>K (ev fr x) S
 | .assign x=>K (ev fr x) S
 | .pick c a b=>fA (ev fr c) (ev fr a) (ev fr b) (K · S)
 | .load t x=>bX (tk P t) S (ev fr x) (K · S)
 | .fieldAddr t x f=>dZ (tk P t) f (ev fr x) (K · S)
 | .indexAddr t x i=>Ay w0 fr x fun d=>aD (tk P t) d (ev fr i) (K · S)
 | .index t x i=>fC (tk P t) (ev fr x) (ev fr i) (K · S)
 | .field t x f=>eT (tk P t) f (ev fr x) (K · S)
 | .extract x i=>cB i (ev fr x) (K · S)
 | .nilCheck x=>notNil (ev fr x)=true∧K (ev fr x) S
 | .binOp b t x y _=>(match fD y with
  |true=>mc b (tk P t) (ev fr x) (K · S)
  |false=>gH P b t (ux x) (ux y) (ev fr x) (ev fr y) (K · S))
 | .unOp b _ x=>Au b (ev fr x) (K · S)
 | .convert s d x=>gm (tk P s) (tk P d) (tk P (dh P s)) (tk P (dh P d)) S (ev fr x) (K · S)
 | .makeInterface t x=>pY (tk P t)=false∧shr S (ev fr x) fun d S=>K (.fN t d) S
 | .typeAssert x _ t ok=>ny P t ok (ev fr x) (K · S)
 | .build t parts=>eo S (parts.toList.map fun p=>ev fr p.2) fun ds S=>dO P t ((parts.toList.map (·.1)).zip ds) (K · S)
 | .buildSlice t len parts=>eo S (parts.toList.map fun p=>ev fr p.2) fun ds S=>aG (tk P t) (zD P (dh P t)) len ((parts.toList.map (·.1)).zip ds) (K · S)
 | .makeFunc fn a b=>iT fn (a.toList.map (ev fr)) (b.toList.map (ev fr)) (K · S)
 | .slice t x lo hi mx=>(mx.isSome=true→hi.isSome=true)∧eX (tk P t) S (ev fr x) (lo.map (ev fr)) (hi.map (ev fr)) (mx.map (ev fr)) K
 | .box _ x=>dA (ev fr x)=true∧∀b,gx S.box b→K (.v (.pointer (some ⟨b,0,none⟩))) ⟨(b,cd (ev fr x))::S.box,S.acc⟩
 | .alloc t=>dA (zD P t)=true∧∀b,gx S.box b→K (.v (.pointer (some ⟨b,0,none⟩))) ⟨(b,cd (zD P t))::S.box,S.acc⟩
 | .store t x y=>(P.info? t).isSome=true∧db (P.cellsOf t) S (ev fr x) (ev fr y) (K ud)
 | .makeSlice t x y=>dt (tk P t) (zD P (dh P t)) (ev fr x) (ev fr y) S K
 | .lookup t x y ok=>cL (nT P t) S (ev fr x) (ev fr y) ok (K · S)
 | .mapUpdate t x y z=>kF (nT P t) S (ev fr x) (ev fr y) (ev fr z) (K ud)
 | .makeMap t r=>lr (nT P t) r S K
 | .range t x=>J9 (tk P t) (nT P t) S (ev fr x) K
 | .next x s=>Me s S (ev fr x) K
 | .entry x=>oU S (ev fr x) (K · S)
 | .panic x=>oM w0 (ev fr x) S
 | .call c=>match c.callee with
  | .builtin .len=>(match c.args.toList,c.argTypes.toList with
   |[x],[t]=>kp (tk P t) (ev fr x) (K · S)
   |_,_=>False)
  | .builtin .cap=>(match c.args.toList,c.argTypes.toList with
   |[x],[t]=>rO (tk P t) (ev fr x) (K · S)
   |_,_=>False)
  | .builtin .append=>(match c.args.toList,c.argTypes.toList with
   |[x,y],[t,t']=>(match tQ (ev fr x)with
    |true=>(match rR (tk P t')with
     |true=>rb (tk P t) (zD P (dh P t)) S (ev fr x) (ev fr y) K
     |false=>qC (tk P t) (tk P t') S (ev fr x) (ev fr y) K)
    |false=>(match rR (tk P t')with
     |true=>jz (tk P t) (zD P (dh P t)) S (ev fr x) (ev fr y) K
     |false=>ic (tk P t) (tk P t') S (ev fr x) (ev fr y) K))
   |_,_=>False)
  | .builtin .copy=>(match c.args.toList,c.argTypes.toList with
   |[x,y],[t,t']=>u6 (tk P t) S (ev fr x) (ev fr y) K
   |_,_=>False)
  | .builtin .clear=>(match c.args.toList,c.argTypes.toList with
   |[x],[t]=>jc (tk P t) (zD P (dh P t)) S (ev fr x) K
   |_,_=>False)
  | .builtin .delete=>(match c.args.toList,c.argTypes.toList with
   |[x,y],[t,t']=>lp (nT P t) S (ev fr x) (ev fr y) (K ud)
   |_,_=>False)
  | .builtin .min=>(match c.args.toList with
   |[x,y]=>sa (ev fr x) (ev fr y) (K · S)
   |_=>False)
  | .builtin .max=>(match c.args.toList with
   |[x,y]=>sH (ev fr x) (ev fr y) (K · S)
   |_=>False)
  | .value cal=>pU P w0 (ev fr cal) (c.args.toList.map (ev fr)) S K
  | .invoke r name=>xr P (ev fr r) name fun f d=>eQ S (d::c.args.toList.map (ev fr)) fun ds S=>@AC P w0 f ds S ⟨K⟩
  |_=>False
 |_=>False
def eE:Op→Bool
 | .slice _ x lo hi mx=>(match lo with|some y=>!sameO y x|none=>true)&&(match hi with|some y=>!sameO y x|none=>true)&&(match mx with|some y=>!sameO y x|none=>true)
 |_=>true
where sameO:Operand→Operand→Bool
 | .tmp a,.tmp b=>a==b
 | .const _,.const _=>true
 | .global _,.global _=>true
 | .func _,.func _=>true
 |_,_=>false
section
variable {P:Program} {w0:W0}
theorem cb{α:Type}{a:Array α}{l:List α}(h:a.toList=l):a=l.toArray:=by rw[←h]
theorem pK{y x:Operand}(h:eE.sameO y x=false):y≠x:=by
 rintro rfl;cases y <;>simp[eE.sameO]at h
theorem Gx{o:Oper}{f:FuncId}{args:List Operand}{ts:Array TypeId}{cal:Operand}(ho:o.op= .call {callee:= .value cal,args:=args.toArray,argTypes:=ts}){ρD:Operand→DV}{S:St}{K:DV→St→Prop}
 {cap:List Value} (hcal:ρD cal= .v (.func (.func f) #[] cap.toArray)) (h:@XC P w0 f (args.map ρD++cap.map .v) S ⟨K⟩) (hcap:∀u,u∈cap→u.oneCell'=true):ae P w0 o ρD S K:=by
 intro g w ρ h1 h2 hcst;have hc:=h2 cal (by simp[ho,Op.operands,Call.operands]);rw[hcal]at hc;have hv:=an hc;have hargs:=bP (g:=g) (ρD:=ρD) (ρ:=ρ) args (fun p hp=>h2 p (by simp[ho,Op.operands,Call.operands,hp]))
 have hcapR:aa g (cap.map .v) cap:=⟨by simp,fun i d u a1 a2=>by
  simp only[Rt,Rw]at a1;obtain⟨u',a1,rfl⟩:=a1;rw[a2]at a1;cases a1;exact .v _ (hcap _ (Rj a2))⟩
 obtain⟨v,w',g',d,S',q1,q2,q3,q4,q5⟩:=h g w ((args.map ρ)++cap) h1 (hargs.append hcapR)
 have hrun:(execOp ρ o).run P w= .ok (.value v) w':=by
  rw[←q1];simp[execOp,ho,resolve,hv,Deferred.ofValue,invoke]
 rw[hrun];exact⟨g',d,S',q2,q3,q4,q5⟩
theorem IA{o:Oper}{x:Operand}(ho:o.op= .panic x){ρD:Operand→DV}{S:St}{K:DV→St→Prop}(h:oM w0 (ρD x) S):ae P w0 o ρD S K:=by
 intro g w ρ h1 h2 hcst;have hx:=h2 x (by simp[ho,Op.operands]);unfold oM at h;split at h
 ·rename_i t d he;rw[he]at hx;have hx':=hx;obtain⟨u,hv,hu⟩:=jA hx
  have hrun:(execOp ρ o).run P w= .halt (.panic (.iface t u)) w:=by
   simp[execOp,ho,hv,Instr.panic]
  rw[hrun];rw[hv]at hx';exact⟨fun c hc=>(by rw[ho]at hc;cases hc),g,_,S,.refl g,h1,hx',h⟩
 ·exact h.elim
theorem ct{o:Oper}{fr:List DV}{S:St}{K:DV→St→Prop}(hs:eE o.op=true)(h:aL P w0 o.op fr S K):ae P w0 o (ev fr) S K:=by
 cases hop:o.op with
 |move x=>rw[hop]at h;exact LF hop h
 |assign x=>rw[hop]at h;exact Db hop h
 |pick c a b=>rw[hop]at h;exact J3 hop h
 |load t x=>rw[hop]at h;exact Lf hop h
 |fieldAddr t x f=>rw[hop]at h;exact uu hop h
 |indexAddr t x i=>
  rw[hop]at h
  cases x with
  |global b=>
   obtain⟨us,hg,h⟩:=(show mF w0 b fun d=>aD (tk P t) d (ev fr i) (K · S)from h)
   exact kB hop (fun g w u hR r=>by
    have:=an (show aA g (.v (.pointer (some ⟨b,0,none⟩))) u from r);rw[this];exact DG hg hR.below.jK) h
  |tmp n=>exact jb hop h
  |const u=>exact jb hop h
  |func f=>exact jb hop h
 |index t x i=>rw[hop]at h;exact HF hop h
 |field t x f=>rw[hop]at h;exact CP hop h
 |extract x i=>rw[hop]at h;exact BX hop h
 |nilCheck x=>rw[hop]at h;exact wQ hop h
 |panic x=>rw[hop]at h;exact IA hop h
 |binOp b t x y t'=>
  rw[hop]at h;simp only[aL]at h
  cases hq:fD y with
  |true=>rw[hq]at h;exact HS hop hq h
  |false=>rw[hq]at h;exact Lm hop h
 |unOp b t x=>rw[hop]at h;exact LM hop h
 |convert s d x=>rw[hop]at h;exact yK hop h
 |makeInterface t x=>rw[hop]at h;exact wF hop h
 |typeAssert x t' t ok=>rw[hop]at h;exact Gq hop h
 |build t parts=>rw[hop]at h;exact C4 (parts:=parts.toList) (by simpa using hop) h
 |buildSlice t len parts=>rw[hop]at h;exact qd (parts:=parts.toList) (by simpa using hop) h
 |makeFunc fn a b=>rw[hop]at h;exact wC (a:=a.toList) (b:=b.toList) (by simpa using hop) h
 |slice t x lo hi mx=>
  rw[hop]at h hs;simp only[eE,Rm]at hs;obtain⟨⟨s1,s2⟩,s3⟩:=hs;refine CD hop h.1 ⟨?_,?_,?_⟩ h.2
  ·rintro rfl;simp only[Sc]at s1;exact pK s1 rfl
  ·rintro rfl;simp only[Sc]at s2;exact pK s2 rfl
  ·rintro rfl;simp only[Sc]at s3;exact pK s3 rfl
 |box t x=>rw[hop]at h;exact NZ hop h
 |alloc t=>rw[hop]at h;exact zx hop h
 |store t x y=>rw[hop]at h;exact FT hop h.1 h.2
 |makeSlice t x y=>rw[hop]at h;exact mD hop h
 |lookup t x y ok=>rw[hop]at h;exact DU hop h
 |mapUpdate t x y z=>rw[hop]at h;exact vK hop h
 |makeMap t r=>rw[hop]at h;exact A4 hop h
 |range t x=>rw[hop]at h;exact OT hop h
 |next x s=>rw[hop]at h;exact OK hop h
 |entry x=>rw[hop]at h;exact HJ hop h
 |call c=>
  rw[hop]at h;obtain⟨callee,args,ts⟩:=c;simp only[aL]at h;split at h
  ·split at h
   ·rename_i x t e1 e2;exact Mx (x:=x) (t:=t) (by rw[hop,cb e1,cb e2]) h
   ·exact h.elim
  ·split at h
   ·rename_i x t e1 e2;exact No (x:=x) (t:=t) (by rw[hop,cb e1,cb e2]) h
   ·exact h.elim
  ·split at h
   ·rename_i x y t t' e1 e2
    cases hrow:tQ (ev fr x)with
    |true=>
     rw[hrow]at h
     cases hq:rR (tk P t')with
     |true=>
      rw[hq]at h;obtain⟨k',hk'⟩:=qW hq;exact Kb (x:=x) (y:=y) (t:=t) (t':=t') (by rw[hop,cb e1,cb e2]) hk' h
     |false=>
      rw[hq]at h;exact LA (x:=x) (y:=y) (t:=t) (t':=t') (by rw[hop,cb e1,cb e2]) h
    |false=>
     rw[hrow]at h
     cases hq:rR (tk P t')with
     |true=>
      rw[hq]at h;obtain⟨k',hk'⟩:=qW hq;exact Ew (x:=x) (y:=y) (t:=t) (t':=t') (by rw[hop,cb e1,cb e2]) hk' h
     |false=>
      rw[hq]at h;exact DL (x:=x) (y:=y) (t:=t) (t':=t') (by rw[hop,cb e1,cb e2]) h
   ·exact h.elim
  ·split at h
   ·rename_i x y t t' e1 e2;exact LS (x:=x) (y:=y) (t:=t) (t':=t') (by rw[hop,cb e1,cb e2]) h
   ·exact h.elim
  ·split at h
   ·rename_i x t e1 e2;exact Hi (x:=x) (t:=t) (by rw[hop,cb e1,cb e2]) h
   ·exact h.elim
  ·split at h
   ·rename_i x y t t' e1 e2;exact DQ (x:=x) (y:=y) (t:=t) (t':=t') (by rw[hop,cb e1,cb e2]) h
   ·exact h.elim
  ·split at h
   ·rename_i x y e1;exact M1 (x:=x) (y:=y) (ts:=ts) (by rw[hop,cb e1]) h
   ·exact h.elim
  ·split at h
   ·rename_i x y e1;exact NR (x:=x) (y:=y) (ts:=ts) (by rw[hop,cb e1]) h
   ·exact h.elim
  ·rename_i cal;unfold pU at h;split at h
   ·rename_i f a cap hcal;obtain⟨hcap,h⟩:=h;obtain⟨a⟩:=a
    cases a with
    |cons u us=>
     obtain⟨hfst,hf,h⟩:=h;refine C9 (args:=args.toList) (cal:=cal) (fst:=u::us) (cap:=cap.toList) (ts:=ts) (by simpa using hop) (by simpa using hcal) hf ?_ (RD.1 hfst) (RD.1 hcap);unfold eQ at h;split at h
     ·exact h
     ·exact .inr h
    |nil=>?_
    replace h:gX (okF P f) (eQ S (args.toList.map (ev fr)) fun ds S=>@AC P w0 f (ds++cap.toList.map .v) S ⟨K⟩) (@XC P w0 f (args.toList.map (ev fr)++cap.toList.map .v) S ⟨K⟩):=h
    cases hf:okF P f with
    |false=>
     rw[hf]at h;exact Gx (args:=args.toList) (cal:=cal) (cap:=cap.toList) (ts:=ts) (by simpa using hop) (by simpa using hcal) h (RD.1 hcap)
    |true=>?_
    rw[hf]at h;simp only[gX]at h;refine H6 (args:=args.toList) (cal:=cal) (cap:=cap.toList) (ts:=ts) (by simpa using hop) (by simpa using hcal) hf ?_ (RD.1 hcap);unfold eQ at h;split at h
    ·exact h
    ·exact .inr h
   ·rename_i l a cap hcal;obtain⟨ha,hcap,h⟩:=h;have ha':a= #[]:=by apply Tg ha
    have hc':cap= #[]:=by apply Tg hcap
    subst ha';subst hc';exact Iy (args:=args.toList) (cal:=cal) (ts:=ts) (by simpa using hop) hcal h
   ·exact h.elim
  ·rename_i r name;unfold xr at h;split at h
   ·rename_i t hx;split at h
    ·rename_i f hi;obtain⟨hf,h⟩:=h;refine F0 (args:=args.toList) (ts:=ts) (by simpa using hop) hx hi hf ?_;unfold eQ at h;split at h
     ·exact h
     ·exact .inr h
    ·exact h.elim
   ·exact h.elim
  ·exact h.elim
 |_=>rw[hop]at h;exact h.elim
def qO(P:Program)(w0:W0)(ops:Array Oper)(K:List DV→St→Prop):List Oper→List DV→St→Prop
 |[],fr,S=>K fr S
 |o::rest,fr,S=>bl ops fr o.guard (fun fr=>aL P w0 o.op fr S fun d S'=>qO P w0 ops K rest (pt fr o.dst d) S') (fun fr=>qO P w0 ops K rest (pt fr o.dst ud) S)
theorem eA{ops:Array Oper}{fr:List DV}{gd:Option (Nat×Bool)}{A B A' B':List DV→Prop}(ha:∀fr,A fr→A' fr)(hb:∀fr,B fr→B' fr)(h:bl ops fr gd A B):bl ops fr gd A' B':=by
 unfold bl at*;split at h
 ·exact ha _ h
 ·split at h
  ·exact hb _ h
  ·split at h
   ·exact⟨fun e=>ha _ (h.1 e),fun e=>hb _ (h.2 e)⟩
   ·exact hb _ h
   ·exact h
theorem aF{o:Oper}{ρD:Operand→DV}{S:St}{K K':DV→St→Prop}(hk:∀d S,K d S→K' d S)(h:ae P w0 o ρD S K):ae P w0 o ρD S K':=by
 intro g w ρ h1 h2 hcst;have:=h g w ρ h1 h2 hcst;split at this
 ·obtain⟨g',d,S',a,b,c,e⟩:=this;exact⟨g',d,S',a,b,c,hk _ _ e⟩
 ·obtain⟨g',S',a,b,e⟩:=this;exact⟨g',S',a,b,hk _ _ e⟩
 ·exact this.mono fun e w'' k=>k.mono (.refl _) hk
 ·exact fun ro=>(this ro).mono fun e w'' k=>k.mono (.refl _) hk
 ·exact this
 ·exact this
theorem gF{ops:Array Oper}{K:List DV→St→Prop}:∀(l:List Oper) {fr:List DV} {S:St},l.all (fun o=>eE o.op)=true→qO P w0 ops K l fr S→wb P w0 ops K l fr S
 |[],fr,S,_,h=>h
 |o::rest,fr,S,hs,h=>by
  simp only[SU,Rm]at hs;refine eA (fun fr h=>?_) (fun fr h=>gF rest hs.2 h) h;exact aF (fun d S h=>gF rest hs.2 h) (ct hs.1 h)
theorem yj{d:DV}{A B A' B':Prop}(ha:A→A')(hb:B→B')(h:de d A B):de d A' B':=by
 unfold de at*;split at h
 ·exact⟨fun e=>ha (h.1 e),fun e=>hb (h.2 e)⟩
 ·exact h
end
end Aml
namespace Aml
open Go Go.RowKit
def qX:List DV→Nat→List Nat→List DV
 |[],_,_=>[]
 |_::ds,i,[]=> .any::qX ds (i+1) []
 |d::ds,i,j::js=>if i=j then d::qX ds (i+1) js else .any::qX ds (i+1) (j::js)
def wk(live:List Nat)(fr:List DV):List DV:=qX fr 0 live
def jB(fr:List DV):List (Nat×DV)→List DV
 |[]=>fr
 |(i,d)::us=>jB (fr.set i d) us
structure Om where
 a0:DV
 a1:DV
 a2:DV
 a3:DV
 a4:DV
 a5:DV
 a6:DV
 a7:DV
 a8:DV
 a9:DV
 bj:DV
 bu:DV
 a12:DV
 bD:DV
 bJ:DV
 bO:DV
def rc(r:Om)(l:List DV):List DV:=r.a0::r.a1::r.a2::r.a3::r.a4::r.a5::r.a6::r.a7::r.a8::r.a9::r.bj::r.bu::r.a12::r.bD::r.bJ::r.bO::l
def cz(l:List DV):List DV:=l
theorem EU{g:Gh}:∀{ds es:List DV} {us:List Value},aa g ds us→ds.length=es.length→(∀(i:Nat) (d e:DV),ds[i]? =some d→es[i]? =some e→e=d∨e= .any)→aa g es us:=
 fun{ds es us} h hl hs=>⟨by rw[←hl];exact h.len,fun i e u h1 h2=>by
  have hi:i<ds.length:=by rw[hl];exact(Rp.1 h1).1
  rcases hs i _ e (so hi) h1 with rfl|rfl
  ·exact h.at_ i _ u (so hi) h2
  ·exact .any u⟩
theorem je:∀(ds:List DV) (k:Nat) (js:List Nat),(qX ds k js).length=ds.length∧∀(i:Nat) (d e:DV),ds[i]? =some d→(qX ds k js)[i]? =some e→e=d∨e= .any
 |[],k,js=>⟨by simp[qX],fun i d e h=>by simp at h⟩
 |d::ds,k,[]=>by
  obtain⟨h1,h2⟩:=je ds (k+1) [];refine⟨by simp[qX,h1],fun i d' e a b=>?_⟩
  cases i with
  |zero=>simp[qX]at b;exact .inr b.symm
  |succ i=>simp[qX]at a b;exact h2 i d' e a b
 |d::ds,k,j::js=>by
  simp only[qX];split
  ·obtain⟨h1,h2⟩:=je ds (k+1) js;refine⟨by simp[h1],fun i d' e a b=>?_⟩
   cases i with
   |zero=>simp at a b;exact .inl (b.symm.trans a)
   |succ i=>simp at a b;exact h2 i d' e a b
  ·obtain⟨h1,h2⟩:=je ds (k+1) (j::js);refine⟨by simp[h1],fun i d' e a b=>?_⟩
   cases i with
   |zero=>simp at b;exact .inr b.symm
   |succ i=>simp at a b;exact h2 i d' e a b
theorem fV{g:Gh}{fr:List DV}{us:List Value}(live:List Nat)(h:aa g fr us):aa g (wk live fr) us:=
 EU h (je fr 0 live).1.symm (je fr 0 live).2
section
variable {P:Program} {w0:W0}
theorem F9(i s:Nat)(hs:0<s){c:Code}{fr:List DV}{S:St}{Q:Exit→List DV→St→Prop}{s0:Nat}(hi:fr[i]? =some (.sl s0 true []))
 (h:∀l,gx S.acc l→fK P w0 c (fr.set i (.acc l 0)) ⟨S.box,(l,.arr s [])::S.acc⟩ Q):fK P w0 c fr S Q:=by
 intro g a w h1 h2 h3;have hlt:i<a.tmps.toList.length:=by rw[←h2.len];exact(Rp.1 hi).1
 have hr:=h2.at_ i _ _ hi (so hlt);have hr':aA g (.sl s true []) a.tmps.toList[i]:=by obtain⟨o',ho'⟩:=cq hr;rw[ho'];exact .nil _ _ _ _ fun _=>rfl
 obtain⟨l,g',hle,hne,hR,hA⟩:=h1.oX hs hr' (.arr s []) (.inr ⟨rfl,rfl⟩);have hfr:=fc (h2.mono hle) (so hlt) hA;exact bC (h l (bN hne) g' a w hR hfr (hle.dk h3)) fun _ _ _ k=>k.of_le hle
end
end Aml
