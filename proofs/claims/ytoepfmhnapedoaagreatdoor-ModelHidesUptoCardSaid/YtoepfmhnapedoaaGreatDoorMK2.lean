/-
  Part 2 of the proof that the last text ends: from 'The rule for append' to 'Structs of plain cells compared'. By an AI agent.
-/
import Derived.Test.YtoepfmhnapedoaaGreatDoorMK1
import Derived.Lib.ConvBytes
import Derived.Laws.BytesArg
import Derived.Laws.StructEq
import Derived.MapKept
import Derived.Maps.RangeRun
set_option linter.unusedVariables false
set_option linter.unusedSimpArgs false
set_option maxRecDepth 100000
set_option maxHeartbeats 16000000
namespace Aml
open Go Go.RowKit
section
variable {P:Program} {w0:W0}
theorem sw{w:World}{t t' ty e:TypeId}{d':TypeDesc}{i:TypeInfo}(ht:P.underlying t=some (.slice e))(ht':P.underlying t'=some d')(hd':∀k,d'≠ .int k)(hi:P.info? e=some i)
 {base:Option Addr} {n c m:Nat} {x:Value} {new:Array Value} (hl:(Builtin.lenOf x).run P w= .ok m w) (hx:(Builtin.firstCells i.size m x).run P w= .ok new w) (hfit:n+m≤c):
 (Builtin.append_ #[t,t'] ty #[.slice base n c,x]).run P w=match base with
  |some a=>((storeCells (a.add (n*i.size)) new.toList).run P w).andThen fun _ w'=> .ok (.slice base (n+m) c) w'
  |none=> .ok (.slice none (n+m) c) w:=by
 have hzz:(match d' with| .int _=>true|_=>false)=false:=by cases d' <;>first|rfl|exact absurd rfl (hd' _)
 cases base with
 |none=>simp[Builtin.append_,run_underlying ht,run_underlying ht',hzz,Go.sizeOf,typeInfo,hi,hl,hfit,hx]
 |some a=>simp[Builtin.append_,run_underlying ht,run_underlying ht',hzz,Go.sizeOf,typeInfo,hi,hl,hfit,hx]
theorem wg{w:World}{t t' ty e:TypeId}{d':TypeDesc}{i:TypeInfo}{z:Value}(ht:P.underlying t=some (.slice e))(ht':P.underlying t'=some d')(hd':∀k,d'≠ .int k)(hi:P.info? e=some i)(hz:i.zero=some z)
 {base:Option Addr} {n c m:Nat} {x:Value} {old new:Array Value} (hl:(Builtin.lenOf x).run P w= .ok m w) (ho:(Builtin.firstCells i.size n (.slice base n c)).run P w.drew= .ok old w.drew) (hx:(Builtin.firstCells i.size m x).run P w.drew= .ok new w.drew)
 (hg:c<n+m) (h63:n+m≤maxLen) (hby:(n+m)*i.bytes≤140737488355328):
 (Builtin.append_ #[t,t'] ty #[.slice base n c,x]).run P w= .ok (.slice (some ⟨w.heap.size,0,none⟩) (n+m) (grownCap w (n+m) c e))
  (w.drew.alloc (.cells (old++new++Builtin.zeroCells z.cells (grownCap w (n+m) c e-(n+m))) e)):=by
 have hzz:(match d' with| .int _=>true|_=>false)=false:=by cases d' <;>first|rfl|exact absurd rfl (hd' _)
 have hn:¬(n+m≤c):=by omega
 have h63':¬(9223372036854775807<((n:Int)+(m:Int))):=by unfold maxLen at h63;omega
 have hfit:=growslice_fits (need:=n+m) (old:=c) (bytes:=i.bytes) hg hby;have h48':¬(281474976710656<Builtin.nextslicecap (n+m) c*i.bytes):=by omega
 simp[Builtin.append_,run_underlying ht,run_underlying ht',hzz,Go.sizeOf,typeInfo,zeroValue,hi,hz,hl,hn,h63',h48',Question.forced,ho,hx,newRow,grownCap]
def pj:TK→Bool
 | .int _=>false
 | .no=>false
 |_=>true
theorem r7{t:TypeId}(h:pj (tk P t)=true):∃d,P.underlying t=some d∧∀k,d≠ .int k:=by
 unfold tk at h;split at h <;>(try split at h) <;>first|(cases h;done)|exact⟨_,by assumption,by simp⟩
def tZ(s:Nat)(by':Nat)(S:St)(x:DV)(ys:List DV)(K:DV→St→Prop):Prop:=match x with
 | .acc l n=>match lk S.acc l with
  |some (.arr s' xs)=>s'=s∧xs.length=n∧(xs.length+ys.length)*by'≤140737488355328∧xs.length+ys.length≤maxLen∧K (.acc l (xs++ys).length) ⟨S.box,up S.acc l (.arr s (xs++ys))⟩
  |some (.tl s' xs)=>s'=s∧xs.length=n∧(xs.length+ys.length)*by'≤140737488355328∧xs.length+ys.length≤maxLen∧K (.acc l (xs++ys).length) ⟨S.box,up S.acc l (.tl s (xs++ys))⟩
  |_=>False
 | .sl _ true []=>ys.length*by'≤140737488355328∧ys.length≤maxLen∧∀l,iu S.acc l→K (.acc l ys.length) ⟨S.box,(l,.arr s ys)::S.acc⟩
 | .sl s' true xs=>s'=s∧(xs.length+ys.length)*by'≤140737488355328∧xs.length+ys.length≤maxLen∧∀l,iu S.acc l→K (.acc l (xs++ys).length) ⟨S.box,(l,.tl s (xs++ys))::S.acc⟩
 |_=>False
def iZ(k k2:TK)(S:St)(x y:DV)(K:DV→St→Prop):Prop:=match k with
 | .sl e s by' true=>pj k2=true∧iG S y fun s2 ys=>(s2=s∨ys=[])∧tZ s by' S x ys K
 |_=>False
theorem oH{α:Type}{l:List (Nat×α)}{n:Nat}{x:α}(h:lk l n=some x):up l n x=l:=by
 induction l with
 |nil=>cases h
 |cons p t ih=>
  obtain⟨k,y⟩:=p;simp only[lk]at h;simp only[up];split at h
  ·rename_i e;rw[if_pos e];simp only[Xr]at h;rw[h]
  ·rename_i e;rw[if_neg e,ih h]
theorem sc(us vs:List Value):fl (us++vs)=fl us++fl vs:=by simp[fl]
theorem oO{g:Gh}{S:St}{w:World}(h:Rel w0 g S w){l s:Nat}{ex:Bool}{xs ys:List DV}(hl:lk S.acc l=some (Gg ex s xs)){t t' ty e:TypeId}{d':TypeDesc}{i:TypeInfo}{z:Value}
 (ht:P.underlying t=some (.slice e)) (ht':P.underlying t'=some d') (hd':∀k,d'≠ .int k) (hi:P.info? e=some i) (hz:i.zero=some z) (hzs:z.cells.size=i.size) (his:i.size=s) (hz1:∀x,x∈z.cells.toList→x.oneCell'=true)
 {sv x:Value} (hs:az g (.acc l xs.length) sv) {vs:List Value} (hv:ae g ys vs) (hvz:∀(i:Nat) (u:Value),vs[i]? =some u→u.cells.size=s) (hv1:∀(u:Value),u∈vs→∀x,x∈u.cells.toList→x.oneCell'=true)
 (hlx:∀w':World,(Builtin.lenOf x).run P w'= .ok ys.length w') (hx:∀w',(∀p,w'.cell? p=w.cell? p)→(Builtin.firstCells s ys.length x).run P w'= .ok (fl vs).toArray w')
 (hby:(xs.length+ys.length)*i.bytes≤140737488355328) (hmx:xs.length+ys.length≤maxLen):
 ∃u w' g',(Builtin.append_ #[t,t'] ty #[sv,x]).run P w= .ok u w'∧g.le g'∧Rel w0 g' ⟨S.box,up S.acc l (Gg ex s (xs++ys))⟩ w'∧az g' (.acc l (xs++ys).length) u:=by
 obtain⟨ow,ho⟩:=h.open_;obtain⟨o,c,hv',ha⟩:=dM hs;subst hv';have hob:Gg ex s xs= .arr s xs∨Gg ex s xs= .tl s xs:=by cases ex;exact .inr rfl;exact .inl rfl
 obtain⟨hpos,us,a,c',q1,q2,q3,q4,q5,q6,q7⟩:=ho.iE hl hob ha;simp only[Value.slice.injEq,true_and]at q1;obtain⟨rfl,rfl⟩:=q1;have hul:us.length=xs.length:=q2.len.symm;have hvl:vs.length=ys.length:=hv.len.symm;have hx':(Builtin.firstCells i.size ys.length x).run P w= .ok (fl vs).toArray w:=by rw[his];exact hx w fun _=>rfl
 have hsz:∀(i:Nat) (u:Value),(us++vs)[i]? =some u→u.cells.size=s:=by
  intro i u hu;rw[List.getElem?_append]at hu;split at hu
  ·exact q3 _ _ hu
  ·exact hvz _ _ hu
 have hone:∀(u:Value),u∈us++vs→∀x,x∈u.cells.toList→x.oneCell'=true:=by
  intro u hu;rcases Xh.1 hu with hu|hu
  ·exact q4 u hu
  ·exact hv1 u hu
 by_cases hy0:ys=[]
 ·subst hy0;have hvs:vs=[]:=Xn (by simpa using hvl);subst hvs;have hr:=sw (w:=w) (ty:=ty) (base:=o) (n:=xs.length) (c:=c) ht ht' hd' hi (hlx w) hx' (by simpa using q5);refine⟨.slice o xs.length c,w,g,?_,.refl g,?_,?_⟩
  ·rw[hr];cases o <;>simp[fl,storeCells]
  ·rw[Yo,oH hl];exact h
  ·rw[Yo];exact hs
 ·have hypos:0<ys.length:=Yn.2 hy0;have hlt:(Gg ex s xs).len<(xs++ys).length:=by rw[Aj];simp;omega
  have hoff:∀i j,i*s+j+xs.length*s=(i+xs.length)*s+j:=by intro i j;rw[Y5];omega
  by_cases hfit:xs.length+ys.length≤c
  ·
   rcases q7 with q7|⟨b,cs,e',rfl,q8,q9,q10,q11,q12,q13,q14,qA⟩
   ·omega
   ·have hr:=sw (w:=w) (ty:=ty) (base:=some ⟨b,0,none⟩) (n:=xs.length) (c:=c) ht ht' hd' hi (hlx w) hx' hfit;simp only[add_plain,Yb,his]at hr;have hfl:(fl vs).length=ys.length*s:=by rw[fR hvz,hvl]
    have hroom:xs.length*s+(fl vs).length≤cs.size:=by
     rw[hfl,q11,←Y5];exact XL s hfit
    have hst:=run_storeCells_at (P:=P) b (xs.length*s) e' (fl vs) 0 cs w q10 (by omega) (mV hv1);simp only[YJ]at hst;rw[hst]at hr
    have hrow:cs.toList.take (xs.length*s)++fl vs++cs.toList.drop (xs.length*s+(fl vs).length)=aF cs.toList (xs.length*s) (fl vs):=by
     rw[cG _ _ _ (by simpa using hroom)]
    rw[hrow]at hr
    obtain⟨g',hle,hR,hA⟩:=ho.Ee (w':=w.setRow b (aF cs.toList (xs.length*s) (fl vs)).toArray) hpos hl ex (xs:=xs++ys) (us:=us++vs) (b:=b) (c:=c) (e:=e') (cs:=(aF cs.toList (xs.length*s) (fl vs)).toArray)
     hlt q9 (.inl q8) (setRow_heap w b cs _ e' (0,0) q10) (by simpa[jt]using q11) (by simpa using hfit) q12 (q2.append hv) hsz hone
     (fun i u j x h1 h2=>by
      have hj:j<s:=by rw[←hsz i u h1];exact(W9.1 h2).1
      rw[show((aF cs.toList (xs.length*s) (fl vs)).toArray)[i*s+j]? =(aF cs.toList (xs.length*s) (fl vs))[i*s+j]? by simp];rw[fj (by simpa using hroom),hfl];rw[List.getElem?_append]at h1;split at h1
      ·rename_i hi';have:i*s+j<xs.length*s:=lt_mul (by omega) hj;rw[if_neg (by omega)];rw[XX];exact q13 i u j x h1 h2
      ·rename_i hi';have hi2:i-us.length<vs.length:=(W6.1 h1).1
       have e2:i*s+j=xs.length*s+((i-us.length)*s+j):=by
        have:i*s=xs.length*s+(i-us.length)*s:=by rw[←Y5];congr 1;omega
        omega
       have e3:(i-us.length)*s+j<ys.length*s:=lt_mul (by omega) hj;rw[if_pos ⟨by omega,by omega⟩];rw[show i*s+j-xs.length*s=(i-us.length)*s+j by omega];exact Fk hvz h1 h2)
     (fun he x hx=>by
      rw[Yi,cG _ _ _ (by simpa using hroom)]at hx;rcases Xh.1 hx with hx|hx
      ·rcases Xh.1 hx with hx|hx
       ·exact qA (by subst he;rfl) x (X5 hx)
       ·exact mV hv1 x hx
      ·exact qA (by subst he;rfl) x (XN hx))
     (fun k u hu=>by
      obtain⟨he,hk⟩:=q14 k u hu;have hex:ex=false:=by cases ex;rfl;cases he
      have hcell:=h.aN _ _ _ hu;rw[bA q10]at hcell;refine⟨hex,by simp only[Xj,Y5];omega,?_⟩;rw[show((aF cs.toList (xs.length*s) (fl vs)).toArray)[k]? =(aF cs.toList (xs.length*s) (fl vs))[k]? by simp];rw[fj (by simpa using hroom),if_neg (by omega),XX];exact hcell)
     (h.below.step ⟨rfl,rfl,rfl,by simp,fun k hk=>setRow_other w b k _ (by omega),Xa _⟩ b (kc q10) fun k _ hne=>setRow_other w b k _ hne) (by simp) (fun k hk hne=>setRow_other w b k _ hne)
    refine⟨_,_,g',hr,hle,hR,?_⟩;have e4:(xs++ys).length=xs.length+ys.length:=by simp
    rw[e4]at hA ⊢;exact hA
  ·
   have hold:(Builtin.firstCells i.size xs.length (.slice o xs.length c)).run P w.drew= .ok (fl us).toArray w.drew:=by
    rw[his];have e1:us=[]↔xs=[]:=by rw[←Yz,←Yz,hul]
    exact mq (w:=w) (xs:=xs) hul q3 (by rcases q6 with q6|⟨b,o',e,_,q6⟩;exact .inl (e1.2 q6);exact .inr ⟨b,o',e,q6⟩) w.drew (fun _=>rfl) s (.inl rfl)
   have hnew:(Builtin.firstCells i.size ys.length x).run P w.drew= .ok (fl vs).toArray w.drew:=by rw[his];exact hx w.drew fun _=>rfl
   have hr:=wg (w:=w) (ty:=ty) (base:=o) (n:=xs.length) (c:=c) ht ht' hd' hi hz (hlx w) hold hnew (by omega) hmx hby;have hcap:=grownCap_ge w (xs.length+ys.length) c e;have hcm:=grownCap_le_maxLen w (xs.length+ys.length) c e hmx;generalize hC:grownCap w (xs.length+ys.length) c e=C at*;have hfl:(fl us++fl vs).length=(xs.length+ys.length)*s:=by rw[←sc,fR hsz];simp[hul,hvl]
   have hcells:((fl us).toArray++(fl vs).toArray++Builtin.zeroCells z.cells (C-(xs.length+ys.length))).size=C*s:=by
    have h0:(Builtin.zeroCells z.cells (C-(xs.length+ys.length))).size=(C-(xs.length+ys.length))*s:=by rw[size_zeroCells,hzs,his]
    simp only[Array.size_append,h0,Zi];rw[←Xj,hfl,←Y5];congr 1;omega
   obtain⟨g',hle,hR,hA⟩:=ho.Ee (w':=w.drew.alloc (.cells ((fl us).toArray++(fl vs).toArray++Builtin.zeroCells z.cells (C-(xs.length+ys.length))) e)) hpos hl ex (xs:=xs++ys) (us:=us++vs) (b:=w.heap.size) (c:=C) (e:=e)
    (cs:=(fl us).toArray++(fl vs).toArray++Builtin.zeroCells z.cells (C-(xs.length+ys.length)))
    hlt h.below.size (.inr (Xa _)) (heap_alloc_new w.drew _) hcells (by simpa using hcap) hcm (q2.append hv) hsz hone
    (fun i u j x h1 h2=>by
     have hj:j<s:=by rw[←hsz i u h1];exact(W9.1 h2).1
     have hi2:i<(us++vs).length:=(W6.1 h1).1;have hlt2:i*s+j<(xs.length+ys.length)*s:=lt_mul (by rw[Xj,hul,hvl]at hi2;exact hi2) hj;have:=Fk hsz h1 h2;rw[sc]at this;rw[Array.getElem?_append_left (by simp only[Array.size_append,Zi];rw[←Xj,hfl];exact hlt2)];rw[←XX];simpa using this)
    (fun he x hx=>by
     simp only[YB,Xh,Yi]at hx;rcases hx with(hx|hx)|hx
     ·exact mV q4 x hx
     ·exact mV hv1 x hx
     ·exact bN hz1 _ x hx)
    (fun k u hu=>by have:=World.block_lt_of_cell? w _ (h.aN _ _ _ hu);simp at this)
    (h.below.grow ((gE.refl _ _).drew.alloc (by simp) _)) (by simp) (fun k hk hne=>heap_alloc_old w.drew _ hk)
   refine⟨_,_,g',hr,hle,hR,?_⟩;have e4:(xs++ys).length=xs.length+ys.length:=by simp
   rw[e4]at hA ⊢;exact hA
theorem GQ{o:Oper}{t t':TypeId}{x y:Operand}(ho:o.op= .call {callee:= .builtin .append,args:= #[x,y],argTypes:= #[t,t']}){ρD:Operand→DV}{S:St}{K:DV→St→Prop}
 (h:iZ (tk P t) (tk P t') S (ρD x) (ρD y) K):ah P w0 o ρD S K:=by
 intro g w ρ h1 h2 hcst;have hx:=h2 x (by simp[ho,Op.operands,Call.operands]);have hy:=h2 y (by simp[ho,Op.operands,Call.operands]);unfold iZ at h;split at h
 ·rename_i e s by' hk;obtain⟨hni,h⟩:=h;obtain⟨hu,hcs,hbs,hei⟩:=cO hk;obtain⟨d',hu',hd'⟩:=r7 hni;obtain⟨ti,z,hi,hz,hzs,hpos⟩:=bV hei;have his:ti.size=s:=by simpa[Program.cellsOf,hi]using hcs
  have hib:ti.bytes=by':=by simpa[Program.bytesOf,hi]using hbs
  obtain⟨s2,ys,vs,⟨hs2,hK⟩,hv,hvz,hv1,hlx,hfx⟩:=s9 (P:=P) h1 hy h
  have hvz':∀(i:Nat) (u:Value),vs[i]? =some u→u.cells.size=s:=by
   rcases hs2 with rfl|rfl
   ·exact hvz
   ·have:vs=[]:=Xn hv.len.symm;subst this;simp
  have hfx':∀w',(∀p,w'.cell? p=w.cell? p)→(Builtin.firstCells s ys.length (ρ y)).run P w'= .ok (fl vs).toArray w':=fun w' hw'=>hfx w' hw' s (hs2.imp Eq.symm id)
  have fin:∀{u:Value} {w':World} {g':Gh} {d:DV} {S':St},(Builtin.append_ #[t,t'] o.type #[ρ x,ρ y]).run P w= .ok u w'→g.le g'→Rel w0 g' S' w'→az g' d u→K d S'→
   match(execOp ρ o).run P w with
   | .ok (.value u) w'=>∃g' d S',g.le g'∧Rel w0 g' S' w'∧az g' d u∧K d S'
   | .ok .skip w'=>∃g' S',g.le g'∧Rel w0 g' S' w'∧K ud S'
   | .ok (.enter f args) w'=>Calls P f args w' (Ends w0 g K)
   | .ok (.round l f tmps assign body) w'=>∀ro,RoundIn (fz ro) 0 P l f tmps assign body w' (Ends w0 g K)
   | .halt (.panic v) w'=>(∀c,o.op≠ .defer c)∧∃g' d S',g.le g'∧Rel w0 g' S' w'∧az g' d v∧w0.pq d S'
   |_=>False:=by
   intro u w' g' d S' hr hle hR hd hk;have:(execOp ρ o).run P w= .ok (.value u) w':=by simp[execOp,ho,resolve,invoke,builtin,hr]
   rw[this];exact⟨g',d,S',hle,hR,hd,hk⟩
  unfold tZ at hK;split at hK
  ·rename_i l n hxe;split at hK
   ·rename_i s' xs hl;obtain⟨rfl,rfl,hby,hmx,hK⟩:=hK;rw[hxe]at hx;obtain⟨u,w',g',hr,hle,hR,hA⟩:=oO (P:=P) (ex:=true) (ty:=o.type) h1 hl hu hu' hd' hi hz hzs his (cV hei hi hz) hx hv hvz' hv1 hlx hfx' (by rw[hib];exact hby) hmx;exact fin hr hle hR hA hK
   ·rename_i s' xs hl;obtain⟨rfl,rfl,hby,hmx,hK⟩:=hK;rw[hxe]at hx;obtain⟨u,w',g',hr,hle,hR,hA⟩:=oO (P:=P) (ex:=false) (ty:=o.type) h1 hl hu hu' hd' hi hz hzs his (cV hei hi hz) hx hv hvz' hv1 hlx hfx' (by rw[hib];exact hby) hmx;exact fin hr hle hR hA hK
   ·exact hK.elim
  ·rename_i s0 hxe;rw[hxe]at hx;obtain⟨hby,hmx,hK⟩:=hK;have hx:az g (.sl s true []) (ρ x):=by obtain⟨o',ho'⟩:=cC hx;rw[ho'];exact .nil _ _ _ _ fun _=>rfl
   obtain⟨l,g1,hle1,hne,hR1,hA1⟩:=h1.pU (s:=s) (by omega) hx (.arr s []) (.inr ⟨rfl,rfl⟩);obtain⟨u,w',g',hr,hle,hR,hA⟩:=oO (P:=P) (ex:=true) (xs:=[]) (ty:=o.type) hR1 (by simp[lk,Gg]) hu hu' hd' hi hz hzs his (cV hei hi hz) hA1 (hv.mono hle1) hvz' hv1 hlx hfx' (by rw[hib];simpa using hby) (by simpa using hmx);refine fin hr (hle1.trans hle) hR hA ?_;simpa[up,Gg]using hK l (cg hne)
  ·rename_i s0 xs _ hxe;rw[hxe]at hx;obtain⟨rfl,hby,hmx,hK⟩:=hK;obtain⟨l,g1,hle1,hne,hR1,hA1⟩:=h1.pU (s:=s0) (by omega) hx (.tl s0 xs) (.inl rfl);obtain⟨u,w',g',hr,hle,hR,hA⟩:=oO (P:=P) (ex:=false) (xs:=xs) (ty:=o.type) hR1 (by simp[lk,Gg]) hu hu' hd' hi hz hzs his (cV hei hi hz) hA1 (hv.mono hle1) hvz' hv1 hlx hfx' (by rw[hib];exact hby) hmx;refine fin hr (hle1.trans hle) hR hA ?_;simpa[up,Gg]using hK l (cg hne)
  ·exact hK.elim
 ·exact h.elim
end
end Aml
namespace Aml
open Go Go.RowKit
def jy(S:St)(d:DV)(K:DV→St→Prop):Prop:=match d with
 | .acc l n=>match lk S.acc l with
  |some (.arr s xs)=>xs.length=n∧K (.sl s false xs) ⟨S.box,up S.acc l (.tl s xs)⟩
  |some (.tl s xs)=>xs.length=n∧K (.sl s false xs) S
  |_=>False
 |d=>K d S
def jZ(S:St):List DV→(List DV→St→Prop)→Prop
 |[],K=>K [] S
 |d::ds,K=>jy S d fun e S=>jZ S ds fun es S=>K (e::es) S
def shr(S:St)(d:DV)(K:DV→St→Prop):Prop:=match d with
 | .agg ds=>jZ S ds fun ds S=>K (.agg ds) S
 |d=>jy S d K
def e9(S:St):List DV→(List DV→St→Prop)→Prop
 |[],K=>K [] S
 |d::ds,K=>shr S d fun e S=>e9 S ds fun es S=>K (e::es) S
def ot(S:St)(d:DV)(K:DV→St→Prop):Prop:=match d with
 | .cQ ds=>e9 S ds fun ds S=>K (.cQ ds) S
 |d=>shr S d K
section
variable {P:Program} {w0:W0}
theorem Rel.freeze{g:Gh}{S:St}{w:World}(h:Rel w0 g S w){l s:Nat}{xs:List DV}(hl:lk S.acc l=some (.arr s xs)){u:Value}(hu:g.acc l xs.length=some u):
 ∃g',g.le g'∧Rel w0 g' ⟨S.box,up S.acc l (.tl s xs)⟩ w∧az g' (.sl s false xs) u:=by
 obtain⟨ow,ho⟩:=h.open_;have hmem:=bU hl;obtain⟨hs,⟨he,o,ha⟩|⟨b,c,cs,e,h1,h2,h3,h4,h5,h6,h7,h8,hA,us,h9,h10,h11,h12⟩⟩:=ho.acc l _ hmem
 ·subst he;rw[show([]:List DV).length=0 from rfl,ha]at hu;cases hu;refine⟨g,.refl g,dE.close (ow:=ow) ⟨ho.below,ho.aN,ho.nb,by rw[lB];exact ho.na,ho.dD,ho.fresh,?_,ho.box,?_,ho.mA⟩,.nil _ _ _ _ fun x=>by cases x⟩
  ·intro l' o' hl' k hk;rcases fA ho.na hl' with e|⟨hm,hne⟩
   ·simp only[XR]at e;obtain⟨rfl,rfl⟩:=e;exact ho.top _ _ hmem k hk
   ·exact ho.top _ _ hm k hk
  ·intro l' o' hl';rcases fA ho.na hl' with e|⟨hm,hne⟩
   ·simp only[XR]at e;obtain⟨rfl,rfl⟩:=e;exact⟨hs,.inl ⟨_,ha,.nil _ _ _ _ fun _=>rfl⟩⟩
   ·exact ho.acc _ _ hm
 ·rw[h1]at hu;cases hu;let f:Nat→Option Value:=fun i=>if i<xs.length*s then cs[i]? else none
  have hle:g.le (g.aT b f):=Gh.fZ fun i u hu=>by rw[h4]at hu;cases hu
  have hlen:us.length=xs.length:=h9.len.symm
  have hrep:az (g.aT b f) (.sl s false xs) (.slice (some ⟨b,0,none⟩) xs.length c):=by
   have:=az.sl (g:=g.aT b f) s false xs b 0 c us hlen.symm (by simp) (by omega) h8 (h9.mono hle).at_ h10 h11 (fun i u j x a1 a2=>by
    simp only[Gh.aT,if_true,Yb,f];have hj:j<s:=by rw[←h10 i u a1];exact(W9.1 a2).1
    have hi:i<us.length:=(W6.1 a1).1;rw[if_pos (lt_mul (by omega) hj)];exact h12 i u j x a1 a2)
   rwa [hlen]at this
  refine⟨g.aT b f,hle,dE.close (ow:=ow) ⟨ho.below.le hle,?_,ho.nb,by rw[lB];exact ho.na,ho.dD,ho.fresh,?_,?_,?_,ho.mA⟩,hrep⟩
  ·intro b' i u hu;simp only[Gh.aT]at hu;split at hu
   ·rename_i e';subst e';simp only[f]at hu;split at hu
    ·rw[bA h5];exact hu
    ·cases hu
   ·exact ho.aN _ _ _ hu
  ·intro l' o' hl' k hk;rcases fA ho.na hl' with e|⟨hm,hne⟩
   ·simp only[XR]at e;obtain⟨rfl,rfl⟩:=e;exact ho.top _ _ hmem k hk
   ·exact ho.top _ _ hm k hk
  ·intro b' ds hb';refine(ho.box b' ds hb').step hle fun x=>⟨x,rfl,fun i hi=>?_⟩;have:b'≠b:=by rintro rfl;rw[h2]at x;cases x
   simp only[Gh.aT,if_neg this];exact hi
  ·intro l' o' hl';rcases fA ho.na hl' with e'|⟨hm,hne⟩
   ·simp only[XR]at e';obtain⟨rfl,rfl⟩:=e';refine⟨hs,.inr ⟨b,c,cs,e,h1,h2,h3,fun i hi=>?_,h5,h6,h7,h8,hrep⟩⟩;simp only[Gh.aT,if_true,f];rw[if_neg (by omega)]
   ·refine(ho.acc _ _ hm).step hle fun b' x=>⟨x,rfl,fun i hi=>?_⟩;have:b'≠b:=by rintro rfl;rw[h2]at x;simp at x;exact hne x.symm
    simp only[Gh.aT,if_neg this];exact hi
theorem sU{g:Gh}{S:St}{w:World}(h:Rel w0 g S w){d:DV}{u:Value}(r:az g d u){K:DV→St→Prop}(hk:jy S d K):∃g' d' S',g.le g'∧Rel w0 g' S' w∧az g' d' u∧K d' S':=by
 unfold jy at hk;split at hk
 ·rename_i l n;obtain⟨o,c,hv,ha⟩:=dM r;split at hk
  ·rename_i s xs hl;obtain⟨rfl,hk⟩:=hk;obtain⟨g',hle,hR,hr⟩:=h.freeze hl (hv▸ha);exact⟨g',_,_,hle,hR,hr,hk⟩
  ·rename_i s xs hl;obtain⟨rfl,hk⟩:=hk;obtain⟨ow,ho⟩:=h.open_;obtain⟨hs,⟨u',ha',r'⟩|⟨b,c',cs,e,h1,h2,h3,h4,h5,h6,h7,h8,r'⟩⟩:=ho.acc l _ (bU hl)
   ·rw[ha]at ha';cases ha';refine⟨g,.sl s false xs,S,.refl g,h,?_,hk⟩;rw[hv];rcases fD r' with⟨he,o',c',hv',_⟩|⟨b,o',c',us,hv',hr,hfl,hlc,hcm,hzz,hone,hc⟩
    ·rw[hv',he];exact .nil _ _ _ _ fun x=>by cases x
    ·rw[hv'];have hlen:us.length=xs.length:=hr.len.symm;have:=az.sl (g:=g) s false xs b o' c' us hlen.symm (by simp) (by omega) hcm hr.at_ hzz hone hc
     rwa [hlen]at this
   ·rw[ha]at h1;cases h1;exact⟨g,.sl s false xs,S,.refl g,h,by rw[hv];exact r',hk⟩
  ·exact hk.elim
 ·exact⟨g,d,S,.refl g,h,r,hk⟩
theorem wB:∀(ds:List DV) {g:Gh} {S:St} {w:World} (h:Rel w0 g S w) {us:List Value} (r:ae g ds us) {K:List DV→St→Prop} (hk:jZ S ds K),∃g' ds' S',g.le g'∧Rel w0 g' S' w∧ae g' ds' us∧K ds' S'
 |[],g,S,w,h,us,r,K,hk=>by
  have:us=[]:=Xn r.len.symm;subst this;exact⟨g,[],S,.refl g,h,ae.nil g,hk⟩
 |d::ds,g,S,w,h,us,r,K,hk=>by
  obtain⟨u,us',rfl,hu,hr⟩:=r.cM;obtain⟨g1,d',S1,l1,R1,r1,k1⟩:=sU h hu hk;obtain⟨g2,ds',S2,l2,R2,r2,k2⟩:=wB ds R1 (hr.mono l1) k1;exact⟨g2,d'::ds',S2,l1.trans l2,R2,ae.cons (r1.mono l2) r2,k2⟩
theorem jI{g:Gh}{S:St}{w:World}(h:Rel w0 g S w){d:DV}{u:Value}(r:az g d u){K:DV→St→Prop}(hk:shr S d K):∃g' d' S',g.le g'∧Rel w0 g' S' w∧az g' d' u∧K d' S':=by
 unfold shr at hk;split at hk
 ·obtain⟨us,rfl,hr,h1⟩:=kp r;obtain⟨g',ds',S',l1,R1,r1,k1⟩:=wB _ h hr hk;exact⟨g',_,S',l1,R1,.agg _ _ r1.len r1.at_ h1,k1⟩
 ·exact sU h r hk
theorem gT:∀(ds:List DV) {g:Gh} {S:St} {w:World} (h:Rel w0 g S w) {us:List Value} (r:ae g ds us) {K:List DV→St→Prop} (hk:e9 S ds K),∃g' ds' S',g.le g'∧Rel w0 g' S' w∧ae g' ds' us∧K ds' S'
 |[],g,S,w,h,us,r,K,hk=>by
  have:us=[]:=Xn r.len.symm;subst this;exact⟨g,[],S,.refl g,h,ae.nil g,hk⟩
 |d::ds,g,S,w,h,us,r,K,hk=>by
  obtain⟨u,us',rfl,hu,hr⟩:=r.cM;obtain⟨g1,d',S1,l1,R1,r1,k1⟩:=jI h hu hk;obtain⟨g2,ds',S2,l2,R2,r2,k2⟩:=gT ds R1 (hr.mono l1) k1;exact⟨g2,d'::ds',S2,l1.trans l2,R2,ae.cons (r1.mono l2) r2,k2⟩
theorem Ac{g:Gh}{S:St}{w:World}(h:Rel w0 g S w){d:DV}{u:Value}(r:az g d u){K:DV→St→Prop}(hk:ot S d K):∃g' d' S',g.le g'∧Rel w0 g' S' w∧az g' d' u∧K d' S':=by
 unfold ot at hk;split at hk
 ·obtain⟨us,rfl,hr⟩:=zR r;obtain⟨g',ds',S',l1,R1,r1,k1⟩:=gT _ h hr hk;exact⟨g',_,S',l1,R1,.cQ _ _ r1.len r1.at_,k1⟩
 ·exact jI h r hk
def okF(P:Program)(f:FuncId):Bool:=match P.funcs[f]? with
 |some fn=>fn.body.isSome&&!(fn.name== "runtime.NumGoroutine")
 |none=>false
theorem JH{o:Oper}{f:FuncId}{args:List Operand}{ts:Array TypeId}{cal:Operand}(ho:o.op= .call {callee:= .value cal,args:=args.toArray,argTypes:=ts}){ρD:Operand→DV}{S:St}{K:DV→St→Prop}
 {cap:List Value} (hcal:ρD cal= .v (.func (.func f) #[] cap.toArray)) (hf:okF P f=true) (h:(aa P w0 f (args.map ρD++cap.map .v) S K)∨e9 S (args.map ρD) fun ds S=>aa P w0 f (ds++cap.map .v) S K) (hcap:∀u,u∈cap→u.oneCell'=true):ah P w0 o ρD S K:=by
 intro g w ρ h1 h2 hcst;have hc:=h2 cal (by simp[ho,Op.operands,Call.operands]);rw[hcal]at hc;have hv:=aj hc;have hargs:=cc (g:=g) (ρD:=ρD) (ρ:=ρ) args (fun p hp=>h2 p (by simp[ho,Op.operands,Call.operands,hp]));unfold okF at hf;split at hf
 ·rename_i fn hfn;simp only[W8,XE]at hf;obtain⟨hb,hname⟩:=hf
  have hrun:(execOp ρ o).run P w= .ok (.enter f ((args.map ρ)++cap).toArray) w:=by
   have hbn:¬fn.body=none:=by intro e;simp[e]at hb
   have hname':¬fn.name= "runtime.NumGoroutine" :=by simpa using hname
   simp[execOp,ho,resolve,hv,Deferred.ofValue,invoke,callFunc,hfn,hname',hbn]
  rw[hrun]
  obtain⟨g1,ds,S1,l1,R1,r1,k1⟩:∃g1 ds S1,g.le g1∧Rel w0 g1 S1 w∧ae g1 ds (args.map ρ)∧aa P w0 f (ds++cap.map .v) S1 K:=by
   rcases h with h|h
   ·exact⟨g,_,S,.refl g,h1,hargs,h⟩
   ·exact gT _ h1 hargs h
  have hcapR:ae g1 (cap.map .v) cap:=⟨by simp,fun i d u a1 a2=>by
   simp only[Xd,Xb]at a1;obtain⟨u',a1,rfl⟩:=a1;rw[a2]at a1;cases a1;exact .v _ (hcap _ (W7 a2))⟩
  refine(k1 g1 _ w R1 (by simpa using r1.append hcapR)).mono ?_;exact fun e w' k=>k.mono l1 fun _ _ x=>x
 ·cases hf
theorem En{o:Oper}{f:FuncId}{args:List Operand}{ts:Array TypeId}{cal:Operand}(ho:o.op= .call {callee:= .value cal,args:=args.toArray,argTypes:=ts}){ρD:Operand→DV}{S:St}{K:DV→St→Prop}
 {fst cap:List Value} (hcal:ρD cal= .v (.func (.func f) fst.toArray cap.toArray)) (hf:okF P f=true) (h:(aa P w0 f (fst.map .v++(args.map ρD++cap.map .v)) S K)∨e9 S (args.map ρD) fun ds S=>aa P w0 f (fst.map .v++(ds++cap.map .v)) S K) (hfst:∀u,u∈fst→u.oneCell'=true) (hcap:∀u,u∈cap→u.oneCell'=true):ah P w0 o ρD S K:=by
 intro g w ρ h1 h2 hcst;have hc:=h2 cal (by simp[ho,Op.operands,Call.operands]);rw[hcal]at hc;have hv:=aj hc;have hargs:=cc (g:=g) (ρD:=ρD) (ρ:=ρ) args (fun p hp=>h2 p (by simp[ho,Op.operands,Call.operands,hp]));unfold okF at hf;split at hf
 ·rename_i fn hfn;simp only[W8,XE]at hf;obtain⟨hb,hname⟩:=hf
  have hrun:(execOp ρ o).run P w= .ok (.enter f (fst++((args.map ρ)++cap)).toArray) w:=by
   have hbn:¬fn.body=none:=by intro e;simp[e]at hb
   have hname':¬fn.name= "runtime.NumGoroutine" :=by simpa using hname
   simp[execOp,ho,resolve,hv,Deferred.ofValue,invoke,callFunc,hfn,hname',hbn]
  rw[hrun]
  obtain⟨g1,ds,S1,l1,R1,r1,k1⟩:∃g1 ds S1,g.le g1∧Rel w0 g1 S1 w∧ae g1 ds (args.map ρ)∧aa P w0 f (fst.map .v++(ds++cap.map .v)) S1 K:=by
   rcases h with h|h
   ·exact⟨g,_,S,.refl g,h1,hargs,h⟩
   ·exact gT _ h1 hargs h
  have one:∀{l:List Value},(∀u,u∈l→u.oneCell'=true)→ae g1 (l.map .v) l:=fun{l} hl=>⟨by simp,fun i d u a1 a2=>by
   simp only[Xd,Xb]at a1;obtain⟨u',a1,rfl⟩:=a1;rw[a2]at a1;cases a1;exact .v _ (hl _ (W7 a2))⟩
  refine(k1 g1 _ w R1 (by simpa using(one hfst).append (r1.append (one hcap)))).mono ?_;exact fun e w' k=>k.mono l1 fun _ _ x=>x
 ·cases hf
def Iz(P:Program)(t:TypeId)(name:String):Option FuncId:=match tk P t,P.info? t with
 | .st _ _,some i=>(match i.methods.find? (·.name==name)with
  |some m=>(match m.path.toList,m.func with
   |[],some (f,false)=>some f
   |_,_=>none)
  |none=>none)
 |_,_=>none
theorem za{t:TypeId}{name:String}{f:FuncId}(h:Iz P t name=some f)(v:Value)(n:Nat)(w:World):(Go.method (n+1) t v name).run P w= .ok (f,v) w:=by
 unfold Iz at h;split at h
 ·rename_i fs sz i hk hi;obtain⟨F,i',hu,_,_,_,_⟩:=zL hk;split at h
  ·rename_i m hm;split at h
   ·rename_i f' hp hf;cases h
    have hr:∀o,(Go.receiverAt t (.val v) false o).run P w= .ok v w:=fun o=>by
     simp[Go.receiverAt,run_underlying hu,Go.Place.get]
    simp[Go.method,typeInfo,hi,hm,hp,hf,Go.follow,hr]
   ·cases h
  ·cases h
 ·cases h
theorem EX{o:Oper}{f:FuncId}{args:List Operand}{ts:Array TypeId}{r:Operand}{name:String}(ho:o.op= .call {callee:= .invoke r name,args:=args.toArray,argTypes:=ts}){ρD:Operand→DV}{S:St}{K:DV→St→Prop}
 {t:TypeId} (hr:ρD r= .im t (.agg [])) (hi:Iz P t name=some f) (hf:okF P f=true) (h:(aa P w0 f (.agg []::args.map ρD) S K)∨e9 S (.agg []::args.map ρD) fun ds S=>aa P w0 f ds S K):ah P w0 o ρD S K:=by
 intro g w ρ h1 h2 hcst;have hc:=h2 r (by simp[ho,Op.operands,Call.operands]);rw[hr]at hc;obtain⟨u,hv,hu⟩:=kx hc;have hargs:=cc (g:=g) (ρD:=ρD) (ρ:=ρ) args (fun p hp=>h2 p (by simp[ho,Op.operands,Call.operands,hp]));unfold okF at hf;split at hf
 ·rename_i fn hfn;simp only[W8,XE]at hf;obtain⟨hb,hname⟩:=hf
  have hrun:(execOp ρ o).run P w= .ok (.enter f (u::args.map ρ).toArray) w:=by
   have hbn:¬fn.body=none:=by intro e;simp[e]at hb
   have hname':¬fn.name= "runtime.NumGoroutine" :=by simpa using hname
   have hm:(Go.method (P.types.size+Made.depth) t u name).run P w= .ok (f,u) w:=za hi u (P.types.size+99) w;simp[execOp,ho,resolve,hv,invoke,callMethod,hm,callFunc,hfn,hname',hbn];exact XF (by simp)
  rw[hrun]
  obtain⟨g1,ds,S1,l1,R1,r1,k1⟩:∃g1 ds S1,g.le g1∧Rel w0 g1 S1 w∧ae g1 ds (u::args.map ρ)∧aa P w0 f ds S1 K:=by
   rcases h with h|h
   ·exact⟨g,_,S,.refl g,h1,ae.cons hu hargs,h⟩
   ·exact gT _ h1 (ae.cons hu hargs) h
  refine(k1 g1 _ w R1 (by simpa using r1)).mono ?_;exact fun e w' k=>k.mono l1 fun _ _ x=>x
 ·cases hf
def zO(P:Program)(w0:W0)(l:Nat)(args:List DV)(S:St)(K:DV→St→Prop):Prop:=
 ∀g (vs:Array Value) w,Rel w0 g S w→ae g args vs.toList→∃fn tmps assign body,(Instr.yield l vs).run P w= .ok (.round l fn tmps assign body) w∧
  ∀ro,RoundIn (fz ro) 0 P l fn tmps assign body w (Ends w0 g K)
theorem IE{o:Oper}{l:Nat}{args:List Operand}{ts:Array TypeId}{cal:Operand}(ho:o.op= .call {callee:= .value cal,args:=args.toArray,argTypes:=ts}){ρD:Operand→DV}{S:St}{K:DV→St→Prop}
 (hcal:ρD cal= .v (.func (.yield l) #[] #[])) (h:e9 S (args.map ρD) fun ds S=>zO P w0 l ds S K):ah P w0 o ρD S K:=by
 intro g w ρ h1 h2 hcst;have hc:=h2 cal (by simp[ho,Op.operands,Call.operands]);rw[hcal]at hc;have hv:=aj hc;have hargs:=cc (g:=g) (ρD:=ρD) (ρ:=ρ) args (fun p hp=>h2 p (by simp[ho,Op.operands,Call.operands,hp]));obtain⟨g1,ds,S1,l1,R1,r1,k1⟩:=gT _ h1 hargs h;obtain⟨fn,tmps,assign,body,q1,q2⟩:=k1 g1 (args.map ρ).toArray w R1 (by simpa using r1)
 have hrun:(execOp ρ o).run P w= .ok (.round l fn tmps assign body) w:=by
  rw[←q1];simp[execOp,ho,resolve,hv,Deferred.ofValue,invoke]
 rw[hrun];intro ro;exact(q2 ro).mono fun e w' k=>k.mono l1 fun _ _ x=>x
def nU(P:Program)(fr:List DV)(S:St)(K:DV→Prop):ResultVar→Prop
 | .tmp t=>K (fr.getD t ud)
 | .cell a t=>ck (tk P t) S (fr.getD a ud) K
def qv(P:Program)(fr:List DV)(S:St):List ResultVar→(List DV→Prop)→Prop
 |[],K=>K []
 |r::rs,K=>nU P fr S (fun d=>qv P fr S rs fun ds=>K (d::ds)) r
def kJ(P:Program)(fr:List DV)(S:St)(rs:List ResultVar)(K:DV→Prop):Prop:=match rs with
 |[r]=>nU P fr S K r
 |rs=>qv P fr S rs fun ds=>K (.cQ ds)
theorem Et{g:Gh}{S:St}{w:World}(h1:Rel w0 g S w){t:TypeId}{d:DV}{u:Value}(hx:az g d u){K:DV→Prop}(h:ck (tk P t) S d K):∃a v d',u= .pointer (some a)∧(loadVar t a).run P w= .ok v w∧az g d' v∧K d':=by
 have fin:∀{b o':Nat} {ds:List DV} {us:List Value},u= .pointer (some ⟨b,o',none⟩)→ae g ds us→(∀u,u∈us→u.oneCell'=true)→(∀(j:Nat) (x:Value),us[j]? =some x→w.cell? ⟨b,o'+j,none⟩=some x)→
  nf (tk P t) ds K→∃a v d',u= .pointer (some a)∧(loadVar t a).run P w= .ok v w∧az g d' v∧K d':=by
  intro b o' ds us hv hr hone hc hk;obtain⟨d,u',hrun,hd,hk⟩:=zH (P:=P) hr hone hc hk;exact⟨_,u',d,hv,by simpa[Instr.loadAt,Instr.sureAddr]using hrun,hd,hk⟩
 unfold ck at h;split at h
 ·split at h
  ·rename_i ds hb;obtain⟨_,_,us,e,hh,hr,hone⟩:=h1.tU hb;refine fin (aj hx) (hr.drop _) (fun u hu=>hone u (XN hu)) (fun j x hj=>?_) h;rw[bA hh];simpa using hj
  ·exact h.elim
 ·obtain⟨b,o',us,hv,hr,hone,hi⟩:=mS hx;exact fin hv hr hone (fun j x hj=>h1.aN _ _ _ (hi j x hj)) h
 ·rename_i l n s i o';obtain⟨b,q,c,hv,ha⟩:=pE hx
  have go:∀(ob:Ob) (xs:List DV),lk S.acc l=some ob→(ob= .arr s xs∨ob= .tl s xs)→xs.length=n→(∃d,xs[i]? =some d∧dH d=true∧nf (tk P t) ((cd d).drop o') K)→
   ∃a v d',u= .pointer (some a)∧(loadVar t a).run P w= .ok v w∧az g d' v∧K d':=by
   intro ob xs hob he hn ⟨d,hd1,hd2,hk⟩;subst hn;obtain⟨us,hr,hone,hc⟩:=h1.sg hob he ha hd1 hd2;refine fin hv (hr.drop o') (fun u hu=>hone u (XN hu)) (fun j x hj=>?_) hk;rw[Ya];exact hc _ _ (by simpa using hj)
  split at h
  ·rename_i s' xs hob;obtain⟨hn,rfl,hk⟩:=h;exact go _ xs hob (.inl rfl) hn hk
  ·rename_i s' xs hob;obtain⟨hn,rfl,hk⟩:=h;exact go _ xs hob (.inr rfl) hn hk
  ·exact h.elim
 ·exact h.elim
def re(tmps:Array Value):ResultVar→Sem Value
 | .tmp t=>pure (tmps.getD t undef)
 | .cell p t=>do loadVar t (←asAddr (tmps.getD p undef))
theorem jj(fn:Func)(tmps:Array Value):results fn tmps=(do
 let vs ←fn.results.mapM (re tmps)
 pure (if h:vs.size=1 then vs[0]else .tuple vs)):=by
 unfold results;congr 1
theorem wz{g:Gh}{S:St}{w:World}(h1:Rel w0 g S w){fr:List DV}{a:Act}(hr:ae g fr a.tmps.toList){K:DV→Prop}{r:ResultVar}(h:nU P fr S K r):
 ∃v d,(re a.tmps r).run P w= .ok v w∧az g d v∧K d:=by
 cases r with
 |tmp t=>
  have:=hr.getD t;exact⟨_,_,rfl,by simpa using this,h⟩
 |cell p t=>
  have hx:=hr.getD p;obtain⟨ad,v,d,e1,e2,e3,e4⟩:=Et (P:=P) h1 hx h;refine⟨v,d,?_,e3,e4⟩;have e1':a.tmps.getD p undef= .pointer (some ad):=by simpa using e1
  simp only[re,e1',asAddr];simpa using e2
theorem vc{g:Gh}{S:St}{w:World}(h1:Rel w0 g S w){fr:List DV}{a:Act}(hr:ae g fr a.tmps.toList):∀(rs:List ResultVar) {K:List DV→Prop} (h:qv P fr S rs K),
 ∃vs ds,(rs.mapM (re a.tmps)).run P w= .ok vs w∧ae g ds vs∧K ds∧vs.length=rs.length
 |[],K,h=>⟨[],[],by simp,ae.nil g,h,rfl⟩
 |r::rs,K,h=>by
  obtain⟨v,d,e1,e2,e3⟩:=wz (P:=P) h1 hr h;obtain⟨vs,ds,q1,q2,q3,q4⟩:=vc h1 hr rs e3;refine⟨v::vs,d::ds,?_,ae.cons e2 q2,q3,by simp[q4]⟩;rw[List.mapM_cons];simp only[Sem.run_bind,e1,q1,Result.andThen_ok,Sem.run_pure]
theorem Af{g:Gh}{S:St}{w:World}(h1:Rel w0 g S w){fr:List DV}{a:Act}(hr:ae g fr a.tmps.toList){fn:Func}{rs:List ResultVar}(hrs:fn.results=rs.toArray){K:DV→Prop}(h:kJ P fr S rs K):
 ∃v d,(results fn a.tmps).run P w= .ok v w∧az g d v∧K d:=by
 unfold kJ at h;split at h
 ·rename_i r;obtain⟨v,d,e1,e2,e3⟩:=wz (P:=P) h1 hr h;refine⟨v,d,?_,e2,e3⟩;rw[jj,hrs];simp only[List.mapM_toArray,List.mapM_cons,List.mapM_nil,Sem.run_bind,Sem.run_map,e1];simp
 ·rename_i hne;obtain⟨vs,ds,q1,q2,q3,q4⟩:=vc (P:=P) h1 hr rs h;refine⟨.tuple vs.toArray,.cQ ds,?_,.cQ ds vs q2.len q2.at_,q3⟩
  have hlen:vs.length≠1:=by
   rw[q4];intro e
   match rs,e with
   |[r],_=>exact hne r rfl
  rw[jj,hrs];simp only[List.mapM_toArray,Sem.run_bind,Sem.run_map,q1];simp[hlen]
theorem fH.put{ow:Nat→Option Key}{B:Nat}{g:Gh}{w w':World}{l:Nat}{o:Ob}{D:Nat}(h:fH ow B g w l o)(hn:∀o,w.heap[D]? =some o→nc o=true)(hs:∀k,k≠D→w'.heap[k]? =w.heap[k]?):fH ow B g w' l o:=by
 cases o with
 |arr s xs=>
  obtain⟨hs',h|⟨b,c,cs,e,h1,h2,h3,h4,h5,h6⟩⟩:=h
  ·exact⟨hs',.inl h⟩
  ·exact⟨hs',.inr ⟨b,c,cs,e,h1,h2,h3,h4,by rw[hs b (by rintro rfl;exact absurd (hn _ h5) (by simp[nc]))];exact h5,h6⟩⟩
 |tl s xs=>
  obtain⟨hs',h|⟨b,c,cs,e,h1,h2,h3,h4,h5,h6⟩⟩:=h
  ·exact⟨hs',.inl h⟩
  ·exact⟨hs',.inr ⟨b,c,cs,e,h1,h2,h3,h4,by rw[hs b (by rintro rfl;exact absurd (hn _ h5) (by simp[nc]))];exact h5,h6⟩⟩
 |xo f=>
  obtain⟨b,o,h1,h2,h3,h4,h5,h6⟩:=h;exact⟨b,o,h1,h2,h3,h4,by rw[hs b (by rintro rfl;exact absurd (hn _ h5) (by rw[h6.nc];simp))];exact h5,h6⟩
 |sb T e bs pin=>
  obtain⟨⟨b,p,v,h1,h2,h3,h4,h5,h6,h7⟩,hpin⟩:=h;refine⟨?_,hpin⟩;refine⟨b,p,v,h1,h2,h3,h4,by rw[hs b (by rintro rfl;exact absurd (hn _ h5) (by simp[nc]))];exact h5,h6,?_⟩;rcases h7 with h7|⟨r,c,cs,z,k1,k2,k3,k4,k5,k6,k7⟩
  ·exact .inl h7
  ·exact .inr ⟨r,c,cs,z,k1,k2,k3,k4,k5,by rw[hs r (by rintro rfl;exact absurd (hn _ k6) (by simp[nc]))];exact k6,k7⟩
theorem Rel.putObj{g:Gh}{S:St}{w:World}(h:Rel w0 g S w){D:Nat}{o o':Obj}(hD:w.heap[D]? =some o)(hn:nc o=true)(ho:g.obj D=none)(hB:w0.heap.size≤D):Rel w0 g S (w.putObj D o'):=by
 have hs:∀k,k≠D→(w.putObj D o').heap[k]? =w.heap[k]? :=fun k hk=>World.putObj_heap_other hk;have hnc:∀o,w.heap[D]? =some o→nc o=true:=fun o h=>by rw[hD]at h;cases h;exact hn
 obtain⟨ow,o1,o2⟩:=h.own;refine⟨⟨h.below.base.trans ⟨rfl,rfl,rfl,by simp,fun k hk=>hs k (by omega),Xa _⟩,fun k o hk=>?_,h.below.dG⟩,fun b i u hu=>?_,h.nb,h.na,h.dD,h.fresh,h.top,ow,fun b ds hb=>?_,fun l o hl=>(o2 l o hl).put hnc hs⟩
 ·obtain⟨h1,h2⟩:=h.below.obj k o hk;exact⟨(hs k (by rintro rfl;rw[ho]at hk;cases hk)).trans h1,h2⟩
 ·have h1:=h.aN b i u hu
  have hne:b≠D:=by
   rintro rfl;unfold World.cell? at h1;simp only[hD]at h1;cases o <;>simp_all [nc]
  rw[World.cell?_of_block (w:=w) (w':=w.putObj D o') (a:=⟨b,i,none⟩) (hs b hne)];exact h1
 ·obtain⟨q1,q2,q3,us,e,q4,q5⟩:=o1 b ds hb;exact⟨q1,q2,q3,us,e,by rw[hs b (by rintro rfl;exact absurd (hnc _ q4) (by simp[nc]))];exact q4,q5⟩
theorem jf{fn:Func}{tmps:Array Value}{R:Ending→World→Prop}{g:Gh}{S:St}{u:FrameMode}(hu:u≠ .run)(ds0:List Deferred):∀(ds:List Deferred) (w:World),Rel w0 g S w→ds.Nodup→(∀d,d∈ds→∃D,d={target:= .collected D,args:= #[]}∧w.heap[D]? =some (.deferred (some []))∧g.obj D=none∧w0.heap.size≤D)→
 (∀w',Rel w0 g S w'→LeavesInM (fz none) 0 P fn tmps R ds0 u w')→LeavesInM (fz none) 0 P fn tmps R (ds++ds0) u w
 |[],w,h,_,_,k=>k w h
 |d::ds,w,h,hn,hd,k=>by
  obtain⟨D,e,h1,h2,h3⟩:=hd d Xf;rw[Xo]at hn;refine⟨hu,.inl ⟨D,_,by rw[e],run_takeDeferred h1,?_⟩⟩;refine jf hu ds0 ds _ (h.putObj h1 rfl h2 h3) hn.2 (fun d' hd'=>?_) k;obtain⟨D',e',q1,q2⟩:=hd d' (Xc _ hd');have hne:D'≠D:=by rintro rfl;rw[←e]at e';subst e';exact hn.1 hd'
  exact⟨D',e',(World.putObj_heap_other hne).trans q1,q2⟩
theorem Ends.ay{g:Gh}{ds:List Deferred}{K:DV→St→Prop}{e:Ending}{w':World}(hs:w0.gh.sub g)(h:Ends w0 (g.ay ds) K e w'):Ends w0 g K e w':=by
 have go:∀g':Gh,(g.ay ds).le g'→g.le (g'.ay g.kM):=fun g' k=>⟨k.aN,k.acc,k.obj,rfl⟩;have su:∀g':Gh,(g.ay ds).le g'→w0.gh.sub g':=fun g' k=>⟨fun b i u x=>k.aN _ _ _ (hs.aN _ _ _ x),fun b i u x=>k.acc _ _ _ (hs.acc _ _ _ x),fun i o x=>by rw[k.obj];exact hs.obj _ _ x⟩;rcases h with⟨r,g',d,S',e,a,b,c,x⟩|⟨v,g',d,S',e,a,b,c,x⟩
 ·exact .inl ⟨r,_,d,S',e,go _ a,b.ay _ rfl (su _ a),c.ay,x⟩
 ·exact .inr ⟨v,_,d,S',e,go _ a,b.ay _ rfl (su _ a),c.ay,x⟩
theorem pb{f:FuncId}{fn:Func}{c:Code}{rs:List ResultVar}{args:List DV}{S:St}{K:DV→St→Prop}(hf:P.funcs[f]? =some fn)(hb:fn.body=some c)(hrs:fn.results=rs.toArray)
 (h:fL P w0 c (args++List.replicate (fn.ntmps-args.length) ud) S fun e fr S'=>(e= .normal∨e= .ret)∧kJ P fr S' rs fun d=>K d S'):aa P w0 f args S K:=by
 intro g vs w h1 h2;refine Calls.mono (R:=Ends w0 (g.ay []) K) ?_ fun e w'=>Ends.ay h1.below.dG;have h1:=h1.ay (w0':=w0) [] rfl h1.below.dG;have h2:ae (g.ay []) args vs.toList:=h2.ay;generalize hg:g.ay []=g0 at h1 h2 ⊢;have hgd:g0.kM=[]:=by rw[←hg];rfl
 refine(eP (ro:=none) (n:=0)).1 (callsIn_of_wp_marks hf hb trivial ?_ rfl);have hlen:args.length=vs.size:=by simpa using h2.len
 refine wpIn_mono (h g0 _ w h1 (by rw[hlen];simpa using h2.append (ae.replicate g0 (fn.ntmps-vs.size))) (.nil hgd.symm) none (.inl rfl)) ?_;rintro e a w' ⟨hd,g',fr,S',k1,k2,k3,hq⟩;obtain⟨ms,em,m1,m2⟩:=k1.dk hd;have em:a.defers=ms++[]:=by rw[em,k1.kM,hgd]
 have fin:kJ P fr S' rs (fun d=>K d S')→LeavesInM (fz none) 0 P fn a.tmps (Ends w0 g0 K) a.defers .returning w':=by
  intro k4;rw[em];refine jf (by simp) [] ms _ k2 m1 m2 fun w'' k2'=>?_;obtain⟨v,d,e1,e2,e3⟩:=Af (P:=P) k2' k3 hrs k4;exact⟨v,e1,.inl ⟨v,g',d,S',rfl,k1,k2',e2,e3⟩⟩
 cases e with
 |normal=>exact fin hq.2
 |ret=>exact fin hq.2
 |panic ch=>
  obtain⟨v,d,rfl,q1,q2⟩:=hq;show LeavesInM (fz none) 0 P fn a.tmps (Ends w0 g0 K) a.defers (.panicking _) w';rw[em];exact jf (by simp) [] ms _ k2 m1 m2 fun w'' k2'=> .inr ⟨v,g',d,S',rfl,k1,k2',q1,q2⟩
 |exit n=>rcases hq.1 with h|h <;>cases h
 |goto n=>rcases hq.1 with h|h <;>cases h
 |outgrown=>rcases hq.1 with h|h <;>cases h
end
end Aml
namespace Aml
open Go Go.RowKit
def de(P:Program)(t:TypeId):TypeId:=match tk P t with
 | .sl e _ _ _=>e
 |_=>0
section
variable {P:Program} {w0:W0}
theorem zip_fst{α β:Type}:∀{l:List α} {r:List β},l.length=r.length→(l.zip r).map (·.1)=l
 |[],_,_=>by simp
 |a::l,[],h=>by simp at h
 |a::l,b::r,h=>by simp at h;simp[zip_fst h]
theorem tM{α β:Type}:∀{l:List α} {r:List β},l.length=r.length→(l.zip r).map (·.2)=r
 |[],[],_=>by simp
 |[],_::_,h=>by simp at h
 |a::l,[],h=>by simp at h
 |a::l,b::r,h=>by simp at h;simp[tM h]
theorem Dn{o:Oper}{t:TypeId}{parts:List (Nat×Operand)}(ho:o.op= .build t parts.toArray){ρD:Operand→DV}{S:St}{K:DV→St→Prop}
 (h:e9 S (parts.map fun p=>ρD p.2) fun ds S=>eA P t ((parts.map (·.1)).zip ds) (K · S)):ah P w0 o ρD S K:=by
 intro g w ρ h1 h2 hcst;have hR:=jr (g:=g) (ρD:=ρD) (ρ:=ρ) parts (fun p hp=>h2 p.2 (by simp only[ho,Op.operands];simp;exact⟨p.1,hp⟩));obtain⟨g',ds,S',l1,R1,r1,k1⟩:=gT _ h1 hR h;have hlen:(parts.map (·.1)).length=ds.length:=by have:=r1.len;simpa using this.symm
 obtain⟨d,u,e1,e2,e3⟩:=xl (P:=P) (w:=w) (g:=g') (t:=t) (parts:=(parts.map (·.1)).zip ds) (vs:=parts.map fun p=>(p.1,ρ p.2)) (by rw[zip_fst hlen];simp) (by rw[tM hlen];simpa[Function.comp_def]using r1) k1
 have hrun:(execOp ρ o).run P w= .ok (.value u) w:=by
  have e:(parts.toArray.map fun(i,x)=>(i,ρ x))=(parts.map fun p=>(p.1,ρ p.2)).toArray:=by simp
  simp only[execOp,ho,Sem.run_bind];rw[e,e1];rfl
 rw[hrun];exact⟨g',d,S',l1,R1,e2,e3⟩
theorem rv{o:Oper}{t len:Nat}{parts:List (Nat×Operand)}(ho:o.op= .buildSlice t len parts.toArray){ρD:Operand→DV}{S:St}{K:DV→St→Prop}
 (h:e9 S (parts.map fun p=>ρD p.2) fun ds S=>aL (tk P t) (zD P (de P t)) len ((parts.map (·.1)).zip ds) (K · S)):ah P w0 o ρD S K:=by
 intro g w ρ h1 h2 hcst;have hR:=jr (g:=g) (ρD:=ρD) (ρ:=ρ) parts (fun p hp=>h2 p.2 (by simp only[ho,Op.operands];simp;exact⟨p.1,hp⟩));obtain⟨g',ds,S',l1,R1,r1,k1⟩:=gT _ h1 hR h;have hlen:(parts.map (·.1)).length=ds.length:=by have:=r1.len;simpa using this.symm
 obtain⟨d,u,w',g2,e1,l2,R2,e2,e3⟩:=ou (P:=P) R1 (t:=t) (len:=len) (parts:=(parts.map (·.1)).zip ds) (vs:=parts.map fun p=>(p.1,ρ p.2)) (by rw[zip_fst hlen];simp) (by rw[tM hlen];simpa[Function.comp_def]using r1)
  (e:=de P t) (fun e' s b i hk=>by simp[de,hk]) k1
 have hrun:(execOp ρ o).run P w= .ok (.value u) w':=by
  have e:(parts.toArray.map fun(i,x)=>(i,ρ x))=(parts.map fun p=>(p.1,ρ p.2)).toArray:=by simp
  simp only[execOp,ho,Sem.run_bind];rw[e,e1];rfl
 rw[hrun];exact⟨g2,d,S',l1.trans l2,R2,e2,e3⟩
theorem yu{o:Oper}{t:TypeId}{x:Operand}(ho:o.op= .makeInterface t x){ρD:Operand→DV}{S:St}{K:DV→St→Prop}(h:nP (tk P t)=false∧shr S (ρD x) fun d S=>K (.im t d) S):ah P w0 o ρD S K:=by
 intro g w ρ h1 h2 hcst;have hx:=h2 x (by simp[ho,Op.operands]);obtain⟨d,hu,hd⟩:=sj h.1;obtain⟨g',d',S',l1,R1,r1,k1⟩:=jI h1 hx h.2
 have hrun:(execOp ρ o).run P w= .ok (.value (.iface t (ρ x))) w:=by
  cases d <;>first|exact absurd rfl (hd _)|simp[execOp,ho,Instr.makeInterface,run_underlying hu]
 rw[hrun];exact⟨g',_,S',l1,R1,.im t _ _ r1,k1⟩
def gN(k:TK)(S:St)(x:DV)(lo hi mx:Option DV)(K:DV→St→Prop):Prop:=jy S x fun x S=>fy k x lo hi mx (K · S)
theorem vH{o:Oper}{t:TypeId}{x:Operand}{lo hi mx:Option Operand}(ho:o.op= .slice t x lo hi mx){ρD:Operand→DV}{S:St}{K:DV→St→Prop}
 (hh:mx.isSome=true→hi.isSome=true) (hne:(lo≠some x∧hi≠some x∧mx≠some x)) (h:gN (tk P t) S (ρD x) (lo.map ρD) (hi.map ρD) (mx.map ρD) K):ah P w0 o ρD S K:=by
 intro g w ρ h1 h2 hcst;have hx:=h2 x (by simp[ho,Op.operands])
 classical
 obtain⟨g',d',S',l1,R1,r1,k1⟩:=sU h1 hx h
 have e:∀(y:Option Operand),y≠some x→y.map (fun z=>if z=x then d' else ρD z)=y.map ρD:=by
  intro y hy
  cases y with
  |none=>rfl
  |some y=>simp only[XB];rw[if_neg (fun e=>hy (by rw[e]))]
 have:=IK (P:=P) (w0:=w0) ho (ρD:=fun z=>if z=x then d' else ρD z) (S:=S') (K:=K) hh (by
  simp only[if_true];rw[e lo hne.1,e hi hne.2.1,e mx hne.2.2]
  exact k1) g' w ρ R1 (fun z hz=>by
   by_cases hzx:z=x
   ·simp only[hzx,if_true];exact r1
   ·simp only[hzx,if_false];exact(h2 z hz).mono l1) hcst
 split at this
 ·obtain⟨g2,d,S2,l2,q⟩:=this;exact⟨g2,d,S2,l1.trans l2,q⟩
 ·obtain⟨g2,S2,l2,q⟩:=this;exact⟨g2,S2,l1.trans l2,q⟩
 ·exact this.mono fun e w'' k=>k.mono l1 fun _ _ x=>x
 ·exact fun ro=>(this ro).mono fun e w'' k=>k.mono l1 fun _ _ x=>x
 ·obtain⟨hc,g2,d,S2,l2,q⟩:=this;exact⟨hc,g2,d,S2,l1.trans l2,q⟩
 ·exact this
def SP:DV→Bool
 | .v _=>false
 |_=>true
def HG:List DV→List Int
 |[]=>[]
 | .v (.int .u8 n)::xs=>n::HG xs
 |_::xs=>0::HG xs
def wU:List DV→Bool
 |[]=>true
 | .v (.int .u8 _)::xs=>wU xs
 |_::_=>false
theorem GD:∀{xs:List DV},wU xs=true→xs=(HG xs).map fun n=>DV.v (.int .u8 n)
 |[],_=>rfl
 | .v (.int .u8 n)::xs,h=>by simp only[HG,Xy];rw[←GD (xs:=xs) h]
 |x::xs,h=>by
  unfold wU at h;split at h
  ·rename_i e;cases e
  ·rename_i e;cases e;simp only[HG,Xy];rw[←GD (xs:=_) h]
  ·cases h
def il(a b ke kb:TK)(S:St)(x:DV)(K:DV→Prop):Prop:=match a,b with
 | .sl _ _ _ _,.str=>ke= .int .u8∧SP x=true∧iG S x fun s xs=>s=1∧wU xs=true∧K (.v (.string (strOfNums (HG xs))))
 | .str,.sl _ 1 1 _=>(match x with
  | .v (.string b)=>b.size<281474976710656∧kb= .int .u8∧K (.sl 1 false (b.data.toList.map fun c=> .v (.int .u8 c.toNat)))
  |_=>False)
 |a,b=>gC a b x K
theorem Fb{g:Gh}{S:St}{w:World}{d:DV}{x:Value}{K:List Int→Prop}(h:Rel w0 g S w)(r:az g d x)(hk:iG S d fun s xs=>s=1∧wU xs=true∧K (HG xs)):
 (∃u,d= .v u)∨∃bs a c,K bs∧x= .slice a bs.length c∧(bs=[]∨∃b o,a=some ⟨b,o,none⟩∧∀i,i<bs.length→w.cell? ⟨b,o+i,none⟩=some (.int .u8 (bs.getD i 0))):=by
 obtain⟨ow,ho⟩:=h.open_
 have fin:∀{xs:List DV} {s:Nat} {us:List Value} {a:Option Addr} {c:Nat},(s=1∧wU xs=true∧K (HG xs))→x= .slice a xs.length c→ae g xs us→
  ((xs=[])∨∃b o,a=some ⟨b,o,none⟩∧c≤maxLen∧∀(i:Nat) (u:Value) (j:Nat) (x:Value),us[i]? =some u→u.cells[j]? =some x→w.cell? ⟨b,o+i*s+j,none⟩=some x)→
  ∃bs a c,K bs∧x= .slice a bs.length c∧(bs=[]∨∃b o,a=some ⟨b,o,none⟩∧∀i,i<bs.length→w.cell? ⟨b,o+i,none⟩=some (.int .u8 (bs.getD i 0))):=by
  rintro xs s us a c ⟨rfl,hok,hK⟩ hx hr hc;generalize hbs:HG xs=bs at hK;have hxs:=GD hok;rw[hbs]at hxs;subst hxs;refine⟨bs,a,c,hK,by simpa using hx,?_⟩;rcases hc with hc|⟨b,o,ha,_,hc⟩
  ·exact .inl (by simpa using hc)
  ·refine .inr ⟨b,o,ha,fun i hi=>?_⟩;have hlen:us.length=bs.length:=by have:=hr.len;simpa using this.symm
   have hu:us[i]? =some us[i]:=W5 (by omega);have hb:bs[i]? =some bs[i]:=W5 hi;have h1:=aj (hr.at_ i (.v (.int .u8 bs[i])) us[i] (by rw[Xd,hb];rfl) hu);have:=hc i us[i] 0 us[i] hu (by rw[h1];rfl);rw[YP,YJ,h1]at this;rw[this,Xs,hb];rfl
 unfold iG at hk;split at hk
 ·rename_i s f xs;obtain⟨us,a,c,q1,q2,q3,q4,q5,q6,q7⟩:=fK (w:=w) r h.aN;exact .inr (fin hk q1 q2 q7)
 ·rename_i l n;split at hk
  ·rename_i s xs hl;obtain⟨rfl,hk⟩:=hk;obtain⟨o,c,hv,ha⟩:=dM r;obtain⟨hs,us,a,c',q1,q2,q3,q4,q5,q6,_⟩:=ho.iE hl (.inl rfl) ha;exact .inr (fin hk (hv.trans q1) q2 q6)
  ·rename_i s xs hl;obtain⟨rfl,hk⟩:=hk;obtain⟨o,c,hv,ha⟩:=dM r;obtain⟨hs,us,a,c',q1,q2,q3,q4,q5,q6,_⟩:=ho.iE hl (.inr rfl) ha;exact .inr (fin hk (hv.trans q1) q2 q6)
  ·exact hk.elim
 ·exact .inl ⟨_,rfl⟩
 ·exact .inl ⟨_,rfl⟩
 ·exact hk.elim
theorem zx{o:Oper}{s d:TypeId}{x:Operand}(ho:o.op= .convert s d x){ρD:Operand→DV}{S:St}{K:DV→St→Prop}(h:il (tk P s) (tk P d) (tk P (de P s)) (tk P (de P d)) S (ρD x) (K · S)):ah P w0 o ρD S K:=by
 unfold il at h;split at h
 ·rename_i e c b i hs hd;obtain⟨hke,hnv,hk⟩:=h;intro g w ρ h1 h2 hcst;have hx:=h2 x (by simp[ho,Op.operands])
  have hsl:P.underlying s=some (.slice e):=by
   unfold tk at hs;split at hs <;>(try split at hs) <;>(try cases hs) <;>assumption
  have hel:de P s=e:=by unfold de;rw[hs]
  rw[hel]at hke;rcases Fb (w0:=w0) (K:=fun bs=>K (.v (.string (strOfNums bs))) S) h1 hx hk with⟨u,hu⟩|⟨bs,a,c,hK,hv,hc⟩
  ·rw[hu]at hnv;cases hnv
  ·have hrun:(execOp ρ o).run P w= .ok (.value (.string (strOfNums bs))) w:=by
    have hconv:(convert s d (.slice a bs.length c)).run P w= .ok (.string (strOfNums bs)) w:=by
     rcases hc with rfl|⟨b,o',rfl,hc⟩
     ·rw[run_convert_bytes_string w s d e _ _ c hsl (iY hke) (gA hd)]
      cases a with
      |none=>simp[Conv.bytesToString];rfl
      |some a=>
       rw[XK,run_bytesToString w a 0 c [] (by have:=run_loadCells_list (P:=P) w a [] (fun j v hj=>by simp at hj);simpa using this)];rfl
     ·exact run_convert_bytes_arg w s e hsl (iY hke) b o' bs.length c bs rfl hc d (gA hd)
    simp[execOp,ho,hv,hconv]
   rw[hrun];exact⟨g,_,S,.refl g,h1,.v _ rfl,hK⟩
 ·rename_i e i hs hd;split at h
  ·rename_i b hb;obtain⟨hsz,hkb,hK⟩:=h;intro g w ρ h1 h2 hcst;have hx:=h2 x (by simp[ho,Op.operands]);rw[hb]at hx;have hv:=aj hx;have hel:de P d=e:=by unfold de;rw[hd]
   rw[hel]at hkb
   have hrun:(execOp ρ o).run P w= .ok (.value (.slice (some ⟨w.heap.size,0,none⟩) b.size (grownCap w b.size 0 e))) (Lib.bytesWorld w e b):=by
    simp[execOp,ho,hv,Lib.run_convert_string_bytes w s d e b (gA hs) (cO hd).1 (iY hkb)]
   rw[hrun];have hbel:gE w.heap.size w (Lib.bytesWorld w e b):=⟨rfl,rfl,rfl,by rw[Lib.bytesWorld_size];omega,fun k hk=>Lib.bytesWorld_at_old w e b k hk,XA _⟩;obtain⟨hle,hR⟩:=h1.DD hbel (Xa _) (Lib.bytesWorld_at_new w e b);have hcap:=grownCap_ge w b.size 0 e;have hm8:maxLen=9223372036854775807:=rfl;have hcm:=grownCap_le_maxLen w b.size 0 e (by omega);have hl:(b.data.toList.map fun c=>Value.int .u8 c.toNat).length=b.size:=by simp
   refine⟨_,_,S,hle,hR,?_,hK⟩
   have:=az.sl (g:=g.aT w.heap.size fun i=>(Lib.bytesCells w e b)[i]?) 1 false (b.data.toList.map fun c=>DV.v (.int .u8 c.toNat)) w.heap.size 0 (grownCap w b.size 0 e) (b.data.toList.map fun c=>Value.int .u8 c.toNat)
    (by simp) (fun hf=>by cases hf) (by rw[hl];exact hcap) hcm (fun i d u a1 a2=>by
     simp only[Xd,Xb]at a1 a2;obtain⟨c,hc,rfl⟩:=a1;obtain⟨c',hc',rfl⟩:=a2;rw[hc]at hc';cases hc';exact .v _ rfl) (fun i u hu=>by
     simp only[Xd,Xb]at hu;obtain⟨c,_,rfl⟩:=hu;rfl) (fun u hu y hy=>by
     obtain⟨c,_,rfl⟩:=Xk.1 hu;simp[Value.cells]at hy;subst hy;rfl) (fun i u j y hu hj=>by
     have hu':=hu;simp only[Xd,Xb]at hu;obtain⟨c,hc,rfl⟩:=hu;have hj0:j=0:=by have:=(W9.1 hj).1;simp[Value.cells]at this;exact this
     subst hj0;simp[Value.cells]at hj;subst hj;simp only[Gh.aT,if_true,YP,Yb,YJ,Lib.bytesCells];rw[Array.getElem?_append_left (by have:=(W6.1 hc).1;simpa using this)];have:b.data[i]? =some c:=by simpa using hc
     simp[this])
   rw[hl]at this;exact this
  ·exact h.elim
 ·exact MK ho h
theorem Bn{a b ke kb:TK}{S:St}{x:DV}{K:DV→Prop}(h:gC a b x K):il a b ke kb S x K:=by
 unfold il;split
 ·unfold gC at h;split at h <;>first|exact h.elim|(rename_i e _;cases e;done)|(rename_i e;cases e;done)|(rename_i e _ _;cases e;done)|(rename_i _ e;cases e;done)
 ·unfold gC at h;split at h <;>first|exact h.elim|(rename_i e _;cases e;done)|(rename_i e;cases e;done)|(rename_i e _ _;cases e;done)|(rename_i _ e;cases e;done)
 ·exact h
end
end Aml
namespace Aml
open Go Go.RowKit
section
variable {P:Program} {w0:W0}
theorem Rel.Dv{g:Gh}{S:St}{w w':World}(h:Rel w0 g S w)(k:gE w.heap.size w w'){s:Nat}(hs:0<s){xs:List DV}{us:List Value}{b c e:Nat}{cs:Array Value}(hge:w.heap.size≤b)(hb:w'.heap[b]? =some (.cells cs e (0,0)))
 (hsz:cs.size=c*s) (hn:xs.length≤c) (hm:c≤maxLen) (hr:ae g xs us) (hz:∀(i:Nat) (u:Value),us[i]? =some u→u.cells.size=s) (hone:∀(u:Value),u∈us→∀x,x∈u.cells.toList→x.oneCell'=true)
 (hc:∀(i:Nat) (u:Value) (j:Nat) (x:Value),us[i]? =some u→u.cells[j]? =some x→cs[i*s+j]? =some x) (hall:∀x,x∈cs.toList→x.oneCell'=true):
 ∃l g',g.le g'∧(∀p,p∈S.acc→p.1≠l)∧Rel w0 g' ⟨S.box,(l,.arr s xs)::S.acc⟩ w'∧az g' (.acc l xs.length) (.slice (some ⟨b,0,none⟩) xs.length c):=by
 obtain⟨ow,h⟩:=h.open_
 have hnow:ow b=none:=by
  cases ho:ow b with
  |none=>rfl
  |some q=>have:=h.mA b q ho;omega
 have h':=h.grow k;obtain⟨m,hm'⟩:=h'.fresh
 have hnone:∀i,g.aN b i=none:=by
  intro i
  cases hi:g.aN b i with
  |none=>rfl
  |some u=>have:=World.block_lt_of_cell? w _ (h.aN _ _ _ hi);simp at this;omega
 have hne:∀p,p∈S.acc→p.1≠m:=by
  rintro⟨l',o'⟩ hp rfl;obtain⟨u,hu⟩:=(h'.acc _ _ hp).has;rw[hm' _ _ (Xa _)]at hu;cases hu
 let v:Value:= .slice (some ⟨b,0,none⟩) xs.length c
 have hle:g.le (g.aK m xs.length v):=Gh.iv (.inl (hm' _ _ (Xa _)));have hself:(g.aK m xs.length v).acc m xs.length=some v:=by simp[Gh.aK]
 refine⟨m,g.aK m xs.length v,hle,hne,dE.close (ow:=fun x=>if x=b then some (.a m)else ow x) ⟨h'.below.le hle,h'.aN,h'.nb,?_,?_,?_,?_,?_,?_,?_⟩,.acc _ _ _ _ hself⟩
 ·simp only[Xy,Xo];refine⟨fun hx=>?_,h'.na⟩;obtain⟨p,hp,e⟩:=Xk.1 hx;exact hne p hp e
 ·intro l' n u hu;simp only[Gh.aK]at hu;split at hu
  ·rename_i e;obtain⟨rfl,rfl⟩:=e;exact⟨_,_,(XG hu).symm,.inr ⟨b,0,rfl⟩⟩
  ·exact h'.dD _ _ _ hu
 ·refine⟨m+1,fun l n hl=>?_⟩;simp only[Gh.aK];rw[if_neg (by omega)];exact hm' _ _ (by omega)
 ·intro l o hl k hk;simp only[Gh.aK];rcases Xm.1 hl with e|hl
  ·simp only[XR]at e;obtain⟨rfl,rfl⟩:=e;simp only[Ob.len]at hk;rw[if_neg (by omega)];exact hm' _ _ (Xa _)
  ·rw[if_neg (fun e=>hne _ hl e.1)];exact h'.top _ _ hl k hk
 ·intro b' ds hb';refine(h'.box b' ds hb').step hle fun ho=>⟨?_,rfl,fun _ hi=>hi⟩;split
  ·rename_i e;subst e;exact absurd (hnow.symm.trans ho) (by simp)
  ·exact ho
 ·intro l o hl;rcases Xm.1 hl with e'|hl
  ·simp only[XR]at e';obtain⟨rfl,rfl⟩:=e';exact⟨hs,.inr ⟨b,c,cs,e,hself,if_pos rfl,Yf h.below.size hge,hnone,hb,hsz,hn,hm,hall,us,hr.mono hle,hz,hone,hc⟩⟩
  ·refine(h'.acc l o hl).step hle fun b' ho=>⟨?_,rfl,fun _ hi=>hi⟩;split
   ·rename_i e;subst e;exact absurd (hnow.symm.trans ho) (by simp)
   ·exact ho
 ·intro b' q hq;split at hq
  ·rename_i e;subst e;exact lt_of_heap hb
  ·exact h'.mA _ _ hq
theorem Rel.Dx{g:Gh}{S:St}{w w':World}(h:Rel w0 g S w){l s:Nat}{xs ys:List DV}{us:List Value}{b c e:Nat}{cs:Array Value}(hl:lk S.acc l=some (.arr s xs))(hv:g.acc l xs.length=some (.slice (some ⟨b,0,none⟩) xs.length c))(hlen:ys.length=xs.length)(hpos:0<c)
 (hb:w'.heap[b]? =some (.cells cs e (0,0))) (hsz:cs.size=c*s) (hbel:cA w0 g w') (hsize:w.heap.size≤w'.heap.size) (hsame:∀k,k<w.heap.size→k≠b→w'.heap[k]? =w.heap[k]?)
 (hr:ae g ys us) (hz:∀(i:Nat) (u:Value),us[i]? =some u→u.cells.size=s) (hone:∀(u:Value),u∈us→∀x,x∈u.cells.toList→x.oneCell'=true)
 (hc:∀(i:Nat) (u:Value) (j:Nat) (x:Value),us[i]? =some u→u.cells[j]? =some x→cs[i*s+j]? =some x) (hall:∀x,x∈cs.toList→x.oneCell'=true):Rel w0 g ⟨S.box,up S.acc l (.arr s ys)⟩ w':=by
 obtain⟨ow,h⟩:=h.open_;have hmem:=bU hl;obtain⟨hs,⟨he,o,ha⟩|⟨b',c',cs',e',h1,h2,h3,h4,h5,h6,h7,h8,hA,us',h9,h10,h11,h12⟩⟩:=h.acc l _ hmem
 ·exfalso
  subst he;rw[show([]:List DV).length=0 from rfl,ha]at hv;simp only[Xr,Value.slice.injEq]at hv;omega
 ·rw[hv]at h1;simp only[Xr,Value.slice.injEq,Addr.mk.injEq,true_and,and_true]at h1;obtain⟨rfl,rfl⟩:=h1
  have hbne:∀b' q,ow b'=some q→q≠ .a l→b'≠b:=by
   rintro b' q hq hne rfl;rw[h2]at hq;exact hne (XG hq).symm
  refine dE.close (ow:=ow) ⟨hbel,?_,h.nb,?_,h.dD,h.fresh,?_,?_,?_,?_⟩
  ·intro b' i u hu;have hne:b'≠b:=by rintro rfl;rw[h4]at hu;cases hu
   have h1:=h.aN _ _ _ hu;have hblt:=World.block_lt_of_cell? w _ h1;have:=World.cell?_of_block (w:=w) (w':=w') (a:=⟨b',i,none⟩) (hsame b' hblt hne);rw[this];exact h1
  ·rw[lB];exact h.na
  ·intro l' o' hl' k hk;rcases fA h.na hl' with e|⟨hm',hne⟩
   ·simp only[XR]at e;obtain⟨rfl,rfl⟩:=e;refine h.top _ _ hmem k ?_;simp only[Ob.len]at hk ⊢;omega
   ·exact h.top _ _ hm' k hk
  ·intro b' ds hb';have hob':=(h.box _ _ hb').1;have hne:=hbne b' _ hob' (by simp);exact(h.box b' ds hb').step (.refl g) fun x=>⟨x,hsame b' (h.mA _ _ x) hne,fun i hi=>hi⟩
  ·intro l' o' hl';rcases fA h.na hl' with e'|⟨hm',hne⟩
   ·simp only[XR]at e';obtain⟨rfl,rfl⟩:=e';exact⟨hs,.inr ⟨b,c,cs,e,by rw[hlen];exact hv,h2,h3,h4,hb,hsz,by omega,h8,hall,us,hr,hz,hone,hc⟩⟩
   ·refine(h.acc l' o' hm').step (.refl g) fun b' ho=>?_;have hne':=hbne b' _ ho (by simp;exact hne);exact⟨ho,hsame b' (h.mA _ _ ho) hne',fun i hi=>hi⟩
  ·intro b' q hq;exact Yk (h.mA _ _ hq) hsize
def Ix:List (Nat×Ob)→Nat→Nat×Ob→List (Nat×Ob)
 |[],_,_=>[]
 |(k,x)::t,n,p=>if k=n then p::t else(k,x)::Ix t n p
theorem tc{l:List (Nat×Ob)}{n:Nat}{p:Nat×Ob}(hn:(l.map (·.1)).Nodup){q:Nat×Ob}(h:q∈Ix l n p):q=p∨(q∈l∧q.1≠n):=by
 induction l with
 |nil=>cases h
 |cons r t ih=>
  obtain⟨k,x⟩:=r;simp only[Xy,Xo]at hn;simp only[Ix]at h;split at h
  ·rename_i e;subst e;rcases Xm.1 h with rfl|h
   ·exact .inl rfl
   ·refine .inr ⟨Xc _ h,fun e=>hn.1 ?_⟩;rw[←e];exact Xz h
  ·rename_i e;rcases Xm.1 h with rfl|h
   ·exact .inr ⟨Xf,e⟩
   ·rcases ih hn.2 h with h|h
    ·exact .inl h
    ·exact .inr ⟨Xc _ h.1,h.2⟩
theorem Bt{l:List (Nat×Ob)}{n:Nat}{p:Nat×Ob}(hn:(l.map (·.1)).Nodup)(hp:∀q,q∈l→q.1≠p.1):((Ix l n p).map (·.1)).Nodup:=by
 induction l with
 |nil=>exact hn
 |cons r t ih=>
  obtain⟨k,x⟩:=r;simp only[Xy,Xo]at hn;simp only[Ix];split
  ·simp only[Xy,Xo];refine⟨fun h=>?_,hn.2⟩;obtain⟨q,hq,e⟩:=Xk.1 h;exact hp q (Xc _ hq) e
  ·simp only[Xy,Xo];refine⟨fun h=>?_,ih hn.2 fun q hq=>hp q (Xc _ hq)⟩;obtain⟨q,hq,e⟩:=Xk.1 h;rcases tc hn.2 hq with rfl|⟨h1,_⟩
   ·exact hp (k,x) Xf e.symm
   ·refine hn.1 ?_;rw[←e];exact Xz h1
theorem Rel.cut{g:Gh}{S:St}{w:World}(h:Rel w0 g S w){l s:Nat}{xs:List DV}(hl:lk S.acc l=some (.arr s xs)){n:Nat}(hn:n≤xs.length){a:Option Addr}{c:Nat}(hv:g.acc l xs.length=some (.slice a xs.length c)):
 ∃l' g',g.le g'∧(∀p,p∈S.acc→p.1≠l')∧Rel w0 g' ⟨S.box,Ix S.acc l (l',.arr s (xs.take n))⟩ w∧az g' (.acc l' n) (.slice a n c):=by
 obtain⟨ow,h⟩:=h.open_;have hmem:=bU hl;obtain⟨m,hm'⟩:=h.fresh
 have hne:∀p,p∈S.acc→p.1≠m:=by
  rintro⟨l',o'⟩ hp rfl;obtain⟨u,hu⟩:=(h.acc _ _ hp).has;rw[hm' _ _ (Xa _)]at hu;cases hu
 have htl:(xs.take n).length=n:=by simp;omega
 have hle:g.le (g.aK m n (.slice a n c)):=Gh.iv (.inl (hm' _ _ (Xa _)));have hself:(g.aK m n (.slice a n c)).acc m n=some (.slice a n c):=by simp[Gh.aK]
 have hlm:l≠m:=hne _ hmem;refine⟨m,g.aK m n (.slice a n c),hle,hne,dE.close (ow:=fun x=>if ow x=some (.a l)then some (.a m)else ow x) ⟨h.below.le hle,h.aN,h.nb,Bt h.na hne,?_,?_,?_,?_,?_,?_⟩,.acc _ _ _ _ hself⟩
 ·intro l' n' u hu;simp only[Gh.aK]at hu;split at hu
  ·rename_i e;obtain⟨rfl,rfl⟩:=e;obtain⟨o',c',q1,q2⟩:=h.dD _ _ _ hv;simp only[Value.slice.injEq,true_and]at q1;refine⟨_,_,(XG hu).symm,?_⟩;rcases q2 with q2|q2
   ·exact .inl (by omega)
   ·exact .inr (by rw[q1.1];exact q2)
  ·exact h.dD _ _ _ hu
 ·refine⟨m+1,fun l' n' hl'=>?_⟩;simp only[Gh.aK];rw[if_neg (by omega)];exact hm' _ _ (by omega)
 ·intro l' o' hl' k hk;simp only[Gh.aK];rcases tc h.na hl' with e|⟨hm2,hne2⟩
  ·simp only[XR]at e;obtain⟨rfl,rfl⟩:=e;simp only[Ob.len,htl]at hk;rw[if_neg (by omega)];exact hm' _ _ (Xa _)
  ·rw[if_neg (fun e=>hne _ hm2 e.1)];exact h.top _ _ hm2 k hk
 ·intro b' ds hb';refine(h.box b' ds hb').step hle fun ho=>⟨?_,rfl,fun _ hi=>hi⟩;rw[if_neg (by rw[ho];simp)];exact ho
 ·intro l' o' hl';rcases tc h.na hl' with e|⟨hm2,hne2⟩
  ·simp only[XR]at e;obtain⟨rfl,rfl⟩:=e;obtain⟨hs,⟨he,o,ha⟩|⟨b',c',cs',e',h1,h2,h3,h4,h5,h6,h7,h8,hA,us',h9,h10,h11,h12⟩⟩:=h.acc l _ hmem
   ·subst he;have hn0:n=0:=by simpa using hn
    subst hn0;rw[show([]:List DV).length=0 from rfl,ha]at hv;simp only[Xr,Value.slice.injEq,true_and]at hv;obtain⟨rfl,rfl⟩:=hv;exact⟨hs,.inl ⟨rfl,_,hself⟩⟩
   ·rw[hv]at h1;simp only[Xr,Value.slice.injEq,true_and]at h1;obtain⟨rfl,rfl⟩:=h1;refine⟨hs,.inr ⟨b',_,cs',e',by rw[htl];exact hself,if_pos h2,h3,h4,h5,h6,by omega,h8,hA,us'.take n,(h9.mono hle).take n,fun i u hi=>?_,fun u hu=>h11 u (X5 hu),fun i u j x hi hj=>?_⟩⟩
    ·rw[XU]at hi;split at hi
     ·exact h10 i u hi
     ·cases hi
    ·rw[XU]at hi;split at hi
     ·exact h12 i u j x hi hj
     ·cases hi
  ·refine(h.acc l' o' hm2).step hle fun b' ho=>⟨?_,rfl,fun _ hi=>hi⟩;rw[if_neg (by rw[ho];simp;exact hne2)];exact ho
 ·intro b' q hq;split at hq
  ·rename_i e;exact h.mA _ _ e
  ·exact h.mA _ _ hq
end
end Aml
namespace Aml
open Go Go.RowKit
theorem oD{n:Int}(h0: -9223372036854775808≤n)(h1:n≤9223372036854775807):IntKind.i64.wrap n=n:=by
 show(if(true&&decide (n%18446744073709551616≥9223372036854775808))=true then n%18446744073709551616-18446744073709551616 else n%18446744073709551616)=n;by_cases h:n%18446744073709551616≥9223372036854775808
 ·rw[if_pos (by simpa using h)];omega
 ·rw[if_neg (by simpa using h)];omega
section
variable {P:Program} {w0:W0}
def du(k:TK)(z x y:DV)(S:St)(K:DV→St→Prop):Prop:=match k,x,y with
 | .sl _ s by' true,.v (.int _ n),.v (.int _ m)=>dH z=true∧0≤n∧n≤m∧m*by'≤140737488355328∧m≤9223372036854775807∧∀l,iu S.acc l→K (.acc l n.toNat) ⟨S.box,(l,.arr s (List.replicate n.toNat z))::S.acc⟩
 |_,_,_=>False
theorem nQ{o:Oper}{t:TypeId}{x y:Operand}(ho:o.op= .makeSlice t x y){ρD:Operand→DV}{S:St}{K:DV→St→Prop}(h:du (tk P t) (zD P (de P t)) (ρD x) (ρD y) S K):ah P w0 o ρD S K:=by
 intro g w ρ h1 h2 hcst;have hx:=h2 x (by simp[ho,Op.operands]);have hy:=h2 y (by simp[ho,Op.operands]);unfold du at h;split at h
 ·rename_i e s by' k1 n k2 m hk hx' hy';rw[hx']at hx;rw[hy']at hy;obtain⟨hok,h0,hnm,hby,hm63,hK⟩:=h;obtain⟨hu,hs,hbs,hei⟩:=cO hk;obtain⟨ti,z,hi,hz,hzs,hpos⟩:=bV hei;have hsz:ti.size=s:=by simpa[Program.cellsOf,hi]using hs
  have hib:ti.bytes=by':=by simpa[Program.bytesOf,hi]using hbs
  have hel:de P t=e:=by simp[de,hk]
  have hzD:zD P (de P t)=cv z:=by rw[hel];simp[zD,hi,hz]
  have hrz:az g (zD P (de P t)) z:=hzD▸jE g z;obtain⟨N,rfl⟩:=Za h0;obtain⟨M,rfl⟩:=Za (Int.le_trans h0 hnm);have hNM:N≤M:=Int.ofNat_le.1 hnm;have hM:M*by'≤140737488355328:=by rw[←Int.natCast_mul]at hby;omega
  have hM63:M≤maxLen:=by unfold maxLen;omega
  have w1:IntKind.i64.wrap (N:Int)=N:=oD (by omega) (by omega);have w2:IntKind.i64.wrap (M:Int)=M:=oD (by omega) (by omega);have hpw:=zQ (z:=z) (s:=s) (n:=M) (by omega) (by omega)
  have hrun:(Instr.makeSlice t (ρ x) (ρ y)).run P w= .ok (.slice (some ⟨w.heap.size,0,none⟩) N M) (w.alloc (.cells ((Array.range (M*s)).map (z.cells[·%z.cells.size]!)) e)):=by
   have hby2:¬(281474976710656<(by':Int)*(M:Int)):=by
    have:(M:Int)*by'≤140737488355328:=hby;rw[Int.mul_comm];omega
   have c1:¬((M:Int)<0):=by omega
   have c2:¬((N:Int)<0):=by omega
   have c3:¬((M:Int)<(N:Int)):=by omega
   have hroom:¬(roomBytes<M*by'):=by unfold roomBytes;omega
   simp only[aj hx,aj hy,Instr.makeSlice,asInt,asIntOf,run_underlying hu,typeInfo,hi,Sem.run_bind,Sem.run_pure,Result.andThen_ok,run_program,w1,w2,hib];by_cases hz0:M*s=0
   ·have hr0:∀f:Nat→Value,(Array.range 0).map f= #[]:=fun f=>by simp
    simp[c1,c2,c3,hby2,askRoom,hroom,Go.sizeOf,typeInfo,hi,hsz,hz0,newRow];rw[hr0,hr0]
   ·simp[c1,c2,c3,hby2,askRoom,hroom,Go.sizeOf,typeInfo,hi,hsz,hz0,newRow,zeroValue,hz]
  have hlenN:(List.replicate N (zD P (de P t))).length=N:=by simp
  obtain⟨l,g',hle,hne,hR,hA⟩:=h1.Dv (s:=s) (xs:=List.replicate N (zD P (de P t))) (us:=List.replicate N z) (c:=M) (bY w (.cells ((Array.range (M*s)).map (z.cells[·%z.cells.size]!)) e)) (by omega) (Xa _) (heap_alloc_new w _) (by simp) (by rw[hlenN];exact hNM) hM63
   ⟨by simp,fun i d u a b=>by
    rw[XQ]at a b;split at a
    ·rename_i hlt;rw[if_pos hlt]at b;simp only[Xr]at a b;subst a;subst b;exact hrz
    ·cases a⟩ (fun i u h=>by rw[XQ]at h;split at h <;>simp_all) (fun u hu x hx=>by rw[Y6 hu]at hx;exact hrz.one hok x hx)
   (fun i u j x a b=>by
    have hlt:i<N:=by rw[XQ]at a;split at a <;>first|assumption|cases a
    have:=hpw.at_ i u j x (by rw[XQ]at a ⊢;rw[if_pos hlt]at a;rw[if_pos (by omega)];exact a) b
    rwa [XX]at this)
   (fun x hx=>bN (cV hei hi hz) M x (by unfold Builtin.zeroCells;rw[show z.cells.size=s by omega];rwa [show z.cells.size=s by omega]at hx))
  rw[hlenN]at hA
  have hex:(execOp ρ o).run P w= .ok (.value (.slice (some ⟨w.heap.size,0,none⟩) N M)) (w.alloc (.cells ((Array.range (M*s)).map (z.cells[·%z.cells.size]!)) e)):=by
   simp only[execOp,ho,Sem.run_bind];rw[hrun];rfl
  rw[hex];exact⟨g',_,_,hle,hR,hA,hK l (cg hne)⟩
 ·exact h.elim
def pQ(k:TK)(x:DV)(K:DV→Prop):Prop:=match k,x with
 | .sl _ _ _ _,.sl _ true xs=>K (.v (.int .i64 xs.length))
 | .sl _ _ _ _,.v (.slice _ _ c)=>K (.v (.int .i64 c))
 |_,_=>False
theorem QJ{o:Oper}{t:TypeId}{x:Operand}(ho:o.op= .call {callee:= .builtin .cap,args:= #[x],argTypes:= #[t]}){ρD:Operand→DV}{S:St}{K:DV→St→Prop}(h:pQ (tk P t) (ρD x) (K · S)):ah P w0 o ρD S K:=by
 refine bd fun g w ρ h1 h2=>?_;have hx:=h2 x (by simp[ho,Op.operands,Call.operands]);unfold pQ at h;split at h
 ·rename_i hk hx';rw[hx']at hx;rename_i xs
  obtain⟨a,hv⟩:∃a,ρ x= .slice a xs.length xs.length:=by
   rcases fD hx with⟨he,o',c,hv,hf⟩|⟨b,o',c',us,hv',hl,hfl,_⟩
   ·subst he;rw[hv,hf rfl];exact⟨_,rfl⟩
   ·rw[hv',hfl rfl];exact⟨_,rfl⟩
  exact⟨_,_,by simp[execOp,ho,resolve,invoke,builtin,hv,Builtin.cap_,run_underlying (cO hk).1,goInt],.v _ rfl,h⟩
 ·rename_i hk hx';rw[hx']at hx;exact⟨_,_,by simp[execOp,ho,resolve,invoke,builtin,aj hx,Builtin.cap_,run_underlying (cO hk).1,goInt],.v _ rfl,h⟩
 ·exact h.elim
def pJ(d:DV)(o n s:Nat)(y:DV):Option DV:=if o=0∧n=s then some y else match d with
 | .agg ds=>some (.agg (eW ds o (cd y)))
 |_=>none
def cZ(n:Nat)(S:St)(x y:DV)(K:St→Prop):Prop:=match x with
 | .ap l m s i o=>dH y=true∧(cd y).length=n∧(match lk S.acc l with
  |some (.arr s' xs)=>s'=s∧xs.length=m∧o+n≤s∧∃d,xs[i]? =some d∧dH d=true∧∃d',pJ d o n s y=some d'∧K ⟨S.box,up S.acc l (.arr s (xs.set i d'))⟩
  |_=>False)
 |x=>lD n S x y K
theorem DX{g:Gh}{d y:DV}{o n s:Nat}{d':DV}{u v:Value}(hd:az g d u)(hok:dH d=true)(hus:u.cells.size=s)(hy:az g y v)(hoy:dH y=true)(hvn:v.cells.size=n)(hon:o+n≤s)(h:pJ d o n s y=some d'):
 ∃u',az g d' u'∧u'.cells.size=s∧(∀x,x∈u'.cells.toList→x.oneCell'=true)∧∀j,u'.cells[j]? =if o≤j∧j<o+n then v.cells[j-o]? else u.cells[j]? :=by
 unfold pJ at h;split at h
 ·rename_i hc;obtain⟨rfl,rfl⟩:=hc;cases h;refine⟨v,hy,hvn,hy.one hoy,fun j=>?_⟩;split
  ·simp
  ·rename_i hj;rw[X6 (by omega),X6 (by omega)]
 ·split at h
  ·rename_i ds;cases h
   cases hd with
   |agg _ us hl hr h1=>
    have hu':(Value.agg us.toArray).cells=us.toArray:=rfl;have hcl:=hy.cells hoy;have hlu:us.length=s:=by simpa[hu']using hus
    have hR:=gS (o:=o) (g:=g) (ds:=ds) (us:=us) ⟨hl,hr⟩ hcl;have hle:o+v.cells.toList.length≤us.length:=by simp;omega
    refine⟨.agg (aF us o v.cells.toList).toArray,.agg _ _ hR.len hR.at_ (fun x hx=>?_),?_,fun x hx=>?_,fun j=>?_⟩
    ·rcases gH _ _ _ _ hx with hx|hx
     ·exact h1 x hx
     ·exact hy.one hoy x hx
    ·show(aF us o v.cells.toList).toArray.size=s;simp only[Zi];rw[cG _ _ _ hle];simp only[Xj,XT,XY,XW];simp only[XW]at hle;omega
    ·have hx:x∈aF us o v.cells.toList:=by simpa[Value.cells]using hx
     rcases gH _ _ _ _ hx with hx|hx
     ·exact h1 x hx
     ·exact hy.one hoy x hx
    ·show(aF us o v.cells.toList).toArray[j]? =_;rw[List.getElem?_toArray,fj hle];simp[hu',hvn]
  ·cases h
theorem GF{o:Oper}{t:TypeId}{x y:Operand}(ho:o.op= .store t x y){ρD:Operand→DV}{S:St}{K:DV→St→Prop}(hi:(P.info? t).isSome=true)(h:cZ (P.cellsOf t) S (ρD x) (ρD y) (K ud)):ah P w0 o ρD S K:=by
 unfold cZ at h;split at h
 ·rename_i l m s i o' hxe;intro g w ρ h1 h2 hcst;have hx:=h2 x (by simp[ho,Op.operands]);have hy:=h2 y (by simp[ho,Op.operands]);rw[hxe]at hx;obtain⟨hok,hlen,h⟩:=h;split at h
  ·rename_i s' xs hl;obtain⟨rfl,rfl,hon,d,hd,hod,d',hes,hK⟩:=h;have hilt:i<xs.length:=(W6.1 hd).1
   obtain⟨b,q,c0,hval,hrx⟩:∃b q c0,g.acc l xs.length=some (.slice (some ⟨b,q,none⟩) xs.length c0)∧ρ x= .pointer (some ⟨b,q+i*s'+o',none⟩):=by
    generalize hu:ρ x=u at hx
    cases hx with
    |ap _ _ _ _ _ b q c h=>exact⟨b,q,c,h,rfl⟩
   obtain⟨ow,hO⟩:=h1.open_;obtain⟨hs,⟨he,o2,ha⟩|⟨b',c,cs,e,q1,q2,q3,q4,q5,q6,q7,q8,qA,us,q9,q10,q11,q12⟩⟩:=hO.acc l _ (bU hl)
   ·rw[he]at hilt;simp at hilt
   ·have hval':=hval;rw[q1]at hval';simp only[Xr,Value.slice.injEq,Addr.mk.injEq,true_and,and_true]at hval';obtain⟨⟨rfl,rfl⟩,rfl⟩:=hval';simp only[Yb]at hrx;have hul:us.length=xs.length:=q9.len.symm;have hiu:i<us.length:=by omega
    have hui:us[i]? =some us[i]:=W5 hiu;have hru:=q9.at_ i d _ hd hui;have husz:=q10 i _ hui;have hcl:=hy.cells hok;have hvl:(ρ y).cells.size=P.cellsOf t:=by have:=hcl.len;simp at this;omega
    obtain⟨u',r1,r2,r3,r4⟩:=DX hru hod husz hy hok hvl hon hes
    have hbound:i*s'+s'≤cs.size:=by
     rw[q6];have:=XL s' (show i+1≤c by omega);rw[X1]at this;exact this
    have hsize:(Go.sizeOf t).run P w= .ok (P.cellsOf t) w:=by
     obtain⟨ti,hi⟩:=YK.1 hi;simp[Go.sizeOf,typeInfo,hi,Program.cellsOf]
    have hst:=run_storeCells_at (P:=P) b' (i*s'+o') e (ρ y).cells.toList 0 cs w q5 (by simp;omega) (hy.one hok);have hle2:(i*s'+o')+(ρ y).cells.toList.length≤cs.toList.length:=by simp;omega
    have hrun:(execOp ρ o).run P w= .ok .skip (w.setRow b' (aF cs.toList (i*s'+o') (ρ y).cells.toList).toArray):=by
     rw[cG _ _ _ hle2];simp only[YJ]at hst;simp[execOp,ho,hrx,Instr.storeAt,Instr.sureAddr,storeVar,hsize,hvl,hst]
    rw[hrun];have hxs:(xs.set i d').length=xs.length:=by simp
    refine⟨g,_,.refl g,h1.Dx (ys:=xs.set i d') (us:=us.set i u') (b:=b') (c:=c) (e:=e) (cs:=(aF cs.toList (i*s'+o') (ρ y).cells.toList).toArray) hl hval hxs (by omega) ?_ ?_ ?_ ?_ ?_ (q9.set i r1) ?_ ?_ ?_ ?_,hK⟩
    ·exact setRow_heap w b' cs _ e (0,0) q5
    ·rw[Zi,cG _ _ _ hle2];simp only[Xj,XT,XY,XW];simp only[XW]at hle2;rw[←q6];omega
    ·exact h1.below.step ⟨rfl,rfl,rfl,by simp,fun k hk=>setRow_other w b' k _ (by omega),Xa _⟩ b' (kc q5) fun k _ hne=>setRow_other w b' k _ hne
    ·simp
    ·intro k _ hkb;exact setRow_other w b' k _ hkb
    ·intro j u hj;rw[Y1]at hj;split at hj
     ·cases hj;exact r2
     ·exact q10 j u hj
    ·intro u hu;rcases Yh hu with hu|rfl
     ·exact q11 u hu
     ·exact r3
    ·intro i2 u j x hi2 hj;rw[List.getElem?_toArray,fj hle2];rw[Y1]at hi2;split at hi2
     ·rename_i e2;subst e2;cases hi2;rw[r4]at hj;simp only[XW,hvl];split at hj
      ·rename_i hc;rw[if_pos (by omega)];rw[show i*s'+j-(i*s'+o')=j-o' by omega];simpa using hj
      ·rename_i hc;rw[if_neg (by omega)];simpa using q12 i _ j x hui hj
     ·rename_i hne;have hjs:j<s':=by rw[←q10 i2 u hi2];exact(W9.1 hj).1
      rw[if_neg]
      ·simpa using q12 i2 u j x hi2 hj
      ·simp only[XW,hvl];rintro⟨ha,hb⟩;rcases Nat.lt_or_gt_of_ne hne with h'|h'
       ·have:=XL s' (show i+1≤i2 by omega);rw[X1]at this;omega
       ·have:=XL s' (show i2+1≤i by omega);rw[X1]at this;omega
    ·intro x hx;rw[Yi,cG _ _ _ hle2]at hx;rcases Xh.1 hx with hx|hx
     ·rcases Xh.1 hx with hx|hx
      ·exact qA x (X5 hx)
      ·exact hy.one hok x hx
     ·exact qA x (XN hx)
  ·exact h.elim
 ·exact JL ho hi h
end
end Aml
namespace Aml
open Go Go.RowKit
section
variable {P:Program} {w0:W0}
theorem J2{w:World}{t t' ty e:TypeId}{k':IntKind}{i:TypeInfo}{z:Value}(ht:P.underlying t=some (.slice e))(ht':P.underlying t'=some (.int k'))(hi:P.info? e=some i)(hz:i.zero=some z)(hpos:0<i.size)
 {o:Option Addr} {k:IntKind} {n:Nat} (h0:0<n) (h63:n≤maxLen) (hby:n*i.bytes≤140737488355328):
 (Builtin.append_ #[t,t'] ty #[.slice o 0 0,.int k n]).run P w= .ok (.slice (some ⟨w.heap.size,0,none⟩) n (grownCap w n 0 e))
  (w.drew.alloc (.cells (Builtin.zeroCells z.cells n++Builtin.zeroCells z.cells (grownCap w n 0 e-n)) e)):=by
 have hw:IntKind.i64.wrap (n:Int)=n:=oD (by omega) (by unfold maxLen at h63;omega);have c1:¬((n:Int)<0):=by omega
 have hbi:(n:Int)*i.bytes≤140737488355328:=by rw[←Int.natCast_mul];omega
 have c2:¬(281474976710656<(n:Int)*(i.bytes:Int)):=by omega
 have c3:¬(n*i.size=0):=by
  intro h;rcases Nat.mul_eq_zero.1 h with h|h <;>omega
 have c4:¬(9223372036854775807<(n:Int)):=by unfold maxLen at h63;omega
 have hfit:=growslice_fits (need:=n) (old:=0) (bytes:=i.bytes) h0 hby;have c5:¬(281474976710656<Builtin.nextslicecap n 0*i.bytes):=by omega
 have c6:¬(n=0):=by omega
 have c7:¬(i.size=0):=by omega
 have hfc:∀w':World,(Builtin.firstCells i.size 0 (.slice o 0 0)).run P w'= .ok #[] w':=by
  intro w'
  cases o with
  |none=>simp[Builtin.firstCells]
  |some a=>simp[Builtin.firstCells,loadCells,loadCellsFrom]
 simp[Builtin.append_,run_underlying ht,run_underlying ht',Go.sizeOf,typeInfo,hi,zeroValue,hz,asInt,asIntOf,hw,c1,c2,c3,c4,c5,c6,c7,hfc,Question.forced,newRow,grownCap]
def iT(k:TK)(z:DV)(S:St)(x y:DV)(K:DV→St→Prop):Prop:=match k,x,y with
 | .sl _ s by' true,.sl _ true [],.v (.int _ n)=>dH z=true∧0<n∧n*by'≤140737488355328∧n≤9223372036854775807∧∀l,iu S.acc l→K (.acc l n.toNat) ⟨S.box,(l,.arr s (List.replicate n.toNat z))::S.acc⟩
 |_,_,_=>False
theorem DA{z:Value}{m k:Nat}(hk:k<m*z.cells.size):(Builtin.zeroCells z.cells m)[k]? =some (z.cells[k%z.cells.size]!):=by
 simp[Builtin.zeroCells,hk]
theorem DC{o:Oper}{t t':TypeId}{x y:Operand}{k':IntKind}(ho:o.op= .call {callee:= .builtin .append,args:= #[x,y],argTypes:= #[t,t']})(hk':tk P t'= .int k'){ρD:Operand→DV}{S:St}{K:DV→St→Prop}
 (h:iT (tk P t) (zD P (de P t)) S (ρD x) (ρD y) K):ah P w0 o ρD S K:=by
 intro g w ρ h1 h2 hcst;have hx:=h2 x (by simp[ho,Op.operands,Call.operands]);have hy:=h2 y (by simp[ho,Op.operands,Call.operands]);have hut':=iY hk';unfold iT at h;split at h
 ·rename_i e s by' s0 k n hk hxe hye;rw[hxe]at hx;rw[hye]at hy;obtain⟨hok,h0,hby,h63,hK⟩:=h;obtain⟨hu,hs,hbs,hei⟩:=cO hk;obtain⟨ti,z,hi,hz,hzs,hpos⟩:=bV hei;have hsz:ti.size=s:=by simpa[Program.cellsOf,hi]using hs
  have hib:ti.bytes=by':=by simpa[Program.bytesOf,hi]using hbs
  have hel:de P t=e:=by simp[de,hk]
  have hzD:zD P (de P t)=cv z:=by rw[hel];simp[zD,hi,hz]
  have hrz:az g (zD P (de P t)) z:=hzD▸jE g z;obtain⟨N,rfl⟩:=Za (Int.le_of_lt h0);have h0':0<N:=by omega
  have hbn:N*by'≤140737488355328:=by rw[←Int.natCast_mul]at hby;omega
  have hN63:N≤maxLen:=by unfold maxLen;omega
  obtain⟨o',hxv⟩:=cC hx;have hr:=J2 (w:=w) (ty:=o.type) (o:=o') (k:=k) hu hut' hi hz hpos h0' hN63 (by rw[hib];exact hbn);have hcap:=grownCap_ge w N 0 e;have hcm:=grownCap_le_maxLen w N 0 e hN63;generalize hC:grownCap w N 0 e=C at*;have hlenN:(List.replicate N (zD P (de P t))).length=N:=by simp
  have hzc:z.cells.size=s:=by omega
  have hsize:(Builtin.zeroCells z.cells N++Builtin.zeroCells z.cells (C-N)).size=C*s:=by
   rw[Array.size_append,size_zeroCells,size_zeroCells,hzc,←Y5];congr 1;omega
  obtain⟨l,g',hle,hne,hR,hA⟩:=h1.Dv (w':=w.drew.alloc (.cells (Builtin.zeroCells z.cells N++Builtin.zeroCells z.cells (C-N)) e)) (s:=s) (xs:=List.replicate N (zD P (de P t))) (us:=List.replicate N z) (b:=w.heap.size) (c:=C) (e:=e)
   ((gE.refl _ _).drew.alloc (by simp) _) (by omega) (Xa _) (heap_alloc_new w.drew _) hsize (by rw[hlenN];exact hcap) hcm
   ⟨by simp,fun i d u a b=>by
    rw[XQ]at a b;split at a
    ·rename_i hlt;rw[if_pos hlt]at b;simp only[Xr]at a b;subst a;subst b;exact hrz
    ·cases a⟩ (fun i u h=>by rw[XQ]at h;split at h <;>simp_all) (fun u hu x hx=>by rw[Y6 hu]at hx;exact hrz.one hok x hx)
   (fun i u j x a b=>by
    rw[XQ]at a;split at a
    ·rename_i hlt;cases a;have hj:j<s:=by rw[←hzc];exact(W9.1 b).1
     have hk:=lt_mul hlt hj;rw[Array.getElem?_append_left (by rw[size_zeroCells,hzc];exact hk),DA (by rw[hzc];exact hk),hzc];have:(i*s+j)%s=j:=by rw[YL,Nat.add_mul_mod_self_right];exact YG hj
     rw[this];obtain⟨hj',hjx⟩:=W9.1 b;simp[hj',hjx]
    ·cases a)
   (fun x hx=>by
    simp only[YB,Xh]at hx;exact hx.elim (bN (cV hei hi hz) _ x) (bN (cV hei hi hz) _ x))
  rw[hlenN]at hA
  have hex:(execOp ρ o).run P w= .ok (.value (.slice (some ⟨w.heap.size,0,none⟩) N C)) (w.drew.alloc (.cells (Builtin.zeroCells z.cells N++Builtin.zeroCells z.cells (C-N)) e)):=by
   simp[execOp,ho,resolve,invoke,builtin,hxv,aj hy,hr]
  rw[hex];exact⟨g',_,_,hle,hR,hA,hK l (cg hne)⟩
 ·exact h.elim
def eM:Operand→Bool
 | .const (.slice none 0 0)=>true
 |_=>false
def lE(op:BinOp)(k:TK)(x:DV)(K:DV→Prop):Prop:=match k,op,x with
 | .sl _ _ _ _,.eql,.sl _ _ xs=>∀b:Bool,(xs≠[]→b=false)→K (.v (.bool b))
 | .sl _ _ _ _,.neq,.sl _ _ xs=>∀b:Bool,(xs≠[]→b=true)→K (.v (.bool b))
 | .sl _ _ _ _,.eql,.acc _ n=>∀b:Bool,(n≠0→b=false)→K (.v (.bool b))
 | .sl _ _ _ _,.neq,.acc _ n=>∀b:Bool,(n≠0→b=true)→K (.v (.bool b))
 | .sl _ _ _ _,.eql,.v (.slice (some _) _ _)=>K (.v (.bool false))
 | .sl _ _ _ _,.neq,.v (.slice (some _) _ _)=>K (.v (.bool true))
 |_,_,_=>False
theorem vE{t e:TypeId}{w:World}(ht:P.underlying t=some (.slice e))(a:Option Addr)(n c:Nat):(Op.equal t (.slice a n c) (.slice none 0 0)).run P w= .ok a.isNone w:=by
 rw[gi,Op.equalIn,Sem.run_bind,run_underlying ht];cases a <;>rfl
theorem Ks{o:Oper}{op:BinOp}{t t':TypeId}{x y:Operand}(ho:o.op= .binOp op t x y t')(hy:eM y=true){ρD:Operand→DV}{S:St}{K:DV→St→Prop}
 (h:lE op (tk P t) (ρD x) (K · S)):ah P w0 o ρD S K:=by
 refine Hf fun g w ρ h1 h2 hcst=>?_;have hx:=h2 x (by simp[ho,Op.operands])
 have hyv:ρ y= .slice none 0 0:=by
  unfold eM at hy;split at hy
  ·exact hcst _
  ·cases hy
 have acc:∀{l n:Nat},ρD x= .acc l n→∃a c,ρ x= .slice a n c∧(n≠0→a.isNone=false):=by
  intro l n e;rw[e]at hx;obtain⟨o',c,hv,ha⟩:=dM hx;obtain⟨o2,c2,e2,e3⟩:=h1.dD _ _ _ ha;simp only[Value.slice.injEq,true_and]at e2;refine⟨o',c,hv,fun hn=>?_⟩;rcases e3 with e3|⟨b,q,e3⟩
  ·exact absurd e3 hn
  ·rw[e2.1,e3];rfl
 have sl:∀{s:Nat} {f:Bool} {xs:List DV},ρD x= .sl s f xs→∃a c,ρ x= .slice a xs.length c∧(xs≠[]→a.isNone=false):=by
  intro s f xs e;rw[e]at hx;rcases fD hx with⟨he,o',c,hv,_⟩|⟨b,o',c',us,hv',_⟩
  ·subst he;exact⟨o',c,hv,fun h=>absurd rfl h⟩
  ·exact⟨_,_,hv',fun _=>rfl⟩
 have fin:∀{a:Option Addr} {n c:Nat} {e:TypeId},P.underlying t=some (.slice e)→ρ x= .slice a n c→(op= .eql→(execOp ρ o).run P w= .ok (.value (.bool a.isNone)) w)∧(op= .neq→(execOp ρ o).run P w= .ok (.value (.bool (!a.isNone))) w):=by
  intro a n c e hu hv;constructor
  ·rintro rfl;simp only[execOp,ho,hv,hyv,Sem.run_bind];rw[aS (by simp) (by simp)];simp only[Result.andThen_ok,(ft rfl rfl (vE hu a n c)).1];rfl
  ·rintro rfl;simp only[execOp,ho,hv,hyv,Sem.run_bind];rw[aS (by simp) (by simp)];simp only[Result.andThen_ok,(ft rfl rfl (vE hu a n c)).2];rfl
 unfold lE at h;split at h
 ·rename_i hk e;obtain⟨a,c,hv,hn⟩:=sl e;exact⟨_,_,(fin (cO hk).1 hv).1 rfl,.v _ rfl,h _ hn⟩
 ·rename_i hk e;obtain⟨a,c,hv,hn⟩:=sl e;exact⟨_,_,(fin (cO hk).1 hv).2 rfl,.v _ rfl,h _ fun q=>by rw[hn q];rfl⟩
 ·rename_i hk e;obtain⟨a,c,hv,hn⟩:=acc e;exact⟨_,_,(fin (cO hk).1 hv).1 rfl,.v _ rfl,h _ hn⟩
 ·rename_i hk e;obtain⟨a,c,hv,hn⟩:=acc e;exact⟨_,_,(fin (cO hk).1 hv).2 rfl,.v _ rfl,h _ fun q=>by rw[hn q];rfl⟩
 ·rename_i a n c hk e;rw[e]at hx;exact⟨_,_,(fin (cO hk).1 (aj hx)).1 rfl,.v _ rfl,h⟩
 ·rename_i a n c hk e;rw[e]at hx;exact⟨_,_,(fin (cO hk).1 (aj hx)).2 rfl,.v _ rfl,h⟩
 ·exact h.elim
def rQ(S:St)(x:DV)(z:Nat)(K:DV→St→Prop):Prop:=match x with
 | .acc l n=>match lk S.acc l with
  |some (.arr s xs)=>xs.length=n∧∀l',iu S.acc l'→K (.acc l' z) ⟨S.box,Ix S.acc l (l',.arr s (xs.take z))⟩
  |_=>False
 |_=>False
def OK(m:Nat):Option DV→Prop
 |some (.v (.int _ n))=>(n==0)=true∨(0≤n∧n≤m)
 |_=>False
def PF:Option DV→Nat
 |some (.v (.int _ n))=>n.toNat
 |_=>0
def fJ(k:TK)(S:St)(x:DV)(lo hi mx:Option DV)(K:DV→St→Prop):Prop:=match x with
 | .acc l n=>(lo.isNone=true∧mx.isNone=true∧OK n hi∧(∃e s b,k= .sl e s b true)∧rQ S (.acc l n) (PF hi) K)∨gN k S (.acc l n) lo hi mx K
 |x=>gN k S x lo hi mx K
theorem E7{o:Oper}{t:TypeId}{x:Operand}{lo hi mx:Option Operand}(ho:o.op= .slice t x lo hi mx){ρD:Operand→DV}{S:St}{K:DV→St→Prop}
 (hh:mx.isSome=true→hi.isSome=true) (hne:(lo≠some x∧hi≠some x∧mx≠some x)) (h:fJ (tk P t) S (ρD x) (lo.map ρD) (hi.map ρD) (mx.map ρD) K):ah P w0 o ρD S K:=by
 unfold fJ at h;split at h
 ·rename_i l n hxe;rcases h with⟨e1,e2,e3,⟨e,s,by',hk⟩,h⟩|h
  ·intro g w ρ h1 h2 hcst;have hx:=h2 x (by simp[ho,Op.operands]);have el:lo=none:=by cases lo <;>simp_all
   have em:mx=none:=by cases mx <;>simp_all
   subst el;subst em
   cases hi with
   |none=>simp[OK]at e3
   |some y=>
    have hy:=h2 y (by simp[ho,Op.operands]);simp only[XB,OK]at e3;split at e3
    ·rename_i k m hye;simp only[Xr]at hye;rw[hye]at hy
     obtain⟨z,rfl,hz⟩:∃z:Nat,m=z∧z≤n:=by
      rcases e3 with e3|⟨e3,e4⟩
      ·exact⟨0,by simpa using e3,Xl _⟩
      ·exact⟨m.toNat,by omega,by omega⟩
     have hat:PF (some (ρD y))=z:=by rw[hye];simp[PF]
     rw[XB,hat]at h;simp only[rQ]at h
     ·split at h
      ·rename_i s' xs hl;obtain⟨rfl,hK⟩:=h;rw[hxe]at hx;obtain⟨a,c,hv,ha⟩:=dM hx
       have hcap:xs.length≤c:=by
        obtain⟨ow,ho⟩:=h1.open_;obtain⟨_,us,a',c',q1,_,_,_,q5,_⟩:=ho.iE hl (.inl rfl) ha;simp only[Value.slice.injEq,true_and]at q1;rw[q1.2];exact q5
       obtain⟨l2,g',hle,hne2,hR,hA⟩:=h1.cut hl hz ha;obtain⟨hu,hs,hbs,hei⟩:=cO hk
       have hsize:(Go.sizeOf e).run P w= .ok s w:=by
        obtain⟨j,z',hq,_,_,_⟩:=bV hei;unfold Program.cellsOf at hs;simp[hq]at hs;simp[Go.sizeOf,typeInfo,hq,hs]
       have hrun:(execOp ρ o).run P w= .ok (.value (.slice a z c)) w:=by
        have hb:(Instr.sliceBounds true xs.length c none (some (.int k (z:Int))) none).run P w= .ok (0,z,c) w:=by
         have:(Instr.sliceBound (.int k (z:Int)) c .sliceAcap).run P w= .ok z w:=by
          have:=av (P:=P) (k:=k) (i:=(z:Int)) (y:=c) (code:= .sliceAcap) (w:=w) (by omega) (by omega);simpa using this
         simp[Instr.sliceBounds,this,av]
        simp[execOp,ho,hv,Instr.sliceAt,Instr.slice,run_underlying hu,aj hy,hb,hsize];cases a <;>simp[Addr.add]
       rw[hrun];exact⟨g',_,_,hle,by simpa using hR,hA,hK l2 (cg hne2)⟩
      ·exact h.elim
    ·cases e3
  ·exact vH ho hh hne (by rw[hxe];exact h)
 ·exact vH ho hh hne h
end
end Aml
namespace Aml
open Go Go.RowKit
inductive FK where
 |int (k:IntKind)
 |str
 |bool
def MP(P:Program)(T:TypeId):Option FK:=match P.underlying T with
 |some (.int k)=>some (.int k)
 |some .string=>some .str
 |some .bool=>some .bool
 |_=>none
def qc(P:Program):Nat→List Field→Option (List FK)
 |_,[]=>some []
 |i,f::fs=>if(f.name != "_" &&f.offset==i&&!dq P f.type)=true then(match MP P f.type,qc P (i+1) fs with
  |some k,some ks=>some (k::ks)
  |_,_=>none)else none
def nI(P:Program)(t:TypeId):Option (List FK):=match P.underlying t with
 |some (.struct _)=>if(!P.stoodInHeld t&&!P.eqGuardType P.depth t)=true then qc P 0 (P.fieldsOf t).toList else none
 |_=>none
def eI:List FK→List DV→List DV→Bool→(Bool→Prop)→Prop
 |[],[],[],r,F=>F r
 | .int k::ks,.v (.int k1 m)::la,.v (.int k2 n)::bs,r,F=>k1=k∧k2=k∧eI ks la bs (r&&decide (m=n)) F
 | .str::ks,.v (.string a)::la,.v (.string b)::bs,r,F=>eI ks la bs (r&&decide (a.data.toList=b.data.toList)) F
 | .bool::ks,.v (.bool a)::la,.v (.bool b)::bs,r,F=>eI ks la bs (r&&(a==b)) F
 |_,_,_,_,_=>False
theorem iU:∀{ks:List FK} {la bs:List DV} {F:Bool→Prop},eI ks la bs false F→F false
 |[],[],[],F,h=>h
 | .int k::ks,.v (.int k1 m)::la,.v (.int k2 n)::bs,F,h=>iU h.2.2
 | .str::ks,.v (.string a)::la,.v (.string b)::bs,F,h=>iU (la:=la) (bs:=bs) h
 | .bool::ks,.v (.bool a)::la,.v (.bool b)::bs,F,h=>iU (la:=la) (bs:=bs) h
theorem fU:∀{ks:List FK} {la bs:List DV} {r:Bool} {F G:Bool→Prop},(∀r,F r→G r)→eI ks la bs r F→eI ks la bs r G
 |[],[],[],r,F,G,hk,h=>hk _ h
 | .int k::ks,.v (.int k1 m)::la,.v (.int k2 n)::bs,r,F,G,hk,h=>⟨h.1,h.2.1,fU hk h.2.2⟩
 | .str::ks,.v (.string a)::la,.v (.string b)::bs,r,F,G,hk,h=>fU (la:=la) (bs:=bs) hk h
 | .bool::ks,.v (.bool a)::la,.v (.bool b)::bs,r,F,G,hk,h=>fU (la:=la) (bs:=bs) hk h
theorem ko:∀{ks:List FK} {la bs:List DV} {r:Bool} {F:Bool→Prop},eI ks la bs r F→∃q,eI ks la bs r (·=q)∧F q
 |[],[],[],r,F,h=>⟨r,rfl,h⟩
 | .int k::ks,.v (.int k1 m)::la,.v (.int k2 n)::bs,r,F,h=>let⟨q,a,b⟩:=ko h.2.2;⟨q,⟨h.1,h.2.1,a⟩,b⟩
 | .str::ks,.v (.string a)::la,.v (.string b)::bs,r,F,h=>let⟨q,a,b⟩:=ko (ks:=ks) (la:=la) (bs:=bs) h;⟨q,a,b⟩
 | .bool::ks,.v (.bool a)::la,.v (.bool b)::bs,r,F,h=>let⟨q,a,b⟩:=ko (ks:=ks) (la:=la) (bs:=bs) h;⟨q,a,b⟩
section
variable {P:Program} {w0:W0}
def Ti:FK→TypeDesc
 | .int k=> .int k
 | .str=> .string
 | .bool=> .bool
def Qg:FK→DV→DV→Bool→Prop
 | .int k,a,b,q=>∃m n,a= .v (.int k m)∧b= .v (.int k n)∧q=decide (m=n)
 | .str,a,b,q=>∃m n,a= .v (.string m)∧b= .v (.string n)∧q=decide (m.data.toList=n.data.toList)
 | .bool,a,b,q=>∃m n,a= .v (.bool m)∧b= .v (.bool n)∧q=(m==n)
theorem BH:∀{la bs:List DV} {r:Bool} {F:Bool→Prop},eI [] la bs r F→F r
 |[],[],r,F,h=>h
theorem yf:∀{k:FK} {ks:List FK} {la bs:List DV} {r:Bool} {F:Bool→Prop},eI (k::ks) la bs r F→∃a la' b bs' q0,la=a::la'∧bs=b::bs'∧eI ks la' bs' (r&&q0) F∧Qg k a b q0
 | .int k,ks,.v (.int k1 m)::la,.v (.int k2 n)::bs,r,F,⟨h1,h2,h⟩=>⟨_,_,_,_,_,rfl,rfl,h,m,n,by rw[h1],by rw[h2],rfl⟩
 | .str,ks,.v (.string a)::la,.v (.string b)::bs,r,F,h=>⟨_,_,_,_,_,rfl,rfl,h,a,b,rfl,rfl,rfl⟩
 | .bool,ks,.v (.bool a)::la,.v (.bool b)::bs,r,F,h=>⟨_,_,_,_,_,rfl,rfl,h,a,b,rfl,rfl,rfl⟩
theorem nj{T:TypeId}{k:FK}(h:MP P T=some k):P.underlying T=some (Ti k):=by
 unfold MP at h;split at h <;>first|(cases h;assumption)|cases h
theorem oQ{g:Gh}{us vs:List Value}{w:World}{d:Nat}{F:Bool→Prop}:∀(fs:List Field) {i:Nat} {ks:List FK} {la bs:List DV} {r:Bool},qc P i fs=some ks→ae g la (us.drop i)→ae g bs (vs.drop i)→eI ks la bs r F→
 ∃q,(Op.eqFields (d+1) us.toArray vs.toArray fs).run P w= .ok q w∧F (r&&q)
 |[],i,ks,la,bs,r,hf,ha,hb,h=>by
  simp only[qc,Xr]at hf;subst hf;refine⟨true,by simp[Op.eqFields],?_⟩;rw[Bool.and_true];exact BH h
 |f::fs,i,ks,la,bs,r,hf,ha,hb,h=>by
  simp only[qc]at hf;split at hf
  ·rename_i hc;simp only[W8,bne_iff_ne,ne_eq,beq_iff_eq,XE]at hc;obtain⟨⟨hn,ho⟩,hag⟩:=hc;split at hf
   ·rename_i k ks' hk hks;simp only[Xr]at hf;subst hf;have hu:=nj hk
    have step:∀{a b:DV} {la' bs':List DV} {q0:Bool},la=a::la'→bs=b::bs'→
     (∀u v,az g a u→az g b v→(Op.equalIn (d+1) f.type u v).run P w= .ok q0 w)→eI ks' la' bs' (r&&q0) F→∃q,(Op.eqFields (d+1) us.toArray vs.toArray (f::fs)).run P w= .ok q w∧F (r&&q):=by
     rintro a b la' bs' q0 rfl rfl hq h;obtain⟨u,us',e1,a1,a2⟩:=ha.cM;obtain⟨v,vs',e2,b1,b2⟩:=hb.cM;have hu1:us[i]? =some u:=by have:=congrArg (·[0]?) e1;simpa[XV]using this
     have hv1:vs[i]? =some v:=by have:=congrArg (·[0]?) e2;simpa[XV]using this
     have p1:=fa (P:=P) (w:=w) (us:=us) (off:=f.offset) hag (by rw[hu];rfl) (by rw[ho];exact hu1);have p2:=fa (P:=P) (w:=w) (us:=vs) (off:=f.offset) hag (by rw[hu];rfl) (by rw[ho];exact hv1);have p3:=hq u v a1 b1;have d1:us.drop (i+1)=us':=by rw[←Yj,e1];rfl
     have d2:vs.drop (i+1)=vs':=by rw[←Yj,e2];rfl
     cases q0 with
     |false=>
      refine⟨false,?_,?_⟩
      ·simp[Op.eqFields,hn,p1,p2,p3]
      ·rw[Bool.and_false]at h ⊢;exact iU h
     |true=>
      rw[Bool.and_true]at h;obtain⟨q,r1,r2⟩:=oQ (d:=d) (w:=w) fs hks (by rw[d1];exact a2) (by rw[d2];exact b2) h;exact⟨q,by simp[Op.eqFields,hn,p1,p2,p3,r1],r2⟩
    obtain⟨a,la',b,bs',q0,ea,eb,h',hq⟩:=yf h;refine step ea eb (fun u v r1 r2=>?_) h'
    cases k with
    |int k=>
     obtain⟨m,n,rfl,rfl,rfl⟩:=hq;cases r1;cases r2;rw[run_equalIn_int w d f.type _ _ m n hu,sW]
    |str=>
     obtain⟨m,n,rfl,rfl,rfl⟩:=hq;cases r1;cases r2;rw[run_equalIn_string w d f.type m n hu,ByteArray.toList_eq,ByteArray.toList_eq,Gv]
    |bool=>
     obtain⟨m,n,rfl,rfl,rfl⟩:=hq;cases r1;cases r2;rw[run_equalIn_bool' w d f.type m n hu]
   ·cases hf
  ·cases hf
def cz:List FK→Option (List IntKind)
 |[]=>some []
 | .int k::l=>(cz l).map (k::·)
 |_=>none
theorem pN:∀{fks:List FK} {ks:List IntKind} {us vs:List Value} {r:Bool},cz fks=some ks→aq ks us=true→aq ks vs=true→eI fks (us.map .v) (vs.map .v) r (fun x=>x=(r&& @decide (us=vs) (Classical.propDecidable _)))
 |[],ks,us,vs,r,h,h1,h2=>by
  cases h;cases us <;>cases vs <;>first|(simp[aq]at h1;done)|(simp[aq]at h2;done)|simp[eI]
 | .int k::fks,ks,us,vs,r,h,h1,h2=>by
  simp only[cz,Xb]at h;obtain⟨ks',hk,rfl⟩:=h
  cases us with
  |nil=>simp[aq]at h1
  |cons u us=>
   cases vs with
   |nil=>simp[aq]at h2
   |cons v vs=>
    cases u <;>simp[aq]at h1;cases v <;>simp[aq]at h2;rename_i k1 a k2 b;have:=pN (r:=r&&decide (a=b)) hk h1.2 h2.2;simp only[Xy,eI];refine⟨h1.1,h2.1,fU (fun x hx=>?_) this⟩;rw[hx,Bool.and_assoc];congr 1;obtain⟨rfl,_⟩:=h1;obtain⟨rfl,_⟩:=h2;by_cases e1:a=b
    ·by_cases e2:us=vs
     ·simp[e1,e2]
     ·simp[e1,e2]
    ·simp[e1]
theorem ku{g:Gh}{us:List Value}(h:∀u,u∈us→u.oneCell'=true):ae g (us.map .v) us:=⟨by simp,fun i d u a b=>by
 rw[Xd,b]at a;cases a;exact .v u (h u (W7 b))⟩
theorem gz:∀{ks:List IntKind} {us:List Value},aq ks us=true→∀u,u∈us→u.oneCell'=true
 |[],[],_,u,hu=>by cases hu
 |[],_::_,h,_,_=>by simp[aq]at h
 |_::_,[],h,_,_=>by simp[aq]at h
 |k::ks,a::us,h,u,hu=>by
  cases a <;>simp[aq]at h;rcases Xm.1 hu with rfl|hu
  ·rfl
  ·exact gz h.2 u hu
theorem PL{kt:TypeId}{fks:List FK}{ks:List IntKind}(he:nI P kt=some fks)(hk:cz fks=some ks){us vs:List Value}(h1:aq ks us=true)(h2:aq ks vs=true)(w:World):
 (Op.equal kt (.agg us.toArray) (.agg vs.toArray)).run P w= .ok (@decide (us=vs) (Classical.propDecidable _)) w:=by
 unfold nI at he;split at he
 ·rename_i fs hst;split at he
  ·rename_i hc;simp only[W8,XE]at hc;have hfo:P.underlying kt=some (.struct (P.fieldsOf kt)):=by unfold Program.fieldsOf;rw[hst]
   have g:Gh:=⟨fun _ _=>none,fun _ _=>none,fun _=>none,[]⟩;obtain⟨q,r1,r2⟩:=oQ (P:=P) (w:=w) (d:=9998) (g:=g) (us:=us) (vs:=vs) (P.fieldsOf kt).toList he (by rw[Yy];exact ku (gz h1)) (by rw[Yy];exact ku (gz h2)) (pN hk h1 h2);rw[Yw,Yw]at r2;show(Op.equalIn 10000 kt _ _).run P w=_;rw[run_equalIn_struct w 9999 kt _ _ hfo hc.1,r1,r2]
  ·cases he
 ·cases he
theorem dv{ks:List IntKind}{k:Value}(h:isKey (.st ks) k=true):∃us:List Value,k= .agg us.toArray∧aq ks us=true:=by
 cases k <;>simp[isKey]at h;rename_i us;exact⟨us.toList,by simp,h⟩
theorem pg{kt:TypeId}{fks:List FK}{ks:List IntKind}(he:nI P kt=some fks)(hk:cz fks=some ks){k:Value}(h1:isKey (.st ks) k=true)(w:World):∀(l:List MapEntry) (i:Nat),(∀x,x∈l→isKey (.st ks) x.key=true)→
 ((Instr.findAsking kt k l i).run P w= .ok none w∧∀x,x∈l→x.key≠k)∨∃j e,(Instr.findAsking kt k l i).run P w= .ok (some (i+j,e.val)) w∧l[j]? =some e∧e.key=k
 |[],i,_=> .inl ⟨by simp[Instr.findAsking],by simp⟩
 |e::es,i,hall=>by
  obtain⟨us,rfl,hu⟩:=dv h1;obtain⟨vs,hv,hv2⟩:=dv (hall e (by simp));have hr:=PL he hk hu hv2 w;by_cases hx:us=vs
  ·refine .inr ⟨0,e,?_,rfl,by rw[hv,hx]⟩;rw[show @decide (us=vs) (Classical.propDecidable _)=true from by simp[hx]]at hr;simp[Instr.findAsking,hv,hr]
  ·rw[show @decide (us=vs) (Classical.propDecidable _)=false from by simp[hx]]at hr
   have hne:e.key≠ .agg us.toArray:=by
    rw[hv];intro h;simp at h;exact hx h.symm
   rcases pg he hk h1 w es (i+1) (fun x hx=>hall x (by simp[hx]))with⟨a,b⟩|⟨j,e',a,b,c⟩
   ·refine .inl ⟨?_,fun x hx=>?_⟩
    ·simp[Instr.findAsking,hv,hr,a]
    ·rcases Xm.1 hx with rfl|hx
     ·exact hne
     ·exact b x hx
   ·refine .inr ⟨j+1,e',?_,by simpa using b,c⟩;simp[Instr.findAsking,hv,hr,a,Ya,YL 1 j]
theorem Gw{kt:TypeId}{fks:List FK}{ks:List IntKind}(he:nI P kt=some fks)(hk:cz fks=some ks){us:List Value}(h:aq ks us=true)(em:Bool)(w:World):(Instr.checkKey em 10000 kt (.agg us.toArray)).run P w= .ok () w:=by
 unfold nI at he;split at he
 ·rename_i fs0 hst;split at he
  ·have hfo:P.underlying kt=some (.struct (P.fieldsOf kt)):=by unfold Program.fieldsOf;rw[hst]
   rw[show(10000:Nat)=9998+1+1 from rfl,Instr.checkKey];simp only[Sem.run_bind,run_underlying hfo,Result.andThen_ok];rw[←Array.forIn_toList];have h':aq ks (us.drop 0)=true:=by simpa using h
   clear h hst hfo;generalize (P.fieldsOf kt).toList=L at he;generalize (0:Nat)=i at he h'
   induction L generalizing i fks ks with
   |nil=>simp
   |cons f fs ih=>
    simp only[qc]at he;split at he
    ·rename_i hc;simp only[W8,bne_iff_ne,ne_eq,beq_iff_eq,XE]at hc;obtain⟨⟨hn,ho⟩,hag⟩:=hc;split at he
     ·rename_i k ks' hkf hks;simp only[Xr]at he;subst he
      cases k with
      |int k=>
       simp only[cz,Xb]at hk;obtain⟨ks2,hk2,rfl⟩:=hk;have hu:=nj hkf
       obtain⟨u,us',e1⟩:∃u us',us.drop i=u::us':=by
        cases hd:us.drop i with
        |nil=>rw[hd]at h';simp[aq]at h'
        |cons a b=>exact⟨a,b,rfl⟩
       rw[e1]at h';have hu1:us[i]? =some u:=by have:=congrArg (·[0]?) e1;simpa[XV]using this
       have p1:=fa (P:=P) (w:=w) (us:=us) (off:=f.offset) hag (by rw[hu];rfl) (by rw[ho];exact hu1);have d1:us.drop (i+1)=us':=by rw[←Yj,e1];rfl
       cases u <;>simp[aq]at h';obtain⟨rfl,h'⟩:=h';rename_i k1 a;have p2:(Instr.checkKey em (9998+1) f.type (.int k1 a)).run P w= .ok () w:=MapKept.run_checkKey hu (by simp[Ti,MapKept.IsKey]) em 9998;simp only[List.forIn_cons,Sem.run_bind,hn,ne_eq,not_false_eq_true,if_true,Result.andThen_ok,p1,p2,Sem.run_pure];exact ih hk2 (i+1) hks (by rw[d1];exact h')
      |str=>simp[cz]at hk
      |bool=>simp[cz]at hk
     ·cases he
    ·cases he
  ·cases he
 ·cases he
theorem nG(n:Nat):∀{ks:List IntKind} {us:List Value},aq ks us=true→((us.zip us).all fun(x,y)=>Instr.sameBits n x y)=true
 |[],[],_=>rfl
 |[],_::_,h=>by simp[aq]at h
 |_::_,[],h=>by simp[aq]at h
 |k::ks,a::us,h=>by
  cases a <;>simp[aq]at h;have:=nG n h.2;rw[List.zip_cons_cons,Zc,this,Bool.and_true];cases n <;>simp[Instr.sameBits]
theorem uA{ks:List IntKind}{us:List Value}(h:aq ks us=true)(w:World):(Instr.keyThatStays (.agg us.toArray) (.agg us.toArray)).run P w= .ok (.agg us.toArray) w:=by
 have:=nG 9999 h
 have h2:Instr.sameBits 10000 (.agg us.toArray) (.agg us.toArray)=true:=by
  show((us.toArray.size==us.toArray.size)&&_)=true;simp[this]
 unfold Instr.keyThatStays;rw[if_pos h2];simp
end
end Aml
namespace Aml
open Go Go.RowKit
variable {P:Program} {w0:W0}
def TJ(P:Program)(T:TypeId):Option (List IntKind):=match P.underlying T with
 |some (.int k)=>some [k]
 |some (.struct _)=>(nI P T).bind fun f=>(cz f).bind fun ks=>if(P.cellsOf T==ks.length&&dq P T&&(P.info? T).isSome)=true then some ks else none
 |_=>none
def BW(P:Program):Nat→List Field→Option (List IntKind)
 |_,[]=>some []
 |i,f::fs=>if(f.name != "_" &&f.offset==i)=true then(TJ P f.type).bind fun ks=>(BW P (i+ks.length) fs).map (ks++·)else none
theorem mj:∀{ks1 ks2:List IntKind} {l:List Value},aq (ks1++ks2) l=true→aq ks1 (l.take ks1.length)=true∧aq ks2 (l.drop ks1.length)=true
 |[],ks2,l,h=>⟨by simp[aq],h⟩
 |k::ks1,ks2,[],h=>by simp[aq]at h
 |k::ks1,ks2,u::l,h=>by
  cases u <;>simp[aq]at h;obtain⟨h1,h2⟩:=h;have:=mj h2;simp[aq,h1,this]
theorem jU:∀{ks:List IntKind} {l:List Value},aq ks l=true→l.length=ks.length
 |[],[],_=>rfl
 |[],_::_,h=>by simp[aq]at h
 |_::_,[],h=>by simp[aq]at h
 |k::ks,u::l,h=>by
  cases u <;>simp[aq]at h;have:=jU h.2;simp[this]
theorem MX{kt:TypeId}{fks:List FK}{ks:List IntKind}(he:nI P kt=some fks)(hk:cz fks=some ks){us vs:List Value}(h1:aq ks us=true)(h2:aq ks vs=true)(d:Nat)(w:World):
 (Op.equalIn (d+2) kt (.agg us.toArray) (.agg vs.toArray)).run P w= .ok (@decide (us=vs) (Classical.propDecidable _)) w:=by
 unfold nI at he;split at he
 ·rename_i fs hst;split at he
  ·rename_i hc;simp only[W8,XE]at hc;have hfo:P.underlying kt=some (.struct (P.fieldsOf kt)):=by unfold Program.fieldsOf;rw[hst]
   have g:Gh:=⟨fun _ _=>none,fun _ _=>none,fun _=>none,[]⟩;obtain⟨q,r1,r2⟩:=oQ (P:=P) (w:=w) (d:=d) (g:=g) (us:=us) (vs:=vs) (P.fieldsOf kt).toList he (by rw[Yy];exact ku (gz h1)) (by rw[Yy];exact ku (gz h2)) (pN hk h1 h2);rw[Yw,Yw]at r2;rw[run_equalIn_struct w (d+1) kt _ _ hfo hc.1,r1,r2]
  ·cases he
 ·cases he
theorem Qt{us vs:List Value}{w:World}{d:Nat}:∀(fs:List Field) {i:Nat} {ks:List IntKind},BW P i fs=some ks→aq ks (us.drop i)=true→aq ks (vs.drop i)=true→
 (Op.eqFields (d+2) us.toArray vs.toArray fs).run P w= .ok (@decide (us.drop i=vs.drop i) (Classical.propDecidable _)) w
 |[],i,ks,hf,h1,h2=>by
  simp only[BW,Xr]at hf;subst hf;have e1:=jU h1;have e2:=jU h2;rw[Xn e1,Xn e2];simp[Op.eqFields]
 |f::fs,i,ks,hf,h1,h2=>by
  simp only[BW]at hf;split at hf
  ·rename_i hc;simp only[W8,bne_iff_ne,ne_eq,beq_iff_eq]at hc;obtain⟨hn,ho⟩:=hc;obtain⟨ka,hka,hf⟩:=Ye.1 hf;obtain⟨kb,hkb,rfl⟩:=Xb.1 hf;obtain⟨a1,a2⟩:=mj h1;obtain⟨b1,b2⟩:=mj h2;rw[Yj]at a2 b2;have ih:=Qt (d:=d) (w:=w) fs hkb a2 b2
   have key:∃u v,(part f.type us.toArray f.offset).run P w= .ok u w∧(part f.type vs.toArray f.offset).run P w= .ok v w∧(Op.equalIn (d+2) f.type u v).run P w= .ok (@decide ((us.drop i).take ka.length=(vs.drop i).take ka.length) (Classical.propDecidable _)) w:=by
    unfold TJ at hka;split at hka
    ·rename_i k hu;cases hka;have hag:dq P f.type=false:=by unfold dq;rw[hu]
     have one:∀{l:List Value},aq [k] ((l.drop i).take 1)=true→∃a,l[i]? =some (.int k a)∧(l.drop i).take 1=[.int k a]:=fun{l} h=>by
      have hl:=jU h
      cases hd:l.drop i with
      |nil=>rw[hd]at hl;simp at hl
      |cons x t=>
       rw[hd]at h;cases x <;>simp[aq]at h;rename_i k' a;subst h;refine⟨a,?_,rfl⟩;have:=congrArg (·[0]?) hd;simpa[XV]using this
     obtain⟨m,m1,m2⟩:=one a1;obtain⟨n,n1,n2⟩:=one b1;refine⟨.int k m,.int k n,fa hag (by rw[hu];rfl) (by rw[ho];exact m1),fa hag (by rw[hu];rfl) (by rw[ho];exact n1),?_⟩;rw[run_equalIn_int w (d+1) f.type _ _ m n hu,show([k]:List IntKind).length=1 from rfl,m2,n2];congr 1;by_cases e:m=n <;>simp[e]
    ·rename_i fs0 hu;obtain⟨fks,e1,hka⟩:=Ye.1 hka;obtain⟨ks0,e2,hka⟩:=Ye.1 hka;split at hka
     ·rename_i hcc;simp only[W8,beq_iff_eq]at hcc;cases hka;refine⟨_,_,lP hcc.1.2 hcc.2,lP hcc.1.2 hcc.2,?_⟩;rw[ho,hcc.1.1];exact MX e1 e2 a1 b1 d w
     ·cases hka
    ·cases hka
   obtain⟨u,v,p1,p2,p3⟩:=key
   have hsplit:us.drop i=vs.drop i↔(us.drop i).take ka.length=(vs.drop i).take ka.length∧us.drop (i+ka.length)=vs.drop (i+ka.length):=by
    constructor
    ·intro h;rw[←Yj,←Yj,h];exact⟨rfl,rfl⟩
    ·rintro⟨q1,q2⟩;rw[←Yj,←Yj]at q2;rw[←YX ka.length (us.drop i),q1,q2,YX]
   by_cases e1:(us.drop i).take ka.length=(vs.drop i).take ka.length
   ·rw[show @decide ((us.drop i).take ka.length=(vs.drop i).take ka.length) (Classical.propDecidable _)=true from by simp[e1]]at p3;simp only[Op.eqFields,hn,p1,p2,p3,ne_eq,not_false_eq_true,if_true,Sem.run_bind,Result.andThen_ok,ih];congr 1;by_cases e2:us.drop (i+ka.length)=vs.drop (i+ka.length)
    ·simp[hsplit,e1,e2];rw[ih];simp[e2]
    ·simp[hsplit,e1,e2];rw[ih];simp[e2]
   ·rw[show @decide ((us.drop i).take ka.length=(vs.drop i).take ka.length) (Classical.propDecidable _)=false from by simp[e1]]at p3;simp[Op.eqFields,hn,p1,p2,p3,hsplit,e1]
  ·cases hf
def mJ(P:Program)(t:TypeId):Option (List IntKind):=match P.underlying t with
 |some (.struct _)=>if(!P.stoodInHeld t&&!P.eqGuardType P.depth t)=true then BW P 0 (P.fieldsOf t).toList else none
 |_=>none
theorem NX{kt:TypeId}{ks:List IntKind}(he:mJ P kt=some ks){us vs:List Value}(h1:aq ks us=true)(h2:aq ks vs=true)(w:World):
 (Op.equal kt (.agg us.toArray) (.agg vs.toArray)).run P w= .ok (@decide (us=vs) (Classical.propDecidable _)) w:=by
 unfold mJ at he;split at he
 ·rename_i fs hst;split at he
  ·rename_i hc;simp only[W8,XE]at hc;have hfo:P.underlying kt=some (.struct (P.fieldsOf kt)):=by unfold Program.fieldsOf;rw[hst]
   have h:=Qt (P:=P) (w:=w) (d:=9997) (us:=us) (vs:=vs) (P.fieldsOf kt).toList he (by rw[Yy];exact h1) (by rw[Yy];exact h2);rw[Yy,Yy]at h;show(Op.equalIn 10000 kt _ _).run P w=_;rw[run_equalIn_struct w 9999 kt _ _ hfo hc.1,h]
  ·cases he
 ·cases he
theorem nN{kt:TypeId}{ks:List IntKind}(he:mJ P kt=some ks){k:Value}(h1:isKey (.st ks) k=true)(w:World):∀(l:List MapEntry) (i:Nat),(∀x,x∈l→isKey (.st ks) x.key=true)→
 ((Instr.findAsking kt k l i).run P w= .ok none w∧∀x,x∈l→x.key≠k)∨∃j e,(Instr.findAsking kt k l i).run P w= .ok (some (i+j,e.val)) w∧l[j]? =some e∧e.key=k
 |[],i,_=> .inl ⟨by simp[Instr.findAsking],by simp⟩
 |e::es,i,hall=>by
  obtain⟨us,rfl,hu⟩:=dv h1;obtain⟨vs,hv,hv2⟩:=dv (hall e (by simp));have hr:=NX he hu hv2 w;by_cases hx:us=vs
  ·refine .inr ⟨0,e,?_,rfl,by rw[hv,hx]⟩;rw[show @decide (us=vs) (Classical.propDecidable _)=true from by simp[hx]]at hr;simp[Instr.findAsking,hv,hr]
  ·rw[show @decide (us=vs) (Classical.propDecidable _)=false from by simp[hx]]at hr
   have hne:e.key≠ .agg us.toArray:=by
    rw[hv];intro h;simp at h;exact hx h.symm
   rcases nN he h1 w es (i+1) (fun x hx=>hall x (by simp[hx]))with⟨a,b⟩|⟨j,e',a,b,c⟩
   ·refine .inl ⟨?_,fun x hx=>?_⟩
    ·simp[Instr.findAsking,hv,hr,a]
    ·rcases Xm.1 hx with rfl|hx
     ·exact hne
     ·exact b x hx
   ·refine .inr ⟨j+1,e',?_,by simpa using b,c⟩;simp[Instr.findAsking,hv,hr,a,Ya,YL 1 j]
theorem Bc{kt:TypeId}{fks:List FK}{ks:List IntKind}(he:nI P kt=some fks)(hk:cz fks=some ks){us:List Value}(h:aq ks us=true)(em:Bool)(n0:Nat)(w:World):(Instr.checkKey em (n0+1+1) kt (.agg us.toArray)).run P w= .ok () w:=by
 unfold nI at he;split at he
 ·rename_i fs0 hst;split at he
  ·have hfo:P.underlying kt=some (.struct (P.fieldsOf kt)):=by unfold Program.fieldsOf;rw[hst]
   rw[Instr.checkKey];simp only[Sem.run_bind,run_underlying hfo,Result.andThen_ok];rw[←Array.forIn_toList];have h':aq ks (us.drop 0)=true:=by simpa using h
   clear h hst hfo;generalize (P.fieldsOf kt).toList=L at he;generalize (0:Nat)=i at he h'
   induction L generalizing i fks ks with
   |nil=>simp
   |cons f fs ih=>
    simp only[qc]at he;split at he
    ·rename_i hc;simp only[W8,bne_iff_ne,ne_eq,beq_iff_eq,XE]at hc;obtain⟨⟨hn,ho⟩,hag⟩:=hc;split at he
     ·rename_i k ks' hkf hks;simp only[Xr]at he;subst he
      cases k with
      |int k=>
       simp only[cz,Xb]at hk;obtain⟨ks2,hk2,rfl⟩:=hk;have hu:=nj hkf
       obtain⟨u,us',e1⟩:∃u us',us.drop i=u::us':=by
        cases hd:us.drop i with
        |nil=>rw[hd]at h';simp[aq]at h'
        |cons a b=>exact⟨a,b,rfl⟩
       rw[e1]at h';have hu1:us[i]? =some u:=by have:=congrArg (·[0]?) e1;simpa[XV]using this
       have p1:=fa (P:=P) (w:=w) (us:=us) (off:=f.offset) hag (by rw[hu];rfl) (by rw[ho];exact hu1);have d1:us.drop (i+1)=us':=by rw[←Yj,e1];rfl
       cases u <;>simp[aq]at h';obtain⟨rfl,h'⟩:=h';rename_i k1 a;have p2:(Instr.checkKey em (n0+1) f.type (.int k1 a)).run P w= .ok () w:=MapKept.run_checkKey hu (by simp[Ti,MapKept.IsKey]) em n0;simp only[List.forIn_cons,Sem.run_bind,hn,ne_eq,not_false_eq_true,if_true,Result.andThen_ok,p1,p2,Sem.run_pure];exact ih hk2 (i+1) hks (by rw[d1];exact h')
      |str=>simp[cz]at hk
      |bool=>simp[cz]at hk
     ·cases he
    ·cases he
  ·cases he
 ·cases he
theorem Bl{kt:TypeId}{ks:List IntKind}(he:mJ P kt=some ks){us:List Value}(h:aq ks us=true)(em:Bool)(w:World):(Instr.checkKey em 10000 kt (.agg us.toArray)).run P w= .ok () w:=by
 unfold mJ at he;split at he
 ·rename_i fs0 hst;split at he
  ·have hfo:P.underlying kt=some (.struct (P.fieldsOf kt)):=by unfold Program.fieldsOf;rw[hst]
   rw[show(10000:Nat)=9998+1+1 from rfl,Instr.checkKey];simp only[Sem.run_bind,run_underlying hfo,Result.andThen_ok];rw[←Array.forIn_toList];have h':aq ks (us.drop 0)=true:=by simpa using h
   clear h hst hfo;generalize (P.fieldsOf kt).toList=L at he;generalize (0:Nat)=i at he h'
   induction L generalizing i ks with
   |nil=>simp
   |cons f fs ih=>
    simp only[BW]at he;split at he
    ·rename_i hc;simp only[W8,bne_iff_ne,ne_eq,beq_iff_eq]at hc;obtain⟨hn,ho⟩:=hc;obtain⟨ka,hka,he⟩:=Ye.1 he;obtain⟨kb,hkb,rfl⟩:=Xb.1 he;obtain⟨a1,a2⟩:=mj h';rw[Yj]at a2
     have key:∃u,(part f.type us.toArray f.offset).run P w= .ok u w∧(Instr.checkKey em (9998+1) f.type u).run P w= .ok () w:=by
      unfold TJ at hka;split at hka
      ·rename_i k hu;cases hka;have hag:dq P f.type=false:=by unfold dq;rw[hu]
       obtain⟨a,hx⟩:∃a,us[i]? =some (.int k a):=by
        have hl:=jU a1
        cases hd:us.drop i with
        |nil=>rw[hd]at hl;simp at hl
        |cons x t=>
         rw[hd]at a1;cases x <;>simp[aq]at a1;rename_i k' a;subst a1;refine⟨a,?_⟩;have:=congrArg (·[0]?) hd;simpa[XV]using this
       exact⟨_,fa hag (by rw[hu];rfl) (by rw[ho];exact hx),MapKept.run_checkKey hu (by simp[MapKept.IsKey]) em 9998⟩
      ·rename_i fs1 hu;obtain⟨fks,e1,hka⟩:=Ye.1 hka;obtain⟨ks0,e2,hka⟩:=Ye.1 hka;split at hka
       ·rename_i hcc;simp only[W8,beq_iff_eq]at hcc;cases hka;refine⟨_,lP hcc.1.2 hcc.2,?_⟩;rw[ho,hcc.1.1];exact Bc e1 e2 a1 em 9997 w
       ·cases hka
      ·cases hka
     obtain⟨u,p1,p2⟩:=key;simp only[List.forIn_cons,Sem.run_bind,hn,ne_eq,not_false_eq_true,if_true,Result.andThen_ok,p1,p2,Sem.run_pure];exact ih (i+ka.length) hkb a2
    ·cases he
  ·cases he
 ·cases he
end Aml
namespace Aml
open Go Go.RowKit
noncomputable def aJ(es:List (Value×DV×Nat))(k:Value):Option DV:=(es.find? fun e=>@decide (e.1=k) (Classical.propDecidable _)).map (·.2.1)
noncomputable def mC(k:Value)(d:DV)(e:Value×DV×Nat):Value×DV×Nat:=if @decide (e.1=k) (Classical.propDecidable _)then(e.1,d,e.2.2)else e
noncomputable def cX(es:List (Value×DV×Nat))(clk:Nat)(k:Value)(d:DV):List (Value×DV×Nat):=
 if(aJ es k).isSome then es.map (mC k d)else es++[(k,d,clk)]
noncomputable def eV(es:List (Value×DV×Nat))(clk:Nat)(k:Value):Nat:=if(aJ es k).isSome then clk else clk+1
noncomputable def ig(es:List (Value×DV×Nat))(k:Value):List (Value×DV×Nat):=es.filter fun e=>!@decide (e.1=k) (Classical.propDecidable _)
theorem sA{k:Value}{d:DV}{e:Value×DV×Nat}(h:e.1=k):mC k d e=(e.1,d,e.2.2):=by
 unfold mC;rw[if_pos (by simp[h])]
theorem tE{k:Value}{d:DV}{e:Value×DV×Nat}(h:e.1≠k):mC k d e=e:=by
 unfold mC;rw[if_neg (by simp[h])]
theorem Bh{α:Type}{l:List α}(h:l.Nodup){i j:Nat}{a:α}(hi:l[i]? =some a)(hj:l[j]? =some a):i=j:=by
 obtain⟨h1,rfl⟩:=W6.1 hi;obtain⟨h2,e⟩:=W6.1 hj;rcases Yl i j with q|q|q
 ·exact absurd e.symm (Yp.1 h i j h1 h2 q)
 ·exact q
 ·exact absurd e (Yp.1 h j i h2 h1 q)
theorem eR{es:List (Value×DV×Nat)}{k:Value}:aJ es k=none↔∀e,e∈es→e.1≠k:=by
 unfold aJ;rw[Option.map_eq_none_iff,Ze];simp
theorem mo{es:List (Value×DV×Nat)}{k:Value}{d:DV}(h:aJ es k=some d):∃b,(k,d,b)∈es:=by
 unfold aJ at h;obtain⟨e,he,rfl⟩:=Xb.1 h;have h1:=List.mem_of_find?_eq_some he;have h2:=List.find?_some he;simp only[decide_eq_true_eq]at h2;exact⟨e.2.2,by rw[←h2];exact h1⟩
theorem zF{es:List (Value×DV×Nat)}(h:(es.map (·.1)).Nodup){j:Nat}{e:Value×DV×Nat}(hj:es[j]? =some e):aJ es e.1=some e.2.1:=by
 unfold aJ
 have:es.find? (fun x=>@decide (x.1=e.1) (Classical.propDecidable _))=some e:=by
  induction es generalizing j with
  |nil=>simp at hj
  |cons a es ih=>
   rw[Xy,Xo]at h;rw[List.find?_cons]
   cases j with
   |zero=>simp at hj;subst hj;simp
   |succ j=>
    simp only[Zb]at hj;have hne:a.1≠e.1:=fun x=>h.1 (by rw[x];exact Xz (f:=fun y:Value×DV×Nat=>y.1) (W7 hj));rw[show @decide (a.1=e.1) (Classical.propDecidable _)=false from by simp[hne]];exact ih h.2 hj
 rw[this];rfl
structure H0(P:Program)(kt:TypeId)(kk:KK):Prop where
 find:∀(k:Value) (l:List MapEntry) (w:World),isKey kk k=true→(∀x,x∈l→isKey kk x.key=true)→
  ((Instr.findKey kt k l).run P w= .ok none w∧∀x,x∈l→x.key≠k)∨∃j e,(Instr.findKey kt k l).run P w= .ok (some (j,e.val)) w∧l[j]? =some e∧e.key=k
 check:∀(b:Bool) (k:Value) (w:World),isKey kk k=true→(Instr.checkKey b 10000 kt k).run P w= .ok () w
 stays:∀(k:Value) (w:World),isKey kk k=true→(Instr.keyThatStays k k).run P w= .ok k w
theorem zW{P:Program}{kt:TypeId}{kk:KK}{d:TypeDesc}(hd:P.underlying kt=some d)(hk:∀k,isKey kk k=true→MapKept.IsKey d k):H0 P kt kk where
 find:=fun k l w h1 h2=>by
  rcases MapKept.findNow_spec (hk k h1) l 0 (fun x hx=>hk _ (h2 x hx))with⟨a,b⟩|⟨j,e,a,b,c⟩
  ·exact .inl ⟨MapKept.run_findKey hd a,b⟩
  ·exact .inr ⟨j,e,by have:=MapKept.run_findKey (w:=w) hd a;simpa using this,b,c⟩
 check:=fun b k w h=>MapKept.run_checkKey hd (hk k h) b 9999
 stays:=fun k w h=>MapKept.run_keyThatStays (hk k h)
def Ip(P:Program)(kt:TypeId):Option KK:=match tk P kt with
 | .int k=>some (.int k)
 | .str=>some .str
 | .st _ _=>match nI P kt with
  |some f=>(cz f).map .st
  |none=>(mJ P kt).map .st
 |_=>none
theorem Eb{P:Program}{kt:TypeId}{kk:KK}(h:Ip P kt=some kk):H0 P kt kk:=by
 unfold Ip at h;split at h
 ·rename_i k hk;cases h;exact zW (iY hk) fun u hu=>by cases u <;>simp_all [isKey,MapKept.IsKey]
 ·rename_i hk;cases h;exact zW (gA hk) fun u hu=>by cases u <;>simp_all [isKey,MapKept.IsKey]
 ·split at h
  ·rename_i fks he;obtain⟨ks,hk,rfl⟩:=Xb.1 h;refine⟨fun k l w h1 h2=>?_,fun b k w h1=>?_,fun k w h1=>?_⟩
   ·have hu:∃fs,P.underlying kt=some (.struct fs):=by
     unfold nI at he;split at he
     ·exact⟨_,by assumption⟩
     ·cases he
    obtain⟨fs,hu⟩:=hu
    have hf:(Instr.findKey kt k l).run P w=(Instr.findAsking kt k l 0).run P w∨l=[]:=by
     cases l with
     |nil=>exact .inr rfl
     |cons e l=>
      refine .inl ?_;have:Instr.sameNow (.struct fs) k e.key=none:=by cases k <;>rfl
      simp[Instr.findKey,run_underlying hu,Instr.findNow,this]
    rcases hf with hf|rfl
    ·rcases pg he hk h1 w l 0 h2 with⟨a,b⟩|⟨j,e,a,b,c⟩
     ·exact .inl ⟨hf.trans a,b⟩
     ·exact .inr ⟨j,e,by rw[hf,a,Yb],b,c⟩
    ·exact .inl ⟨by simp[Instr.findKey,run_underlying hu,Instr.findNow],by simp⟩
   ·obtain⟨us,rfl,hu⟩:=dv h1;exact Gw he hk hu b w
   ·obtain⟨us,rfl,hu⟩:=dv h1;exact uA hu w
  ·obtain⟨ks,he,rfl⟩:=Xb.1 h;refine⟨fun k l w h1 h2=>?_,fun b k w h1=>?_,fun k w h1=>?_⟩
   ·have hu:∃fs,P.underlying kt=some (.struct fs):=by
     unfold mJ at he;split at he
     ·exact⟨_,by assumption⟩
     ·cases he
    obtain⟨fs,hu⟩:=hu
    have hf:(Instr.findKey kt k l).run P w=(Instr.findAsking kt k l 0).run P w∨l=[]:=by
     cases l with
     |nil=>exact .inr rfl
     |cons e l=>
      refine .inl ?_;have:Instr.sameNow (.struct fs) k e.key=none:=by cases k <;>rfl
      simp[Instr.findKey,run_underlying hu,Instr.findNow,this]
    rcases hf with hf|rfl
    ·rcases nN he h1 w l 0 h2 with⟨a,b⟩|⟨j,e,a,b,c⟩
     ·exact .inl ⟨hf.trans a,b⟩
     ·exact .inr ⟨j,e,by rw[hf,a,Yb],b,c⟩
    ·exact .inl ⟨by simp[Instr.findKey,run_underlying hu,Instr.findNow],by simp⟩
   ·obtain⟨us,rfl,hu⟩:=dv h1;exact Bl he hu b w
   ·obtain⟨us,rfl,hu⟩:=dv h1;exact uA hu w
 ·cases h
def kP(P:Program)(t:TypeId):Option (KK×DV):=match tk P t with
 | .map k e=>(Ip P k).map fun kk=>(kk,zD P e)
 |_=>none
theorem oU{P:Program}{t:TypeId}{kk:KK}{z:DV}(h:kP P t=some (kk,z)):∃k e,P.underlying t=some (.map k e)∧H0 P k kk∧zD P e=z:=by
 unfold kP at h;split at h
 ·rename_i k e hk;obtain⟨kk',h1,h2⟩:=Xb.1 h;cases h2;exact⟨k,e,by unfold tk at hk;split at hk <;>(try split at hk) <;>(try cases hk) <;>assumption,Eb h1,rfl⟩
 ·cases h
def oK{α:Type}:Option α→(α→Prop)→Prop
 |some a,F=>F a
 |none,_=>False
def lp:DV→Option Value
 | .v u=>some u
 | .agg ds=>(cK ds).map fun us=> .agg us.toArray
 |_=>none
theorem r8{g:Gh}:∀{ds:List DV} {us vs:List Value},cK ds=some us→ae g ds vs→vs=us
 |[],us,vs,h,r=>by
  cases h;exact Xn (by have:=r.len;simpa using this.symm)
 |d::ds,us,vs,h,r=>by
  obtain⟨u,us',rfl,r1,r2⟩:=r.cM
  cases d with
  |v x=>
   simp only[cK,Xb]at h;obtain⟨ys,hy,rfl⟩:=h;rw[aj r1,r8 hy r2]
  |_=>simp[cK]at h
theorem qa{g:Gh}{d:DV}{k u:Value}(h:lp d=some k)(r:az g d u):u=k:=by
 cases d with
 |v x=>cases h;exact aj r
 |agg ds=>
  simp only[lp,Xb]at h;obtain⟨us,h1,rfl⟩:=h;obtain⟨vs,rfl,r1,_⟩:=kp r;rw[r8 h1 r1]
 |_=>cases h
def kD:Value→DV
 | .agg us=> .agg (us.toList.map .v)
 |u=> .v u
theorem Gy{g:Gh}{kk:KK}{k:Value}(h:isKey kk k=true):az g (kD k) k:=by
 cases kk <;>cases k <;>first|(simp[isKey]at h;done)|exact .v _ rfl|skip
 rename_i ks us
 have hl:∀(ks:List IntKind) (l:List Value),aq ks l=true→∀u,u∈l→u.oneCell'=true:=by
  intro ks l
  induction l generalizing ks with
  |nil=>intro _ u hu;cases hu
  |cons a l ih=>
   intro h u hu
   cases ks with
   |nil=>simp[aq]at h
   |cons k ks=>
    cases a <;>simp[aq]at h;rcases Xm.1 hu with rfl|hu
    ·rfl
    ·exact ih ks h.2 u hu
 have h1:=hl ks us.toList h
 have:=az.agg (g:=g) (us.toList.map .v) us.toList (by simp) (fun i d u a b=>by
  rw[Xd,b]at a;cases a;exact .v u (h1 u (W7 b))) h1
 simpa[kD]using this
section
variable {P:Program} {w0:W0}
theorem Rel.yA{g:Gh}{S:St}{w:World}(h:Rel w0 g S w){l:Nat}{f:XO}(hl:lk S.acc l=some (.xo f)):∃b o,g.acc l 0=some (.slice (some ⟨b,0,none⟩) 0 0)∧w.heap[b]? =some o∧wH g f o∧
 ∀f' o' w',wH g f' o'→gE b w w'→w'.heap[b]? =some o'→(∀i,i≠b→w'.heap[i]? =w.heap[i]?)→Rel w0 g ⟨S.box,up S.acc l (.xo f')⟩ w':=by
 obtain⟨ow,h⟩:=h.open_;have hm:=bU hl;obtain⟨b,o,q1,q2,q3,q4,q5,q6⟩:=h.acc l _ hm;refine⟨b,o,q1,q5,q6,fun f' o' w' hx hB hb' hs=>dE.close (ow:=ow) ⟨?_,?_,h.nb,?_,h.dD,h.fresh,?_,?_,?_,?_⟩⟩
 ·exact h.below.step (hB.mono q3) b (fun x hx'=>by rw[q5]at hx';cases hx';exact q6.nc) fun i _ hne=>hs i hne
 ·intro b' i u hu;have hne:b'≠b:=by rintro rfl;rw[q4]at hu;cases hu
  rw[World.cell?_of_block (w:=w) (w':=w') (a:=⟨b',i,none⟩) (hs b' hne)];exact h.aN _ _ _ hu
 ·rw[lB];exact h.na
 ·intro l' o'' hm' k hk;rcases fA h.na hm' with e|⟨hm',hne⟩
  ·simp only[XR]at e;obtain⟨rfl,rfl⟩:=e;exact h.top _ _ hm k hk
  ·exact h.top _ _ hm' k hk
 ·intro b' ds hb;refine(h.box _ _ hb).step (.refl g) fun ho=>⟨ho,hs b' ?_,fun _ hi=>hi⟩;rintro rfl;rw[q2]at ho;cases ho
 ·intro l' o'' hm';rcases fA h.na hm' with e|⟨hm',hne⟩
  ·simp only[XR]at e;obtain⟨rfl,rfl⟩:=e;exact⟨b,o',q1,q2,q3,q4,hb',hx⟩
  ·refine(h.acc _ _ hm').step (.refl g) fun b' ho=>⟨ho,hs b' ?_,fun _ hi=>hi⟩;rintro rfl;rw[q2]at ho;simp only[Xr,Key.a.injEq]at ho;exact hne ho.symm
 ·intro b' k hk;exact Yk (h.mA _ _ hk) hB.size
theorem Rel.xC{g:Gh}{S:St}{w:World}(h:Rel w0 g S w){l:Nat}{f:XO}(hl:lk S.acc l=some (.xo f)):∃b o,g.acc l 0=some (.slice (some ⟨b,0,none⟩) 0 0)∧w.heap[b]? =some o∧wH g f o:=
 let⟨b,o,q1,q2,q3,_⟩:=h.yA hl
 ⟨b,o,q1,q2,q3⟩
theorem Rel.Db{g:Gh}{S:St}{w w':World}(h:Rel w0 g S w)(k:gE w.heap.size w w'){b:Nat}{o:Obj}{f:XO}(hge:w.heap.size≤b)(hb:w'.heap[b]? =some o)(hx:wH g f o):
 ∃l g',g.le g'∧(∀p,p∈S.acc→p.1≠l)∧Rel w0 g' ⟨S.box,(l,.xo f)::S.acc⟩ w'∧g'.acc l 0=some (.slice (some ⟨b,0,none⟩) 0 0):=by
 obtain⟨ow,h⟩:=h.open_
 have hnow:ow b=none:=by
  cases ho:ow b with
  |none=>rfl
  |some q=>have:=h.mA b q ho;omega
 have h':=h.grow k;obtain⟨m,hm'⟩:=h'.fresh
 have hnone:∀i,g.aN b i=none:=by
  intro i
  cases hi:g.aN b i with
  |none=>rfl
  |some u=>have:=World.block_lt_of_cell? w _ (h.aN _ _ _ hi);simp at this;omega
 have hne:∀p,p∈S.acc→p.1≠m:=by
  rintro⟨l',o'⟩ hp rfl;obtain⟨u,hu⟩:=(h'.acc _ _ hp).has;rw[hm' _ _ (Xa _)]at hu;cases hu
 let v:Value:= .slice (some ⟨b,0,none⟩) 0 0
 have hle:g.le (g.aK m 0 v):=Gh.iv (.inl (hm' _ _ (Xa _)));have hself:(g.aK m 0 v).acc m 0=some v:=by simp[Gh.aK]
 refine⟨m,g.aK m 0 v,hle,hne,dE.close (ow:=fun x=>if x=b then some (.a m)else ow x) ⟨h'.below.le hle,h'.aN,h'.nb,?_,?_,?_,?_,?_,?_,?_⟩,hself⟩
 ·simp only[Xy,Xo];refine⟨fun hx=>?_,h'.na⟩;obtain⟨p,hp,e⟩:=Xk.1 hx;exact hne p hp e
 ·intro l' n u hu;simp only[Gh.aK]at hu;split at hu
  ·rename_i e;obtain⟨rfl,rfl⟩:=e;exact⟨_,_,(XG hu).symm,.inl rfl⟩
  ·exact h'.dD _ _ _ hu
 ·refine⟨m+1,fun l n hl=>?_⟩;simp only[Gh.aK];rw[if_neg (by omega)];exact hm' _ _ (by omega)
 ·intro l o hl k hk;simp only[Gh.aK];rcases Xm.1 hl with e|hl
  ·simp only[XR]at e;obtain⟨rfl,rfl⟩:=e;simp only[Ob.len]at hk;rw[if_neg (by omega)];exact hm' _ _ (Xa _)
  ·rw[if_neg (fun e=>hne _ hl e.1)];exact h'.top _ _ hl k hk
 ·intro b' ds hb';refine(h'.box b' ds hb').step hle fun ho=>⟨?_,rfl,fun _ hi=>hi⟩;split
  ·rename_i e;subst e;exact absurd (hnow.symm.trans ho) (by simp)
  ·exact ho
 ·intro l o hl;rcases Xm.1 hl with e'|hl
  ·simp only[XR]at e';obtain⟨rfl,rfl⟩:=e';exact⟨b,_,hself,if_pos rfl,Yf h.below.size hge,hnone,hb,hx.mono hle⟩
  ·refine(h'.acc l o hl).step hle fun b' ho=>⟨?_,rfl,fun _ hi=>hi⟩;split
   ·rename_i e;subst e;exact absurd (hnow.symm.trans ho) (by simp)
   ·exact ho
 ·intro b' q hq;split at hq
  ·rename_i e;subst e;exact lt_of_heap hb
  ·exact h'.mA _ _ hq
theorem mM{g:Gh}{l:Nat}{x:Value}(r:az g (.mp l) x):∃b,x= .map (some b)∧g.acc l 0=some (.slice (some ⟨b,0,none⟩) 0 0):=by
 cases r with
 |mp _ b h=>exact⟨b,rfl,h⟩
theorem xQ{g:Gh}{l:Nat}{x:Value}(r:az g (.it l) x):∃b,x= .pointer (some ⟨b,0,none⟩)∧g.acc l 0=some (.slice (some ⟨b,0,none⟩) 0 0):=by
 cases r with
 |it _ b h=>exact⟨b,rfl,h⟩
theorem cW(w:World)(b:Nat)(o:Obj):gE b w {w with heap:=w.heap.setIfInBounds b o}:=⟨rfl,rfl,rfl,by simp,fun k hk=>by simp[Xu,Nat.ne_of_gt hk],Xa _⟩
theorem gj{w:World}{b:Nat}{o o':Obj}(h:w.heap[b]? =some o):({w with heap:=w.heap.setIfInBounds b o'}:World).heap[b]? =some o'∧∀i,i≠b→({w with heap:=w.heap.setIfInBounds b o'}:World).heap[i]? =w.heap[i]? :=MapKept.heap_set h
theorem fQ.get{g:Gh}{es:List (Value×DV×Nat)}{es':List MapEntry}(r:fQ g es es'){j:Nat}{e':MapEntry}(h:es'[j]? =some e'):∃e,es[j]? =some e∧e'.key=e.1∧az g e.2.1 e'.val∧e'.born=e.2.2:=by
 have hlt:j<es.length:=by rw[r.len];exact(W6.1 h).1
 have he:es[j]? =some es[j]:=W5 hlt;exact⟨_,he,r.at_ j _ _ he h⟩
theorem fQ.get'{g:Gh}{es:List (Value×DV×Nat)}{es':List MapEntry}(r:fQ g es es'){j:Nat}{e:Value×DV×Nat}(h:es[j]? =some e):∃e',es'[j]? =some e'∧e'.key=e.1∧az g e.2.1 e'.val∧e'.born=e.2.2:=by
 have hlt:j<es'.length:=by rw[←r.len];exact(W6.1 h).1
 have he:es'[j]? =some es'[j]:=W5 hlt;exact⟨_,he,r.at_ j _ _ h he⟩
theorem fQ.keys{g:Gh}{es:List (Value×DV×Nat)}{es':List MapEntry}(r:fQ g es es'){kk:KK}{clk:Nat}(h:dy kk es clk):∀x,x∈es'→isKey kk x.key=true:=fun x hx=>by
 obtain⟨j,hj⟩:=XI.1 hx;obtain⟨e,he,h1,_⟩:=r.get hj;rw[h1];exact h.key e (W7 he)
theorem fQ.found{g:Gh}{es:List (Value×DV×Nat)}{es':List MapEntry}(r:fQ g es es'){kk:KK}{clk:Nat}(h:dy kk es clk){kt:TypeId}(L:H0 P kt kk){k:Value}(hk:isKey kk k=true)(w:World):
 ((Instr.findKey kt k es').run P w= .ok none w∧aJ es k=none)∨∃j e e',(Instr.findKey kt k es').run P w= .ok (some (j,e'.val)) w∧es'[j]? =some e'∧es[j]? =some e∧e.1=k∧e'.key=k∧az g e.2.1 e'.val∧e'.born=e.2.2∧aJ es k=some e.2.1:=by
 rcases L.find k es' w hk (r.keys h)with⟨a,b⟩|⟨j,e',a,b,c⟩
 ·refine .inl ⟨a,eR.2 fun e he hek=>?_⟩;obtain⟨j,hj⟩:=XI.1 he;obtain⟨e',he',h1,_⟩:=r.get' hj;exact b e' (W7 he') (h1.trans hek)
 ·obtain⟨e,he,h1,h2,h3⟩:=r.get b;exact .inr ⟨j,e,e',a,b,he,h1.symm.trans c,c,h2,h3,by have:=zF h.nd he;rwa [h1.symm.trans c]at this⟩
def HV(ok:Bool)(d:DV)(is:Bool):DV:=if ok then .cQ [d,.v (.bool is)]else d
def bM(m:Option (KK×DV))(S:St)(x y:DV)(ok:Bool)(K:DV→Prop):Prop:=oK m fun p=>dH p.2=true∧oK (lp y) fun k=>isKey p.1 k=true∧(match x with
 | .v (.map none)=>K (HV ok p.2 false)
 | .mp l=>(match lk S.acc l with
  |some (.xo (.mp kk es clk))=>kk=p.1∧(match aJ es k with
   |some d=>K (HV ok d true)
   |none=>K (HV ok p.2 false))
  |_=>False)
 |_=>False)
theorem C9{o:Oper}{t:TypeId}{x y:Operand}{ok:Bool}(ho:o.op= .lookup t x y ok){ρD:Operand→DV}{S:St}{K:DV→St→Prop}(h:bM (kP P t) S (ρD x) (ρD y) ok (K · S)):ah P w0 o ρD S K:=by
 refine bd fun g w ρ h1 h2=>?_;have hx:=h2 x (by simp[ho,Op.operands]);have hy:=h2 y (by simp[ho,Op.operands]);unfold bM at h
 cases hm:kP P t with
 |none=>rw[hm]at h;exact h.elim
 |some p=>
  obtain⟨kk,z⟩:=p;rw[hm]at h;obtain⟨hz,h⟩:=h
  cases hk:lp (ρD y)with
  |none=>rw[hk]at h;exact h.elim
  |some k=>
   rw[hk]at h;obtain⟨hkk,h⟩:=h;have hyk:=qa hk hy;obtain⟨kt,et,hu,L,hzd⟩:=oU hm;simp only at hz hkk h;obtain⟨zv,hzr,hzz⟩:=tL (P:=P) hzd hz w
   have hlk:∀(d:DV) (v:Value) (is:Bool),az g d v→az g (HV ok d is) (if ok=true then .tuple #[v,.bool is]else v):=fun d v is r=>by
    unfold HV;cases ok
    ·exact r
    ·exact lU r (.v (.bool is) rfl)
   split at h
   ·rename_i e;rw[e]at hx;refine⟨_,_,?_,hlk z zv false (hzz g),h⟩;have hxe:=aj hx
    have hf:(Instr.findKey kt k []).run P w= .ok none w:=by
     rcases L.find k [] w hkk (fun x hx=>by cases hx)with h|⟨j,e,_,h,_⟩
     ·exact h.1
     ·simp at h
    simp[execOp,ho,Instr.lookup,run_underlying hu,hxe,hyk,L.check _ k w hkk,hf,hzr]
   ·rename_i l e;rw[e]at hx;obtain⟨b,hxb,hgb⟩:=mM hx;split at h
    ·rename_i kk' es clk hl;obtain⟨rfl,h⟩:=h;obtain⟨b',o',q1,q2,es',rfl,r,hok⟩:=h1.xC hl;rw[hgb]at q1;cases q1;have hg:=MapKept.run_getObj_map (P:=P) q2;rcases r.found hok L hkk w with⟨f1,f2⟩|⟨j,e,e',f1,f2,f3,f4,f5,f6,f7,f8⟩
     ·rw[f2]at h;refine⟨_,_,?_,hlk z zv false (hzz g),h⟩;simp[execOp,ho,Instr.lookup,run_underlying hu,hxb,hyk,hg,L.check _ k w hkk,f1,hzr]
     ·rw[f8]at h;refine⟨_,_,?_,hlk _ _ true f6,h⟩;simp[execOp,ho,Instr.lookup,run_underlying hu,hxb,hyk,hg,L.check _ k w hkk,f1]
    ·exact h.elim
   ·exact h.elim
theorem fQ.set{g:Gh}{es:List (Value×DV×Nat)}{es':List MapEntry}(r:fQ g es es')(hn:(es.map (·.1)).Nodup){j:Nat}{e:Value×DV×Nat}(hj:es[j]? =some e){d:DV}{v:Value}(hd:az g d v):
 fQ g (es.map (mC e.1 d)) (es'.modify j fun x=>{x with key:=e.1,val:=v}):=by
 refine⟨by rw[XJ,List.length_modify];exact r.len,fun i x x' hx hx'=>?_⟩;rw[Xd]at hx;rw[List.getElem?_modify]at hx'
 cases hi:es[i]? with
 |none=>rw[hi]at hx;cases hx
 |some y=>
  rw[hi]at hx;cases hx;obtain⟨y',hy',q1,q2,q3⟩:=r.get' hi;rw[hy']at hx';simp only[Option.map_eq_map,XB,Xr]at hx';by_cases hij:j=i
  ·subst hij;rw[hj]at hi;cases hi;simp only[if_true]at hx';subst hx';rw[sA rfl];exact⟨rfl,hd,q3⟩
  ·have hne:y.1≠e.1:=fun he=>hij (Bh hn (a:=e.1) (by rw[Xd,hj];rfl) (by rw[Xd,hi,←he];rfl));rw[if_neg hij]at hx';subst hx';rw[tE hne];exact⟨q1,q2,q3⟩
theorem CX{es:List (Value×DV×Nat)}{k:Value}{d:DV}:(es.map (mC k d)).map (·.1)=es.map (·.1)∧(es.map (mC k d)).map (·.2.2)=es.map (·.2.2):=by
 constructor
 ·rw[List.map_map];refine List.map_congr_left fun e _=>?_;simp only[Function.comp,mC];split <;>rfl
 ·rw[List.map_map];refine List.map_congr_left fun e _=>?_;simp only[Function.comp,mC];split <;>rfl
theorem IF{kk:KK}{es:List (Value×DV×Nat)}{clk:Nat}(h:dy kk es clk){k:Value}(hk:isKey kk k=true)(d:DV):dy kk (cX es clk k d) (eV es clk k):=by
 unfold cX eV
 cases hg:aJ es k with
 |some x=>
  simp only[Zf,if_true];obtain⟨e1,e2⟩:=CX (es:=es) (k:=k) (d:=d);refine⟨fun e he=>?_,by rw[e1];exact h.nd,by rw[e2];exact h.bn,fun e he=>?_⟩
  ·have:=Xz (f:=fun x:Value×DV×Nat=>x.1) he;rw[e1]at this;obtain⟨y,hy,hye⟩:=Xk.1 this;rw[←hye];exact h.key y hy
  ·have:=Xz (f:=fun x:Value×DV×Nat=>x.2.2) he;rw[e2]at this;obtain⟨y,hy,hye⟩:=Xk.1 this;rw[←hye];exact h.lt y hy
 |none=>
  simp only[Zd,XM,if_false];have hne:=eR.1 hg;refine⟨fun e he=>?_,?_,?_,fun e he=>?_⟩
  ·rcases Xh.1 he with he|he
   ·exact h.key e he
   ·rw[Xg]at he;subst he;exact hk
  ·rw[Xw,Ym];refine⟨h.nd,by simp,fun a ha b hb=>?_⟩;obtain⟨e,he,rfl⟩:=Xk.1 ha;simp only[Xy,List.map_nil,Xg]at hb;rw[hb];exact hne e he
  ·rw[Xw,Ym];refine⟨h.bn,by simp,fun a ha b hb=>?_⟩;obtain⟨e,he,rfl⟩:=Xk.1 ha;simp only[Xy,List.map_nil,Xg]at hb;have:=h.lt e he;omega
  ·rcases Xh.1 he with he|he
   ·have:=h.lt e he;omega
   ·rw[Xg]at he;subst he;exact Nat.lt_succ_self _
theorem Iq{kk:KK}{es:List (Value×DV×Nat)}{clk:Nat}(h:dy kk es clk)(k:Value):dy kk (ig es k) clk:=
 ⟨fun e he=>h.key e (YA.1 he).1,h.nd.sublist ((List.filter_sublist (l:=es)).map _),h.bn.sublist ((List.filter_sublist (l:=es)).map _),fun e he=>h.lt e (YA.1 he).1⟩
theorem fQ.push{g:Gh}{es:List (Value×DV×Nat)}{es':List MapEntry}(r:fQ g es es'){k:Value}{d:DV}{v:Value}{b:Nat}(hd:az g d v):fQ g (es++[(k,d,b)]) (es'++[{key:=k,val:=v,born:=b}]):=by
 refine⟨by simp[r.len],fun i x x' hx hx'=>?_⟩;rcases XH i es.length with h|h
 ·rw[Xx h]at hx;rw[Xx (by rw[←r.len];exact h)]at hx';exact r.at_ i x x' hx hx'
 ·rw[Xv h]at hx;rw[Xv (by rw[←r.len];exact h),←r.len]at hx'
  cases hi:i-es.length with
  |zero=>rw[hi]at hx hx';simp at hx hx';subst hx;subst hx';exact⟨rfl,hd,rfl⟩
  |succ n=>rw[hi]at hx;simp at hx
theorem fQ.erase{g:Gh}{es:List (Value×DV×Nat)}{es':List MapEntry}(r:fQ g es es')(hn:(es.map (·.1)).Nodup){j:Nat}{e:Value×DV×Nat}(hj:es[j]? =some e):fQ g (ig es e.1) (es'.eraseIdx j):=by
 have he:ig es e.1=es.eraseIdx j:=by
  unfold ig;clear r
  induction es generalizing j with
  |nil=>simp at hj
  |cons a es ih=>
   rw[Xy,Xo]at hn
   cases j with
   |zero=>
    simp at hj;subst hj;rw[List.filter_cons,show @decide (a.1=a.1) (Classical.propDecidable _)=true from by simp];simp only[Bool.not_true,XM,if_false,List.eraseIdx_zero,List.tail_cons];refine List.filter_eq_self.2 fun x hx=>?_;have:x.1≠a.1:=fun h=>hn.1 (by rw[←h];exact Xz (f:=fun y:Value×DV×Nat=>y.1) hx);simp[this]
   |succ j=>
    simp only[Zb]at hj;have hne:a.1≠e.1:=fun x=>hn.1 (by rw[x];exact Xz (f:=fun y:Value×DV×Nat=>y.1) (W7 hj));rw[List.filter_cons,show @decide (a.1=e.1) (Classical.propDecidable _)=false from by simp[hne]];simp only[Bool.not_false,if_true,List.eraseIdx_cons_succ];rw[ih hn.2 hj]
 rw[he];refine⟨by rw[List.length_eraseIdx,List.length_eraseIdx,r.len],fun i x x' hx hx'=>?_⟩;rw[List.getElem?_eraseIdx]at hx hx';split at hx
 ·rename_i h;rw[if_pos h]at hx';exact r.at_ _ _ _ hx hx'
 ·rename_i h;rw[if_neg h]at hx';exact r.at_ _ _ _ hx hx'
def dK(m:Option (KK×DV))(S:St)(x y d:DV)(K:St→Prop):Prop:=oK m fun p=>oK (lp y) fun k=>isKey p.1 k=true∧shr S d fun d S=>(match x with
 | .mp l=>(match lk S.acc l with
  |some (.xo (.mp kk es clk))=>kk=p.1∧K ⟨S.box,up S.acc l (.xo (.mp kk (cX es clk k d) (eV es clk k)))⟩
  |_=>False)
 |_=>False)
theorem nV{o:Oper}{t:TypeId}{x y z:Operand}(ho:o.op= .mapUpdate t x y z){ρD:Operand→DV}{S:St}{K:DV→St→Prop}(h0:dK (kP P t) S (ρD x) (ρD y) (ρD z) (K ud)):ah P w0 o ρD S K:=by
 intro g w ρ h1 h2 hcst;have hx0:=h2 x (by simp[ho,Op.operands]);have hy:=h2 y (by simp[ho,Op.operands]);have hz:=h2 z (by simp[ho,Op.operands]);unfold dK at h0
 cases hm:kP P t with
 |none=>rw[hm]at h0;exact h0.elim
 |some p=>
  obtain⟨kk,zz⟩:=p;rw[hm]at h0
  cases hk:lp (ρD y)with
  |none=>rw[hk]at h0;exact h0.elim
  |some k=>
   rw[hk]at h0;obtain⟨hkk,hA⟩:=h0;have hyk:=qa hk hy;obtain⟨kt,et,hu,L,hzd⟩:=oU hm;simp only at hkk hA;obtain⟨g1,d,S1,le1,R1,hd,hB⟩:=jI h1 hz hA;have hx:=hx0.mono le1;clear hA;split at hB
   ·rename_i l e;rw[e]at hx;obtain⟨b,hxb,hgb⟩:=mM hx;split at hB
    ·rename_i kk' es clk hl;obtain⟨hkke,hC⟩:=hB;subst hkke;obtain⟨b',o',q1,q2,⟨es',rfl,r,hok⟩,hset⟩:=R1.yA hl;rw[hgb]at q1;cases q1;have hg:=MapKept.run_getObj_map (P:=P) q2;have hm2:=IF hok hkk d;rcases r.found hok L hkk w with⟨f1,f2⟩|⟨j,e,e',f1,f2,f3,f4,f5,f6,f7,f8⟩
     ·obtain⟨s1,s2⟩:=gj (o':= .map (es'++[({key:=k,val:=ρ z,born:=clk}:MapEntry)]).toArray (clk+1)) q2
      have hrun:(execOp ρ o).run P w= .ok .skip {w with heap:=w.heap.setIfInBounds b (.map (es'++[({key:=k,val:=ρ z,born:=clk}:MapEntry)]).toArray (clk+1))}:=by
       simp[execOp,ho,Instr.mapUpdate,run_underlying hu,hxb,hyk,hg,L.check _ k w hkk,f1,MapKept.run_setObj_map _ q2]
      rw[hrun];have hsk:cX es clk k d=es++[(k,d,clk)]∧eV es clk k=clk+1:=by unfold cX eV;rw[f2];exact⟨rfl,rfl⟩
      rw[hsk.1,hsk.2]at hC hm2;exact⟨g1,_,le1,hset (.mp kk' (es++[(k,d,clk)]) (clk+1)) _ _ ⟨_,rfl,r.push hd,hm2⟩ (cW _ _ _) s1 s2,hC⟩
     ·have hat:es'.toArray[j]? =some e':=by simpa using f2
      obtain⟨s1,s2⟩:=gj (o':= .map (es'.modify j fun x=>{x with key:=k,val:=ρ z}).toArray clk) q2
      have hrun:(execOp ρ o).run P w= .ok .skip {w with heap:=w.heap.setIfInBounds b (.map (es'.modify j fun x=>{x with key:=k,val:=ρ z}).toArray clk)}:=by
       simp[execOp,ho,Instr.mapUpdate,run_underlying hu,hxb,hyk,hg,L.check _ k w hkk,f1,f2,f5,L.stays k w hkk,MapKept.run_setObj_map _ q2]
      rw[hrun];have hsk:cX es clk k d=es.map (mC k d)∧eV es clk k=clk:=by unfold cX eV;rw[f8];exact⟨rfl,rfl⟩
      rw[hsk.1,hsk.2]at hC hm2;have hr:=r.set hok.nd f3 hd;rw[f4]at hr;exact⟨g1,_,le1,hset (.mp kk' _ clk) _ _ ⟨_,rfl,hr,hm2⟩ (cW _ _ _) s1 s2,hC⟩
    ·exact hB.elim
   ·exact hB.elim
theorem DO{o:Oper}{t:TypeId}{x y z:Operand}(ho:o.op= .insert t x y z){ρD:Operand→DV}{S:St}{K:DV→St→Prop}(h0:dK (kP P t) S (ρD x) (ρD y) (ρD z) (K ud)):ah P w0 o ρD S K:=by
 have h':=nV (P:=P) (w0:=w0) (o:={o with op:= .mapUpdate t x y z}) rfl h0;intro g w ρ h1 h2 hcst;have h3:=h' g w ρ h1 (fun q hq=>h2 q (by simpa[ho,Op.operands]using hq)) hcst;have e:execOp ρ o=execOp ρ {o with op:= .mapUpdate t x y z}:=by unfold execOp;rw[ho]
 rw[e];generalize (execOp ρ {o with op:= .mapUpdate t x y z}).run P w=R at h3 ⊢
 cases R with
 |ok x w'=>cases x <;>exact h3
 |halt x w'=>cases x <;>first|exact h3|exact⟨fun c hc=>(by rw[ho]at hc;cases hc),h3.2⟩
def gu(m:Option (KK×DV))(r:Option Operand)(S:St)(K:DV→St→Prop):Prop:=r=none∧oK m fun p=>∀l,iu S.acc l→K (.mp l) ⟨S.box,(l,.xo (.mp p.1 [] 0))::S.acc⟩
theorem CI{o:Oper}{t:TypeId}{r:Option Operand}(ho:o.op= .makeMap t r){ρD:Operand→DV}{S:St}{K:DV→St→Prop}(h:gu (kP P t) r S K):ah P w0 o ρD S K:=by
 intro g w ρ h1 h2 hcst;obtain⟨rfl,h⟩:=h
 cases hm:kP P t with
 |none=>rw[hm]at h;exact h.elim
 |some p=>
  obtain⟨kk,zz⟩:=p;rw[hm]at h
  have hrun:(execOp ρ o).run P w= .ok (.value (.map (some w.heap.size))) (w.alloc (.map #[] 0)):=by
   simp[execOp,ho,Instr.makeMap]
  rw[hrun];obtain⟨l,g',hle,hne,hR,ha⟩:=h1.Db (f:= .mp kk [] 0) (bY w (.map #[] 0)) (Xa _) (heap_alloc_new w _) ⟨[],rfl,⟨rfl,fun i e e' h=>by simp at h⟩,⟨fun e he=>(by cases he),by simp,by simp,fun e he=>(by cases he)⟩⟩;exact⟨g',_,_,hle,hR,.mp l _ ha,h l (cg hne)⟩
def ic(m:Option (KK×DV))(S:St)(x y:DV)(K:St→Prop):Prop:=oK m fun p=>oK (lp y) fun k=>isKey p.1 k=true∧(match x with
 | .mp l=>(match lk S.acc l with
  |some (.xo (.mp kk es clk))=>kk=p.1∧K ⟨S.box,up S.acc l (.xo (.mp kk (ig es k) clk))⟩
  |_=>False)
 |_=>False)
theorem Es{o:Oper}{t t':TypeId}{x y:Operand}(ho:o.op= .call {callee:= .builtin .delete,args:= #[x,y],argTypes:= #[t,t']}){ρD:Operand→DV}{S:St}{K:DV→St→Prop}(h0:ic (kP P t) S (ρD x) (ρD y) (K ud)):ah P w0 o ρD S K:=by
 intro g w ρ h1 h2 hcst;have hx:=h2 x (by simp[ho,Op.operands,Call.operands]);have hy:=h2 y (by simp[ho,Op.operands,Call.operands]);unfold ic at h0
 cases hm:kP P t with
 |none=>rw[hm]at h0;exact h0.elim
 |some p=>
  obtain⟨kk,zz⟩:=p;rw[hm]at h0
  cases hk:lp (ρD y)with
  |none=>rw[hk]at h0;exact h0.elim
  |some k=>
   rw[hk]at h0;obtain⟨hkk,hB⟩:=h0;have hyk:=qa hk hy;obtain⟨kt,et,hu,L,hzd⟩:=oU hm;simp only at hkk hB;split at hB
   ·rename_i l e;rw[e]at hx;obtain⟨b,hxb,hgb⟩:=mM hx;split at hB
    ·rename_i kk' es clk hl;obtain⟨hkke,hC⟩:=hB;subst hkke;obtain⟨b',o',q1,q2,⟨es',rfl,r,hok⟩,hset⟩:=h1.yA hl;rw[hgb]at q1;cases q1;have hg:=MapKept.run_getObj_map (P:=P) q2;have hm2:=Iq hok k;rcases r.found hok L hkk w with⟨f1,f2⟩|⟨j,e,e',f1,f2,f3,f4,f5,f6,f7,f8⟩
     ·obtain⟨s1,s2⟩:=gj (o':= .map es'.toArray clk) q2
      have hrun:(execOp ρ o).run P w= .ok (.value (.tuple #[])) {w with heap:=w.heap.setIfInBounds b (.map es'.toArray clk)}:=by
       simp[execOp,ho,resolve,invoke,builtin,Builtin.delete_,run_underlying hu,hxb,hyk,hg,L.check _ k w hkk,f1,MapKept.run_setObj_map _ q2]
      rw[hrun]
      have hd:ig es k=es:=by
       unfold ig;refine List.filter_eq_self.2 fun e he=>?_;have:=eR.1 f2 e he;simp[this]
      rw[hd]at hC;exact⟨g,_,_,.refl g,hset (.mp kk' es clk) _ _ ⟨_,rfl,r,hok⟩ (cW _ _ _) s1 s2,.cQ [] [] rfl (by intro i d u h;simp at h),hC⟩
     ·obtain⟨s1,s2⟩:=gj (o':= .map (es'.eraseIdx j).toArray clk) q2;have hlt:j<es'.length:=(W6.1 f2).1;have her:es'.toArray.eraseIdxIfInBounds j=(es'.eraseIdx j).toArray:=by simp
      have hrun:(execOp ρ o).run P w= .ok (.value (.tuple #[])) {w with heap:=w.heap.setIfInBounds b (.map (es'.eraseIdx j).toArray clk)}:=by
       simp[execOp,ho,resolve,invoke,builtin,Builtin.delete_,run_underlying hu,hxb,hyk,hg,L.check _ k w hkk,f1,MapKept.run_setObj_map _ q2,her]
      rw[hrun];have hr:=r.erase hok.nd f3;rw[f4]at hr;exact⟨g,_,_,.refl g,hset (.mp kk' _ clk) _ _ ⟨_,rfl,hr,hm2⟩ (cW _ _ _) s1 s2,.cQ [] [] rfl (by intro i d u h;simp at h),hC⟩
    ·exact hB.elim
   ·exact hB.elim
def ji(m:Option (KK×DV))(S:St)(x:DV)(K:DV→St→Prop):Prop:=m.isSome=true∧(match x with
 | .mp l=>(match lk S.acc l with
  |some (.xo (.mp kk es clk))=>∀l',iu S.acc l'→K (.it l') ⟨S.box,(l',.xo (.it l clk [] clk))::S.acc⟩
  |_=>False)
 | .v (.map none)=>∀l',iu S.acc l'→K (.it l') ⟨S.box,(l',.xo .ni)::S.acc⟩
 |_=>False)
theorem Jg{o:Oper}{t:TypeId}{x:Operand}(ho:o.op= .range t x){ρD:Operand→DV}{S:St}{K:DV→St→Prop}(h:ji (kP P t) S (ρD x) K):ah P w0 o ρD S K:=by
 intro g w ρ h1 h2 hcst;have hx:=h2 x (by simp[ho,Op.operands]);obtain⟨hm,h⟩:=h;obtain⟨p,hm⟩:=YK.1 hm;obtain⟨kt,et,hu,L,hzd⟩:=oU (kk:=p.1) (z:=p.2) hm;split at h
 ·rename_i l e;rw[e]at hx;obtain⟨b,hxb,hgb⟩:=mM hx;split at h
  ·rename_i kk es clk hl;obtain⟨b',o',q1,q2,es',rfl,r,hok⟩:=h1.xC hl;rw[hgb]at q1;cases q1;have hg:=MapKept.run_getObj_map (P:=P) q2
   have hrun:(execOp ρ o).run P w= .ok (.value (.pointer (some ⟨w.heap.size,0,none⟩))) (w.alloc (.mapIter (some b) clk #[] clk)):=by
    simp[execOp,ho,Instr.range,run_underlying hu,hxb,hg]
   rw[hrun];obtain⟨l',g',hle,hne,hR,ha⟩:=h1.Db (f:= .it l clk [] clk) (bY w (.mapIter (some b) clk #[] clk)) (Xa _) (heap_alloc_new w _) ⟨b,rfl,hgb⟩;exact⟨g',_,_,hle,hR,.it l' _ ha,h l' (cg hne)⟩
  ·exact h.elim
 ·rename_i e;rw[e]at hx;have hxb:=aj hx
  have hrun:(execOp ρ o).run P w= .ok (.value (.pointer (some ⟨w.heap.size,0,none⟩))) (w.alloc (.mapIter none 0 #[] 0)):=by
   simp[execOp,ho,Instr.range,run_underlying hu,hxb]
  rw[hrun];obtain⟨l',g',hle,hne,hR,ha⟩:=h1.Db (f:= .ni) (bY w (.mapIter none 0 #[] 0)) (Xa _) (heap_alloc_new w _) rfl;exact⟨g',_,_,hle,hR,.it l' _ ha,h l' (cg hne)⟩
 ·exact h.elim
def qH(S:St)(x:DV)(s:Bool)(K:DV→St→Prop):Prop:=s=false∧(match x with
 | .it l=>(match lk S.acc l with
  |some (.xo (.it m since seen last))=>(match lk S.acc m with
   |some (.xo (.mp kk es clk))=>clk=since∧last=since∧((∀e,e∈es→e.2.2∈seen)→K (.cQ [.v (.bool false)]) S)∧∀e,e∈es→e.2.2∉seen→K (.cQ [.v (.bool true),kD e.1,e.2.1]) ⟨S.box,up S.acc l (.xo (.it m since (seen++[e.2.2]) since))⟩
   |_=>False)
  |some (.xo .ni)=>K (.cQ [.v (.bool false)]) S
  |_=>False)
 |_=>False)
theorem LI{o:Oper}{x:Operand}{s:Bool}(ho:o.op= .next x s){ρD:Operand→DV}{S:St}{K:DV→St→Prop}(h:qH S (ρD x) s K):ah P w0 o ρD S K:=by
 intro g w ρ h1 h2 hcst;have hx:=h2 x (by simp[ho,Op.operands]);obtain⟨rfl,h⟩:=h;split at h
 ·rename_i l e;rw[e]at hx;obtain⟨r0,hxb,hgb⟩:=xQ hx;split at h
  ·rename_i m since seen last hl;split at h
   ·rename_i kk es clk hlm;obtain⟨hc1,hc2,hA,hB⟩:=h;subst hc1;have hc3:=hc2.symm;subst hc3;obtain⟨b',o',q1,q2,⟨bm,rfl,hbm⟩,hset⟩:=h1.yA hl;rw[hgb]at q1;cases q1;obtain⟨b2,o2,p1,p2,es',rfl,r,hok⟩:=h1.xC hlm;rw[hbm]at p1;cases p1
    have hold:∀y∈es'.toArray.toList,y.born<clk:=fun y hy=>by
     obtain⟨j,hj⟩:=XI.1 (by simpa using hy);obtain⟨e,he,_,_,h3⟩:=r.get hj;rw[h3];exact hok.lt e (W7 he)
    rcases run_next_at (P:=P) w o.type r0 bm clk clk seen.toArray es'.toArray clk q2 p2 hold (Xa _)with⟨n1,n2⟩|⟨e',he',w1,hw1,n2⟩
    ·have hrun:(execOp ρ o).run P w= .ok (.value (.tuple #[.bool false])) w:=by simp[execOp,ho,hxb,n2]
     rw[hrun];refine⟨g,_,_,.refl g,h1,.cQ [.v (.bool false)] [.bool false] rfl (fun i d u a b=>by cases i <;>simp at a b;subst a;subst b;exact .v _ rfl),hA fun e he=>?_⟩;obtain⟨j,hj⟩:=XI.1 he;obtain⟨e',he',_,_,h3⟩:=r.get' hj;have hl:=YM n1;unfold leftOf at hl;rw[Array.filter_eq_empty_iff]at hl;have:=hl e' (by simpa using W7 he');rw[←h3];simpa using this
    ·unfold leftOf at he';have he2:e'∈es'∧e'.born∉seen:=by simpa using he'
     obtain⟨j,hj⟩:=XI.1 he2.1;obtain⟨e,he,k1,k2,k3⟩:=r.get hj;have hem:=W7 he;have hrun:(execOp ρ o).run P w= .ok (.value (.tuple #[.bool true,e'.key,e'.val])) (ChangeMaps.setBlock w1 r0 (.mapIter (some bm) clk (seen.toArray.push e'.born) clk)):=by simp[execOp,ho,hxb,n2]
     rw[hrun]
     have hw:w1.heap=w.heap∧gE r0 w (ChangeMaps.setBlock w1 r0 (.mapIter (some bm) clk (seen.toArray.push e'.born) clk)):=by
      rcases hw1 with rfl|rfl
      ·exact⟨rfl,cW _ _ _⟩
      ·exact⟨rfl,((gE.refl r0 w).drew).trans (cW w.drew r0 _)⟩
     have hh:∀(o':Obj),(ChangeMaps.setBlock w1 r0 o').heap=w.heap.setIfInBounds r0 o':=fun o'=>by show w1.heap.setIfInBounds r0 o'=_;rw[hw.1]
     obtain⟨s1,s2⟩:=MapKept.heap_set (o':= .mapIter (some bm) clk (seen.toArray.push e'.born) clk) q2;refine⟨g,_,_,.refl g,hset (.it m clk (seen++[e.2.2]) clk) (.mapIter (some bm) clk (seen.toArray.push e'.born) clk) _ ⟨bm,by rw[k3];simp,hbm⟩ hw.2 (by rw[hh];exact s1) (fun i hi=>by rw[hh];exact s2 i hi),?_,hB e hem (by rw[←k3];exact he2.2)⟩;refine .cQ [.v (.bool true),kD e.1,e.2.1] [.bool true,e'.key,e'.val] rfl fun i d u a b=>?_
     match i with
     |0=>simp at a b;subst a;subst b;exact .v _ rfl
     |1=>simp at a b;subst a;subst b;rw[k1];exact Gy (hok.key e hem)
     |2=>simp at a b;subst a;subst b;exact k2
     |n+3=>simp at a
   ·exact h.elim
  ·rename_i hl;obtain⟨b',o',q1,q2,q3⟩:=h1.xC hl;rw[hgb]at q1;cases q1;have q3:o'= .mapIter none 0 #[] 0:=q3;subst q3
   have hrun:(execOp ρ o).run P w= .ok (.value (.tuple #[.bool false])) w:=by
    simp[execOp,ho,hxb,Instr.next,getObj,Sem.run_bind,Sem.run,q2,Result.andThen]
   rw[hrun];exact⟨g,_,_,.refl g,h1,.cQ [.v (.bool false)] [.bool false] rfl (fun i d u a b=>by cases i <;>simp at a b;subst a;subst b;exact .v _ rfl),h⟩
  ·exact h.elim
 ·exact h.elim
def jg(S:St)(x:DV)(K:DV→St→Prop):Prop:=match x with
 | .v (.string s)=>∀l',iu S.acc l'→K (.it l') ⟨S.box,(l',.xo (.si s 0))::S.acc⟩
 |_=>False
theorem GV{o:Oper}{t:TypeId}{x:Operand}(ho:o.op= .range t x)(ht:tk P t= .str){ρD:Operand→DV}{S:St}{K:DV→St→Prop}(h:jg S (ρD x) K):ah P w0 o ρD S K:=by
 intro g w ρ h1 h2 hcst;have hx:=h2 x (by simp[ho,Op.operands]);have hu:=gA ht;unfold jg at h;split at h
 ·rename_i s e;rw[e]at hx;have hxb:=aj hx
  have hrun:(execOp ρ o).run P w= .ok (.value (.pointer (some ⟨w.heap.size,0,none⟩))) (w.alloc (.stringIter s 0)):=by
   simp[execOp,ho,Instr.range,run_underlying hu,hxb]
  rw[hrun];obtain⟨l',g',hle,hne,hR,ha⟩:=h1.Db (f:= .si s 0) (bY w (.stringIter s 0)) (Xa _) (heap_alloc_new w _) rfl;exact⟨g',_,_,hle,hR,.it l' _ ha,h l' (cg hne)⟩
 ·exact h.elim
def KA(k:TK)(m:Option (KK×DV))(S:St)(x:DV)(K:DV→St→Prop):Prop:=match k with
 | .str=>jg S x K
 |_=>ji m S x K
theorem Si{o:Oper}{t:TypeId}{x:Operand}(ho:o.op= .range t x){ρD:Operand→DV}{S:St}{K:DV→St→Prop}(h:KA (tk P t) (kP P t) S (ρD x) K):ah P w0 o ρD S K:=by
 unfold KA at h;split at h
 ·rename_i e;exact GV ho e h
 ·exact Jg ho h
def jz(S:St)(x:DV)(K:DV→St→Prop):Prop:=match x with
 | .it l=>(match lk S.acc l with
  |some (.xo (.si s pos))=>(¬pos<s.size→K (.cQ [.v (.bool false)]) S)∧(pos<s.size→K (.cQ [.v (.bool true),.v (.int .i64 pos),.v (.int .i32 (Utf8.decode s pos).1)]) ⟨S.box,up S.acc l (.xo (.si s (pos+(Utf8.decode s pos).2)))⟩)
  |_=>False)
 |_=>False
theorem Jc{o:Oper}{x:Operand}(ho:o.op= .next x true){ρD:Operand→DV}{S:St}{K:DV→St→Prop}(h:jz S (ρD x) K):ah P w0 o ρD S K:=by
 intro g w ρ h1 h2 hcst;have hx:=h2 x (by simp[ho,Op.operands]);unfold jz at h;split at h
 ·rename_i l e;rw[e]at hx;obtain⟨r0,hxb,hgb⟩:=xQ hx;split at h
  ·rename_i s pos hl;obtain⟨b',o',q1,q2,q3,hset⟩:=h1.yA hl;rw[hgb]at q1;cases q1;have q3:o'= .stringIter s pos:=q3;subst q3;by_cases hp:pos<s.size
   ·have hrun:(execOp ρ o).run P w= .ok (.value (.tuple #[.bool true,.int .i64 pos,.int .i32 (Utf8.decode s pos).1])) {w with heap:=w.heap.setIfInBounds r0 (.stringIter s (pos+(Utf8.decode s pos).2))}:=by
     simp[execOp,ho,hxb,Instr.next,getObj,setObj,Sem.run_bind,Sem.run,q2,Result.andThen,hp,goInt]
    rw[hrun];obtain⟨s1,s2⟩:=gj (o':= .stringIter s (pos+(Utf8.decode s pos).2)) q2;refine⟨g,_,_,.refl g,hset (.si s (pos+(Utf8.decode s pos).2)) _ _ rfl (cW w r0 _) s1 s2,?_,h.2 hp⟩;refine .cQ [.v (.bool true),.v (.int .i64 pos),.v (.int .i32 (Utf8.decode s pos).1)] [.bool true,.int .i64 pos,.int .i32 (Utf8.decode s pos).1] rfl fun i d u a b=>?_
    match i with
    |0=>simp at a b;subst a;subst b;exact .v _ rfl
    |1=>simp at a b;subst a;subst b;exact .v _ rfl
    |2=>simp at a b;subst a;subst b;exact .v _ rfl
    |n+3=>simp at a
   ·have hrun:(execOp ρ o).run P w= .ok (.value (.tuple #[.bool false])) w:=by
     simp[execOp,ho,hxb,Instr.next,getObj,Sem.run_bind,Sem.run,q2,Result.andThen,hp]
    rw[hrun];exact⟨g,_,_,.refl g,h1,.cQ [.v (.bool false)] [.bool false] rfl (fun i d u a b=>by cases i <;>simp at a b;subst a;subst b;exact .v _ rfl),h.1 hp⟩
  ·exact h.elim
 ·exact h.elim
def Oc(b:Bool)(S:St)(x:DV)(K:DV→St→Prop):Prop:=match b with
 |true=>jz S x K
 |false=>qH S x false K
theorem Th{o:Oper}{x:Operand}{s:Bool}(ho:o.op= .next x s){ρD:Operand→DV}{S:St}{K:DV→St→Prop}(h:Oc s S (ρD x) K):ah P w0 o ρD S K:=by
 cases s with
 |true=>exact Jc ho h
 |false=>exact LI ho h
def jC(S:St)(x:DV)(K:DV→Prop):Prop:=match x with
 | .it l=>(match lk S.acc l with
  |some (.xo (.it m since seen last))=>(match lk S.acc m with
   |some (.xo (.mp kk es clk))=>clk=last∧∃e,e∈es∧(∃s0,seen=s0++[e.2.2])∧K (.cQ [kD e.1,e.2.1])
   |_=>False)
  |_=>False)
 |_=>False
theorem Kx{o:Oper}{x:Operand}(ho:o.op= .entry x){ρD:Operand→DV}{S:St}{K:DV→St→Prop}(h:jC S (ρD x) (K · S)):ah P w0 o ρD S K:=by
 refine bd fun g w ρ h1 h2=>?_;have hx:=h2 x (by simp[ho,Op.operands]);unfold jC at h;split at h
 ·rename_i l e;rw[e]at hx;obtain⟨r0,hxb,hgb⟩:=xQ hx;split at h
  ·rename_i m since seen last hl;split at h
   ·rename_i kk es clk hlm;obtain⟨rfl,e,hem,⟨s0,rfl⟩,hK⟩:=h;obtain⟨b',o',q1,q2,bm,rfl,hbm⟩:=h1.xC hl;rw[hgb]at q1;cases q1;obtain⟨b2,o2,p1,p2,es',rfl,r,hok⟩:=h1.xC hlm;rw[hbm]at p1;cases p1;obtain⟨j,hj⟩:=XI.1 hem;obtain⟨e',he',k1,k2,k3⟩:=r.get' hj
    have hbn:(es'.toArray.toList.map (·.born)).Nodup:=by
     have:es'.toArray.toList.map (·.born)=es.map (·.2.2):=by
      refine X4 fun i=>?_;rw[Xd,Xd];simp only
      cases hi:es'[i]? with
      |none=>
       have:es[i]? =none:=Xe (by rw[r.len];exact List.getElem?_eq_none_iff.1 hi);rw[this];rfl
      |some y=>obtain⟨z,hz,_,_,h3⟩:=r.get hi;rw[hz];simp[h3]
     rw[this];exact hok.bn
    have hrn:=run_entry_at (P:=P) w r0 bm since s0.toArray es'.toArray clk e' (by rw[q2,k3];simp) p2 (by simpa using W7 he') hbn;refine⟨_,.tuple #[e'.key,e'.val],by simp[execOp,ho,hxb,hrn],?_,hK⟩;refine .cQ [kD e.1,e.2.1] [e'.key,e'.val] rfl fun i d u a b=>?_
    match i with
    |0=>simp at a b;subst a;subst b;rw[k1];exact Gy (hok.key e hem)
    |1=>simp at a b;subst a;subst b;exact k2
    |n+2=>simp at a
   ·exact h.elim
  ·exact h.elim
 ·exact h.elim
end
/- The words as they are reckoned out. -/
def xK(o:Option Ob)(F:KK→List (Value×DV×Nat)→Nat→Prop):Prop:=match o with
 |some (.xo (.mp kk es clk))=>F kk es clk
 |_=>False
def Pn(o:Option Ob)(F:ByteArray→Nat→Prop):Prop:=match o with
 |some (.xo (.si s pos))=>F s pos
 |_=>False
def iK(o:Option Ob)(F:Nat→Nat→List Nat→Nat→Prop):Prop:=match o with
 |some (.xo (.it m since seen last))=>F m since seen last
 |_=>False
def OC(o:Option Ob)(G:Prop)(F:Nat→Nat→List Nat→Nat→Prop):Prop:=match o with
 |some (.xo (.it m since seen last))=>F m since seen last
 |some (.xo .ni)=>G
 |_=>False
def Nd(o:Option DV)(F:DV→Prop)(G:Prop):Prop:=match o with
 |some d=>F d
 |none=>G
def CC(o:Option (List IntKind))(z:DV):Option (KK×DV):=match o with
 |some ks=>some (.st ks,z)
 |none=>none
def Nw(k:IntKind)(o:Option (List IntKind)):Option (List IntKind):=match o with
 |some l=>some (k::l)
 |none=>none
def PH(P:Program)(t:TypeId)(o:Option (List FK))(z:DV):Option (KK×DV):=match o with
 |some l=>(cz l).map fun ks=>(.st ks,z)
 |none=>CC (mJ P t) z
def OE(P:Program)(t:TypeId):TK→DV→Option (KK×DV)
 | .int k,z=>some (.int k,z)
 | .str,z=>some (.str,z)
 | .st _ _,z=>PH P t (nI P t) z
 |_,_=>none
def SB(P:Program):TK→Option (KK×DV)
 | .map k e=>OE P k (tk P k) (zD P e)
 |_=>none
theorem Qx(P:Program)(t:TypeId):kP P t=SB P (tk P t):=by
 unfold kP SB Ip;cases tk P t <;>try rfl
 rename_i k e;simp only;cases tk P k <;>try rfl
 simp only[OE,PH]
 cases nI P k with
 |none=>
  show Option.map _ (Option.map _ (mJ P k))=CC (mJ P k) _;cases mJ P k <;>rfl
 |some l=>
  show Option.map _ (Option.map _ (cz l))=_;rw[Option.map_map];rfl
theorem QK(P:Program)(k e:Nat):SB P (.map k e)=OE P k (tk P k) (zD P e):=rfl
theorem CG(P:Program)(t:TypeId)(k:IntKind)(z:DV):OE P t (.int k) z=some (.int k,z):=rfl
theorem CZ(P:Program)(t:TypeId)(z:DV):OE P t .str z=some (.str,z):=rfl
theorem Hw(P:Program)(t:TypeId)(fs:List (Nat×Nat×Bool))(n:Nat)(z:DV):OE P t (.st fs n) z=PH P t (nI P t) z:=rfl
theorem LS(P:Program)(t:TypeId)(z:DV):PH P t none z=CC (mJ P t) z:=rfl
theorem Qf(P:Program)(t:TypeId)(l:List FK)(z:DV):PH P t (some l) z=CC (cz l) z:=by show Option.map _ (cz l)=_;unfold CC;cases cz l <;>rfl
theorem CH:cz []=some []:=rfl
theorem xh(k:IntKind)(l:List FK):cz (.int k::l)=Nw k (cz l):=by unfold Nw;rw[cz];cases cz l <;>rfl
theorem Ms(k:IntKind)(l:List IntKind):Nw k (some l)=some (k::l):=rfl
theorem LL(ks:List IntKind)(z:DV):CC (some ks) z=some (.st ks,z):=rfl
theorem Gl(u:Value):lp (.v u)=some u:=rfl
theorem vF(k:IntKind)(a:Int):isKey (.int k) (.int k a)=true:=by simp[isKey]
theorem wX(ks:List IntKind)(us:List Value):isKey (.st ks) (.agg us.toArray)=aq ks us:=rfl
theorem ub:aq [] []=true:=rfl
theorem rr(k k':IntKind)(a:Int)(ks:List IntKind)(us:List Value):aq (k::ks) (.int k' a::us)=(decide (k'=k)&&aq ks us):=rfl
def Mv(o:Option (List Value)):Option Value:=match o with
 |some l=>some (.agg l.toArray)
 |none=>none
theorem uC(ds:List DV):lp (.agg ds)=Mv (cK ds):=by
 show Option.map _ _=_;unfold Mv;cases cK ds <;>rfl
theorem MQ(l:List Value):Mv (some l)=some (.agg l.toArray):=rfl
theorem wa(s:ByteArray):isKey .str (.string s)=true:=rfl
theorem J4(d:DV)(b:Bool):HV false d b=d:=rfl
theorem Ih(d:DV)(b:Bool):HV true d b= .cQ [d,.v (.bool b)]:=rfl
theorem SJ(kk:KK)(es:List (Value×DV×Nat))(clk:Nat)(F:KK→List (Value×DV×Nat)→Nat→Prop):xK (some (.xo (.mp kk es clk))) F=F kk es clk:=rfl
theorem TG(m since:Nat)(seen:List Nat)(last:Nat)(F:Nat→Nat→List Nat→Nat→Prop):iK (some (.xo (.it m since seen last))) F=F m since seen last:=rfl
theorem Py(m since:Nat)(seen:List Nat)(last:Nat)(G:Prop)(F:Nat→Nat→List Nat→Nat→Prop):OC (some (.xo (.it m since seen last))) G F=F m since seen last:=rfl
theorem Lt(G:Prop)(F:Nat→Nat→List Nat→Nat→Prop):OC (some (.xo .ni)) G F=G:=rfl
theorem wP(d:DV)(F:DV→Prop)(G:Prop):Nd (some d) F G=F d:=rfl
theorem xt(F:DV→Prop)(G:Prop):Nd none F G=G:=rfl
theorem EC(k:IntKind)(a:Int):kD (.int k a)= .v (.int k a):=rfl
theorem Fh(s:ByteArray):kD (.string s)= .v (.string s):=rfl
section
variable (kk:KK) (z:DV) (S:St) (l:Nat) (y:DV)
theorem F8(ok:Bool)(K:DV→Prop):bM (some (kk,z)) S (.mp l) y ok K=(dH z=true∧oK (lp y) fun k=>isKey kk k=true∧xK (lk S.acc l) fun kk' es clk=>kk'=kk∧Nd (aJ es k) (fun d=>K (HV ok d true)) (K (HV ok z false))):=by
 unfold bM;simp only[oK,xK,Nd]
theorem Gf(d:DV)(K:St→Prop):dK (some (kk,z)) S (.mp l) y d K=(oK (lp y) fun k=>isKey kk k=true∧shr S d fun d S=>xK (lk S.acc l) fun kk' es clk=>kk'=kk∧K ⟨S.box,up S.acc l (.xo (.mp kk' (cX es clk k d) (eV es clk k)))⟩):=by
 unfold dK;simp only[oK,xK]
theorem DL(K:St→Prop):ic (some (kk,z)) S (.mp l) y K=(oK (lp y) fun k=>isKey kk k=true∧xK (lk S.acc l) fun kk' es clk=>kk'=kk∧K ⟨S.box,up S.acc l (.xo (.mp kk' (ig es k) clk))⟩):=by
 unfold ic;simp only[oK,xK]
theorem QN(s:ByteArray)(pos:Nat)(F:ByteArray→Nat→Prop):Pn (some (.xo (.si s pos))) F=F s pos:=rfl
theorem H7(K:DV→St→Prop):jz S (.it l) K=Pn (lk S.acc l) fun s pos=>(¬pos<s.size→K (.cQ [.v (.bool false)]) S)∧(pos<s.size→K (.cQ [.v (.bool true),.v (.int .i64 pos),.v (.int .i32 (Utf8.decode s pos).1)]) ⟨S.box,up S.acc l (.xo (.si s (pos+(Utf8.decode s pos).2)))⟩):=by
 unfold jz Pn;split <;>simp_all
theorem L8(K:DV→St→Prop):qH S (.it l) false K=OC (lk S.acc l) (K (.cQ [.v (.bool false)]) S) fun m since seen last=>xK (lk S.acc m) fun kk es clk=>clk=since∧last=since∧((∀e,e∈es→e.2.2∈seen)→K (.cQ [.v (.bool false)]) S)∧∀e,e∈es→e.2.2∉seen→K (.cQ [.v (.bool true),kD e.1,e.2.1]) ⟨S.box,up S.acc l (.xo (.it m since (seen++[e.2.2]) since))⟩:=by
 unfold qH;simp only[OC,xK,true_and]
theorem Jv(K:DV→Prop):jC S (.it l) K=iK (lk S.acc l) fun m since seen last=>xK (lk S.acc m) fun kk es clk=>clk=last∧∃e,e∈es∧(∃s0,seen=s0++[e.2.2])∧K (.cQ [kD e.1,e.2.1]):=by
 unfold jC;simp only[iK,xK]
end
end Aml
namespace Aml
open Go Go.RowKit
section
variable {P:Program} {w0:W0}
def bF(ds:List DV)(o:Nat)(cs:List DV):List DV:=ds.take o++cs++ds.drop (o+cs.length)
theorem tw{g:Gh}{S:St}{w:World}(h:Rel w0 g S w){b o:Nat}{ds cs:List DV}(hb:lk S.box b=some ds){vs:List Value}(hr:ae g cs vs)(h1:∀v,v∈vs→v.oneCell'=true)(hle:o+cs.length≤ds.length):
 ∃w',(storeCells ⟨b,o,none⟩ vs).run P w= .ok () w'∧Rel w0 g ⟨up S.box b (bF ds o cs),S.acc⟩ w':=by
 obtain⟨us,e,hh,hru,hone,hset⟩:=h.yn (ds':=bF ds o cs) hb;have hl:vs.length=cs.length:=hr.len.symm;have hul:us.toList.length=ds.length:=hru.len.symm;have hst:=run_storeCells_at (P:=P) b o e vs 0 us w hh (by simp at hul;omega) h1;simp only[YJ]at hst;refine⟨_,hst,hset _ ?_ ?_⟩
 ·unfold bF;rw[Yi,hl];exact((hru.take o).append hr).append (hru.drop _)
 ·intro u hu;rw[Yi]at hu;rcases Xh.1 hu with hu|hu
  ·rcases Xh.1 hu with hu|hu
   ·exact hone u (X5 hu)
   ·exact h1 u hu
  ·exact hone u (XN hu)
theorem oA{g:Gh}{S:St}{w:World}(h:Rel w0 g S w){b o m s:Nat}{ds:List DV}(hb:lk S.box b=some ds)(hle:o+m*s≤ds.length):
 ∃vs,ae g ((ds.drop o).take (m*s)) vs∧(∀v,v∈vs→v.oneCell'=true)∧vs.length=m*s∧∀w',(∀p,w'.cell? p=w.cell? p)→∀n c,(Builtin.firstCells s m (.slice (some ⟨b,o,none⟩) n c)).run P w'= .ok vs.toArray w':=by
 obtain⟨_,_,us,e,hh,hru,hone⟩:=h.tU hb;have hul:us.toList.length=ds.length:=hru.len.symm;refine⟨(us.toList.drop o).take (m*s),(hru.drop o).take _,fun v hv=>hone v (XN (X5 hv)),by simp at hul ⊢;omega,fun w' hw' n c=>?_⟩;refine run_firstCells_some (P:=P) w' s m _ n c _ (by simp at hul ⊢;omega) fun j v hj=>?_;rw[XU]at hj;split at hj
 ·rw[XV]at hj;rw[hw',add_plain,bA hh];simpa using hj
 ·cases hj
theorem mB{g:Gh}:∀{ys:List DV} {us:List Value},ae g ys us→(∀d,d∈ys→dH d=true)→ae g (ys.flatMap cd) (fl us)
 |[],us,h,_=>by
  have:us=[]:=Xn (by have:=h.len;simpa using this.symm);subst this;exact ae.nil g
 |d::ys,us,h,ho=>by
  obtain⟨u,us',rfl,r1,r2⟩:=h.cM;have:=(r1.cells (ho d Xf)).append (mB r2 fun x hx=>ho x (Xc _ hx));simpa[fl]using this
def sk:DV→Bool
 | .v (.slice (some _) _ _)=>true
 |_=>false
def vf(k:TK)(S:St)(x y:DV)(K:DV→St→Prop):Prop:=match k,x with
 | .sl e s by' true,.v (.slice (some ⟨b,o,none⟩) n c)=>(match lk S.box b with
  |some ds=>o+n*s≤ds.length∧(match y with
   | .v (.slice (some ⟨b2,o2,none⟩) m c2)=>(match lk S.box b2 with
    |some es=>o2+m*s≤es.length∧K (.v (.int .i64 (min m n:Nat))) ⟨up S.box b (bF ds o ((es.drop o2).take (min m n*s))),S.acc⟩
    |none=>False)
   |y=>iG S y fun s' ys=>(s'=s∨ys=[])∧(∀d,d∈ys→dH d=true)∧ys.length≤n∧K (.v (.int .i64 ys.length)) ⟨up S.box b (bF ds o (ys.flatMap cd)),S.acc⟩)
  |none=>False)
 |_,_=>False
theorem Lz{o:Oper}{t t':TypeId}{x y:Operand}(ho:o.op= .call {callee:= .builtin .copy,args:= #[x,y],argTypes:= #[t,t']}){ρD:Operand→DV}{S:St}{K:DV→St→Prop}
 (h:vf (tk P t) S (ρD x) (ρD y) K):ah P w0 o ρD S K:=by
 intro g w ρ h1 h2 hcst;have hx:=h2 x (by simp[ho,Op.operands,Call.operands]);have hy:=h2 y (by simp[ho,Op.operands,Call.operands]);unfold vf at h;split at h
 ·rename_i e s by' b of n c hk hxe;rw[hxe]at hx;have hxv:=aj hx;obtain⟨hu,hcs,_,hei⟩:=cO hk;obtain⟨ti,z,hi,hz,hzs,hpos⟩:=bV hei;have his:ti.size=s:=by simpa[Program.cellsOf,hi]using hcs
  split at h
  ·rename_i ds hb;obtain⟨hle,h⟩:=h
   have fin:∀(m k:Nat) (vs:List Value) (cs:List DV),k=min m n→(Builtin.lenOf (ρ y)).run P w= .ok m w→(Builtin.firstCells s k (ρ y)).run P w= .ok vs.toArray w→ae g cs vs→(∀v,v∈vs→v.oneCell'=true)→vs.length=k*s→
    K (.v (.int .i64 k)) ⟨up S.box b (bF ds of cs),S.acc⟩→
    match(execOp ρ o).run P w with
    | .ok (.value u) w'=>∃g' d S',g.le g'∧Rel w0 g' S' w'∧az g' d u∧K d S'
    | .ok .skip w'=>∃g' S',g.le g'∧Rel w0 g' S' w'∧K ud S'
    | .ok (.enter f args) w'=>Calls P f args w' (Ends w0 g K)
    | .ok (.round l f tmps assign body) w'=>∀ro,RoundIn (fz ro) 0 P l f tmps assign body w' (Ends w0 g K)
    | .halt (.panic v) w'=>(∀c,o.op≠ .defer c)∧∃g' d S',g.le g'∧Rel w0 g' S' w'∧az g' d v∧w0.pq d S'
    |_=>False:=by
    intro m k vs cs hkm hl hf hr hone hvl hK;have hkn:k*s≤n*s:=XL s (by omega);obtain⟨w',e1,e2⟩:=tw (P:=P) h1 hb (o:=of) hr hone (by have:=hr.len;omega);have hmn:Nat.min m n=k:=hkm.symm
    have:(execOp ρ o).run P w= .ok (.value (.int .i64 k)) w':=by
     simp[execOp,ho,resolve,invoke,builtin,hxv,Builtin.copy_,run_underlying hu,hl,hmn,Go.sizeOf,typeInfo,hi,his,hf,e1,goInt]
    rw[this];exact⟨g,_,_,.refl g,e2,.v _ rfl,hK⟩
   split at h
   ·rename_i b2 o2 m c2 hye;rw[hye]at hy;have hyv:=aj hy;split at h
    ·rename_i es hb2;obtain⟨hle2,hK⟩:=h;have hmn:min m n*s≤m*s:=XL s (Nat.min_le_left _ _);obtain⟨vs,r1,r2,r3,r4⟩:=oA (P:=P) (o:=o2) (m:=min m n) (s:=s) h1 hb2 (by omega);exact fin m (min m n) vs _ rfl (by rw[hyv];rfl) (by rw[hyv];exact r4 w (fun _=>rfl) m c2) r1 r2 r3 hK
    ·exact h.elim
   ·obtain⟨s2,ys,vs,⟨hs2,hok,hlen,hK⟩,hv,hvz,hv1,hlx,hfx⟩:=s9 (P:=P) h1 hy h
    have hvz':∀(i:Nat) (u:Value),vs[i]? =some u→u.cells.size=s:=by
     rcases hs2 with rfl|rfl
     ·exact hvz
     ·have:vs=[]:=Xn hv.len.symm;subst this;simp
    exact fin ys.length ys.length (fl vs) _ (by omega) (hlx w) (hfx w (fun _=>rfl) s (hs2.imp Eq.symm id)) (mB hv hok) (mV hv1) (by rw[fR hvz',hv.len]) hK
  ·exact h.elim
 ·exact h.elim
def La(S:St)(s:Nat)(ds:List DV)(o b n:Nat)(y:DV)(K:DV→St→Prop):Prop:=match y with
 | .v (.slice (some ⟨b2,o2,none⟩) m c2)=>oK (lk S.box b2) fun es=>o2+m*s≤es.length∧K (.v (.int .i64 (min m n:Nat))) ⟨up S.box b (bF ds o ((es.drop o2).take (min m n*s))),S.acc⟩
 |y=>iG S y fun s' ys=>(s'=s∨ys=[])∧(∀d,d∈ys→dH d=true)∧ys.length≤n∧K (.v (.int .i64 ys.length)) ⟨up S.box b (bF ds o (ys.flatMap cd)),S.acc⟩
def kS(z:DV)(n:Nat):List DV:=(List.replicate n (cd z)).flatten
theorem BJ{z:DV}{s:Nat}(h:(cd z).length=s)(n:Nat):(kS z n).length=n*s:=by
 unfold kS
 induction n with
 |zero=>simp
 |succ n ih=>rw[List.replicate_succ,List.flatten_cons,Xj,ih,h,X1];omega
theorem po(z:Array Value)(n:Nat):(Builtin.zeroCells z (n+1)).toList=z.toList++(Builtin.zeroCells z n).toList:=by
 apply X4;intro k;simp only[Builtin.zeroCells,Array.toList_map,Array.toList_range,Xd];rcases XH k z.size with hk|hk
 ·rw[Xx (by simpa using hk),X3 (by rw[X1];omega)];simp[YG hk,hk]
 ·rw[Xv (by simpa using hk)];simp only[XW,Xd];rcases XH k ((n+1)*z.size)with h2|h2
  ·have h3:k-z.size<n*z.size:=by rw[X1]at h2;omega
   rw[X3 h2,X3 h3]
   have e:k%z.size=(k-z.size)%z.size:=by
    conv=>lhs;rw[show k=(k-z.size)+z.size by omega,Nat.add_mod_right]
   simp only[XB,e]
  ·have h3:n*z.size≤k-z.size:=by rw[X1]at h2;omega
   rw[Xe (by simpa using h2),Xe (by simpa using h3)]
theorem nh{g:Gh}{zd:DV}{z:Value}(hr:az g zd z)(hok:dH zd=true):∀n,ae g (kS zd n) (Builtin.zeroCells z.cells n).toList
 |0=>by simp[kS,Builtin.zeroCells];exact ae.nil g
 |n+1=>by
  rw[po];have e:kS zd (n+1)=cd zd++kS zd n:=by unfold kS;rw[List.replicate_succ,List.flatten_cons]
  rw[e];exact(hr.cells hok).append (nh hr hok n)
def kg(k:TK)(z:DV)(S:St)(x:DV)(K:DV→St→Prop):Prop:=match k,x with
 | .sl e s by' true,.v (.slice (some ⟨b,o,none⟩) n c)=>(match lk S.box b with
  |some ds=>dH z=true∧o+n*s≤ds.length∧K ud ⟨up S.box b (bF ds o (kS z n)),S.acc⟩
  |none=>False)
 | .map _ _,.mp l=>(match lk S.acc l with
  |some (.xo (.mp kk es clk))=>K ud ⟨S.box,up S.acc l (.xo (.mp kk [] clk))⟩
  |_=>False)
 |_,_=>False
theorem Jx{o:Oper}{t:TypeId}{x:Operand}(ho:o.op= .call {callee:= .builtin .clear,args:= #[x],argTypes:= #[t]}){ρD:Operand→DV}{S:St}{K:DV→St→Prop}
 (h:kg (tk P t) (zD P (de P t)) S (ρD x) K):ah P w0 o ρD S K:=by
 intro g w ρ h1 h2 hcst;have hx:=h2 x (by simp[ho,Op.operands,Call.operands]);unfold kg at h;split at h
 ·rename_i e s by' b of n c hk hxe;rw[hxe]at hx;have hxv:=aj hx;obtain⟨hu,hcs,_,hei⟩:=cO hk;obtain⟨ti,z,hi,hz,hzs,hpos⟩:=bV hei;have his:ti.size=s:=by simpa[Program.cellsOf,hi]using hcs
  have hel:de P t=e:=by simp[de,hk]
  have hzD:zD P (de P t)=cv z:=by rw[hel];simp[zD,hi,hz]
  have hrz:az g (zD P (de P t)) z:=hzD▸jE g z;split at h
  ·rename_i ds hb;obtain⟨hok,hle,hK⟩:=h
   have hzl:(cd (zD P (de P t))).length=s:=by
    have:=(hrz.cells hok).len;rw[this];simp;omega
   obtain⟨w',e1,e2⟩:=tw (P:=P) h1 hb (o:=of) (nh hrz hok n) (bN (cV hei hi hz) n) (by rw[BJ hzl];exact hle)
   have:(execOp ρ o).run P w= .ok (.value (.tuple #[])) w':=by
    cases n with
    |zero=>
     have hz0:(Builtin.zeroCells z.cells 0).toList=[]:=by simp[Builtin.zeroCells]
     rw[hz0]at e1;simp[storeCells]at e1;subst e1;simp[execOp,ho,resolve,invoke,builtin,hxv,Builtin.clear_,run_underlying hu]
    |succ n=>simp[execOp,ho,resolve,invoke,builtin,hxv,Builtin.clear_,run_underlying hu,zeroValue,typeInfo,hi,hz,e1]
   rw[this];exact⟨g,_,_,.refl g,e2,gp g,hK⟩
  ·exact h.elim
 ·rename_i kt et l hk hxe;rw[hxe]at hx;obtain⟨b,hxb,hgb⟩:=mM hx;have hu:P.underlying t=some (.map kt et):=by unfold tk at hk;split at hk <;>(try split at hk) <;>(try cases hk) <;>assumption
  split at h
  ·rename_i kk es clk hl;obtain⟨b',o',q1,q2,⟨es',rfl,r,hok⟩,hset⟩:=h1.yA hl;rw[hgb]at q1;cases q1;have hg:=MapKept.run_getObj_map (P:=P) q2;obtain⟨s1,s2⟩:=gj (o':= .map #[] clk) q2
   have hrun:(execOp ρ o).run P w= .ok (.value (.tuple #[])) {w with heap:=w.heap.setIfInBounds b (.map #[] clk)}:=by
    simp[execOp,ho,resolve,invoke,builtin,Builtin.clear_,run_underlying hu,hxb,hg,MapKept.run_setObj_map _ q2]
   rw[hrun];exact⟨g,_,_,.refl g,hset (.mp kk [] clk) _ _ ⟨[],rfl,⟨rfl,fun i e e' h=>by simp at h⟩,⟨fun e he=>(by cases he),by simp,by simp,fun e he=>(by cases he)⟩⟩ (cW _ _ _) s1 s2,gp g,h⟩
  ·exact h.elim
 ·exact h.elim
end
end Aml
namespace Aml
open Go Go.RowKit
section
variable {P:Program} {w0:W0}
def vu(S:St)(s:Nat)(y:DV)(F:Nat→List DV→Prop):Prop:=match y with
 | .v (.slice (some ⟨b,o,none⟩) m c)=>(match lk S.box b with
  |some es=>o+m*s≤es.length∧F m ((es.drop o).take (m*s))
  |none=>False)
 |y=>iG S y fun s' ys=>(s'=s∨ys=[])∧(∀d,d∈ys→dH d=true)∧F ys.length (ys.flatMap cd)
theorem Kc{g:Gh}{S:St}{w:World}{s:Nat}{y:DV}{v:Value}{F:Nat→List DV→Prop}(h1:Rel w0 g S w)(hy:az g y v)(h:vu S s y F):
 ∃m cs vs,F m cs∧ae g cs vs∧(∀u,u∈vs→u.oneCell'=true)∧vs.length=m*s∧(∀w',(Builtin.lenOf v).run P w'= .ok m w')∧∀w',(∀p,w'.cell? p=w.cell? p)→(Builtin.firstCells s m v).run P w'= .ok vs.toArray w':=by
 unfold vu at h;split at h
 ·rename_i b o m c;have hyv:=aj hy;subst hyv;split at h
  ·rename_i es hb;obtain⟨hle,hF⟩:=h;obtain⟨vs,r1,r2,r3,r4⟩:=oA (P:=P) (o:=o) (m:=m) (s:=s) h1 hb hle;exact⟨m,_,vs,hF,r1,r2,r3,fun w'=>rfl,fun w' hw'=>r4 w' hw' m c⟩
  ·exact h.elim
 ·obtain⟨s2,ys,vs,⟨hs2,hok,hF⟩,hv,hvz,hv1,hlx,hfx⟩:=s9 (P:=P) h1 hy h
  have hvz':∀(i:Nat) (u:Value),vs[i]? =some u→u.cells.size=s:=by
   rcases hs2 with rfl|rfl
   ·exact hvz
   ·have:vs=[]:=Xn hv.len.symm;subst this;simp
  exact⟨ys.length,_,fl vs,hF,mB hv hok,mV hv1,by rw[fR hvz',hv.len],hlx,fun w' hw'=>hfx w' hw' s (hs2.imp Eq.symm id)⟩
def sd(k k2:TK)(S:St)(x y:DV)(K:DV→St→Prop):Prop:=match k,x with
 | .sl e s by' true,.v (.slice (some ⟨b,o,none⟩) n c)=>(match lk S.box b with
  |some ds=>pj k2=true∧o+c*s≤ds.length∧n≤c∧vu S s y fun m cs=>
   (n+m≤c→K (.v (.slice (some ⟨b,o,none⟩) (n+m) c)) ⟨up S.box b (bF ds (o+n*s) cs),S.acc⟩)∧
   (c<n+m→(n+m)*by'≤140737488355328∧n+m≤maxLen∧∀C,n+m≤C→C≤maxLen→∀b2,iu S.box b2→
    K (.v (.slice (some ⟨b2,0,none⟩) (n+m) C)) ⟨(b2,(ds.drop o).take (n*s)++cs++List.replicate ((C-(n+m))*s) .any)::S.box,S.acc⟩)
  |none=>False)
 |_,_=>False
theorem rV(g:Gh)(us:List Value):ae g (List.replicate us.length .any) us:=⟨by simp,fun i d u a _=>by
 rw[XQ]at a;split at a
 ·cases a;exact .any u
 ·cases a⟩
theorem L9{o:Oper}{t t':TypeId}{x y:Operand}(ho:o.op= .call {callee:= .builtin .append,args:= #[x,y],argTypes:= #[t,t']}){ρD:Operand→DV}{S:St}{K:DV→St→Prop}
 (h:sd (tk P t) (tk P t') S (ρD x) (ρD y) K):ah P w0 o ρD S K:=by
 intro g w ρ h1 h2 hcst;have hx:=h2 x (by simp[ho,Op.operands,Call.operands]);have hy:=h2 y (by simp[ho,Op.operands,Call.operands]);unfold sd at h;split at h
 ·rename_i e s by' b of n c hk hxe;rw[hxe]at hx;have hxv:=aj hx;obtain⟨hu,hcs,hbs,hei⟩:=cO hk;obtain⟨ti,z,hi,hz,hzs,hpos⟩:=bV hei;have his:ti.size=s:=by simpa[Program.cellsOf,hi]using hcs
  have hib:ti.bytes=by':=by simpa[Program.bytesOf,hi]using hbs
  split at h
  ·rename_i ds hb;obtain⟨hni,hle,hnc,h⟩:=h;obtain⟨d',hu',hd'⟩:=r7 hni;obtain⟨m,cs,vs,⟨hfit,hgrow⟩,r1,r2,r3,r4,r5⟩:=Kc (P:=P) h1 hy h;have hx':(Builtin.firstCells ti.size m (ρ y)).run P w= .ok vs.toArray w:=by rw[his];exact r5 w fun _=>rfl
   rcases XH c (n+m)with hcm|hcm
   ·obtain⟨hby,hmx,hK⟩:=hgrow hcm;have hns:of+n*s≤ds.length:=by have:=XL s hnc;omega
    obtain⟨os,q1,q2,q3,q4⟩:=oA (P:=P) (o:=of) (m:=n) (s:=s) h1 hb hns;have hr:=wg (w:=w) (ty:=o.type) (base:=some ⟨b,of,none⟩) (n:=n) (c:=c) hu hu' hd' hi hz (r4 w) (by rw[his];exact q4 w.drew (fun _=>rfl) n c) (by rw[his];exact r5 w.drew fun _=>rfl) hcm hmx (by rw[hib];exact hby);have hcap:=grownCap_ge w (n+m) c e;have hcmx:=grownCap_le_maxLen w (n+m) c e hmx;generalize grownCap w (n+m) c e=C at*;have hzl:(Builtin.zeroCells z.cells (C-(n+m))).toList.length=(C-(n+m))*s:=by rw[XW,size_zeroCells,hzs,his]
    obtain⟨hne,hR⟩:=h1.s7 (w':=w.drew.alloc (.cells (os.toArray++vs.toArray++Builtin.zeroCells z.cells (C-(n+m))) e)) ((gE.refl _ _).drew.alloc (by simp) _) (b:=w.heap.size) (Xa _) (heap_alloc_new w.drew _)
     (ds:=(ds.drop of).take (n*s)++cs++List.replicate ((C-(n+m))*s) .any)
     (by
      simp only[YB,Yi];rw[←hzl];exact(q1.append r1).append (rV g _))
     (by
      intro u hu;simp only[YB,Xh,Yi]at hu;rcases hu with(hu|hu)|hu
      ·exact q2 u hu
      ·exact r2 u hu
      ·exact bN (cV hei hi hz) _ u hu)
    have:(execOp ρ o).run P w= .ok (.value (.slice (some ⟨w.heap.size,0,none⟩) (n+m) C)) (w.drew.alloc (.cells (os.toArray++vs.toArray++Builtin.zeroCells z.cells (C-(n+m))) e)):=by
     simp[execOp,ho,resolve,invoke,builtin,hxv,hr]
    rw[this];exact⟨g,_,_,.refl g,hR,.v _ rfl,hK C hcap hcmx _ (cg hne)⟩
   ·have hK:=hfit hcm
    have hroom:of+n*s+cs.length≤ds.length:=by
     have h3:=XL s hcm;rw[Y5]at h3;have:=r1.len;omega
    obtain⟨w',e1,e2⟩:=tw (P:=P) h1 hb (o:=of+n*s) r1 r2 hroom;have hr:=sw (w:=w) (ty:=o.type) (base:=some ⟨b,of,none⟩) (n:=n) (c:=c) hu hu' hd' hi (r4 w) hx' hcm;simp only[add_plain,his,e1]at hr
    have:(execOp ρ o).run P w= .ok (.value (.slice (some ⟨b,of,none⟩) (n+m) c)) w':=by
     simp[execOp,ho,resolve,invoke,builtin,hxv,hr]
    rw[this];exact⟨g,_,_,.refl g,e2,.v _ rfl,hK⟩
  ·exact h.elim
 ·exact h.elim
def se(k:TK)(z:DV)(S:St)(x y:DV)(K:DV→St→Prop):Prop:=match k,x,y with
 | .sl e s by' true,.v (.slice (some ⟨b,o,none⟩) n c),.v (.int _ m)=>(match lk S.box b with
  |some ds=>dH z=true∧o+c*s≤ds.length∧n≤c∧0<m∧c<n+m.toNat∧(n+m.toNat)*by'≤140737488355328∧n+m.toNat≤maxLen∧∀C,n+m.toNat≤C→C≤maxLen→∀b2,iu S.box b2→
   K (.v (.slice (some ⟨b2,0,none⟩) (n+m.toNat) C)) ⟨(b2,(ds.drop o).take (n*s)++kS z m.toNat++List.replicate ((C-(n+m.toNat))*s) .any)::S.box,S.acc⟩
  |none=>False)
 |_,_,_=>False
theorem AY{w:World}{t t' ty e:TypeId}{k':IntKind}{i:TypeInfo}{z:Value}(ht:P.underlying t=some (.slice e))(ht':P.underlying t'=some (.int k'))(hi:P.info? e=some i)(hz:i.zero=some z)(hpos:0<i.size)
 {base:Option Addr} {k:IntKind} {n c m:Nat} {old:Array Value} (ho:(Builtin.firstCells i.size n (.slice base n c)).run P w.drew= .ok old w.drew) (h0:0<m) (hg:c<n+m) (h63:n+m≤maxLen) (hby:(n+m)*i.bytes≤140737488355328):
 (Builtin.append_ #[t,t'] ty #[.slice base n c,.int k m]).run P w= .ok (.slice (some ⟨w.heap.size,0,none⟩) (n+m) (grownCap w (n+m) c e))
  (w.drew.alloc (.cells (old++Builtin.zeroCells z.cells m++Builtin.zeroCells z.cells (grownCap w (n+m) c e-(n+m))) e)):=by
 have hw:IntKind.i64.wrap (m:Int)=m:=oD (by omega) (by unfold maxLen at h63;omega);have c1:¬((m:Int)<0):=by omega
 have hmb:m*i.bytes≤140737488355328:=by rw[Y5]at hby;omega
 have hbi:(m:Int)*i.bytes≤140737488355328:=by rw[←Int.natCast_mul];omega
 have c2:¬(281474976710656<(m:Int)*(i.bytes:Int)):=by omega
 have c3:¬(m*i.size=0):=by
  intro h;rcases Nat.mul_eq_zero.1 h with h|h <;>omega
 have c4:¬(9223372036854775807<((n:Int)+(m:Int))):=by unfold maxLen at h63;omega
 have hfit:=growslice_fits (need:=n+m) (old:=c) (bytes:=i.bytes) hg hby;have c5:¬(281474976710656<Builtin.nextslicecap (n+m) c*i.bytes):=by omega
 have c6:¬(n+m≤c):=by omega
 have c7:¬(i.size=0):=by omega
 have c8:¬(m=0):=by omega
 simp[Builtin.append_,run_underlying ht,run_underlying ht',Go.sizeOf,typeInfo,hi,zeroValue,hz,asInt,asIntOf,hw,c1,c2,c3,c4,c5,c6,c7,c8,ho,Question.forced,newRow,grownCap]
theorem NL{o:Oper}{t t':TypeId}{x y:Operand}{k':IntKind}(ho:o.op= .call {callee:= .builtin .append,args:= #[x,y],argTypes:= #[t,t']})(hk':tk P t'= .int k'){ρD:Operand→DV}{S:St}{K:DV→St→Prop}
 (h:se (tk P t) (zD P (de P t)) S (ρD x) (ρD y) K):ah P w0 o ρD S K:=by
 intro g w ρ h1 h2 hcst;have hx:=h2 x (by simp[ho,Op.operands,Call.operands]);have hy:=h2 y (by simp[ho,Op.operands,Call.operands]);have hut':=iY hk';unfold se at h;split at h
 ·rename_i e s by' b of n c kk m hk hxe hye;rw[hxe]at hx;rw[hye]at hy;have hxv:=aj hx;have hyv:=aj hy;obtain⟨hu,hcs,hbs,hei⟩:=cO hk;obtain⟨ti,z,hi,hz,hzs,hpos⟩:=bV hei;have his:ti.size=s:=by simpa[Program.cellsOf,hi]using hcs
  have hib:ti.bytes=by':=by simpa[Program.bytesOf,hi]using hbs
  have hel:de P t=e:=by simp[de,hk]
  have hzD:zD P (de P t)=cv z:=by rw[hel];simp[zD,hi,hz]
  have hrz:az g (zD P (de P t)) z:=hzD▸jE g z;split at h
  ·rename_i ds hb;obtain⟨hok,hle,hnc,hm0,hcm,hby,hmx,hK⟩:=h;obtain⟨M,rfl⟩:=Za (Int.le_of_lt hm0);simp only[YO]at*;have hns:of+n*s≤ds.length:=by have:=XL s hnc;omega
   obtain⟨os,q1,q2,q3,q4⟩:=oA (P:=P) (o:=of) (m:=n) (s:=s) h1 hb hns;have hr:=AY (w:=w) (ty:=o.type) (k:=kk) (base:=some ⟨b,of,none⟩) (n:=n) (c:=c) (m:=M) hu hut' hi hz hpos (by rw[his];exact q4 w.drew (fun _=>rfl) n c) (by omega) hcm hmx (by rw[hib];exact hby);have hcap:=grownCap_ge w (n+M) c e;have hcmx:=grownCap_le_maxLen w (n+M) c e hmx;generalize grownCap w (n+M) c e=C at*;have hzl:(Builtin.zeroCells z.cells (C-(n+M))).toList.length=(C-(n+M))*s:=by rw[XW,size_zeroCells,hzs,his]
   obtain⟨hne,hR⟩:=h1.s7 (w':=w.drew.alloc (.cells (os.toArray++Builtin.zeroCells z.cells M++Builtin.zeroCells z.cells (C-(n+M))) e)) ((gE.refl _ _).drew.alloc (by simp) _) (b:=w.heap.size) (Xa _) (heap_alloc_new w.drew _)
    (ds:=(ds.drop of).take (n*s)++kS (zD P (de P t)) M++List.replicate ((C-(n+M))*s) .any)
    (by
     simp only[YB,Yi];rw[←hzl];exact(q1.append (nh hrz hok M)).append (rV g _))
    (by
     intro u hu;simp only[YB,Xh,Yi]at hu;rcases hu with(hu|hu)|hu
     ·exact q2 u hu
     ·exact bN (cV hei hi hz) _ u hu
     ·exact bN (cV hei hi hz) _ u hu)
   have:(execOp ρ o).run P w= .ok (.value (.slice (some ⟨w.heap.size,0,none⟩) (n+M) C)) (w.drew.alloc (.cells (os.toArray++Builtin.zeroCells z.cells M++Builtin.zeroCells z.cells (C-(n+M))) e)):=by
    simp[execOp,ho,resolve,invoke,builtin,hxv,hyv,hr]
   rw[this];exact⟨g,_,_,.refl g,hR,.v _ rfl,hK C hcap hcmx _ (cg hne)⟩
  ·exact h.elim
 ·exact h.elim
end
end Aml
namespace Aml
open Go Go.RowKit
def jH(o:Option (List FK))(op:BinOp)(la:List DV)(y:DV)(K:DV→Prop):Prop:=match o,y,op with
 |some ks,.agg bs,.eql=>eI ks la bs true fun r=>K (.v (.bool r))
 |some ks,.agg bs,.neq=>eI ks la bs true fun r=>K (.v (.bool !r))
 |_,_,_=>False
def iw(P:Program)(op:BinOp)(t:TypeId)(cx cy:Bool)(x y:DV)(K:DV→Prop):Prop:=match x with
 | .agg la=>jH (nI P t) op la y K
 |x=>jK op (tk P t) cx cy x y K
section
variable {P:Program} {w0:W0}
theorem M8{o:Oper}{op:BinOp}{t t':TypeId}{x y:Operand}(ho:o.op= .binOp op t x y t'){ρD:Operand→DV}{S:St}{K:DV→St→Prop}(h:iw P op t (vZ x) (vZ y) (ρD x) (ρD y) (K · S)):ah P w0 o ρD S K:=by
 unfold iw at h;split at h
 ·rename_i la hx0;refine bd fun g w ρ h1 h2=>?_;have hx:=h2 x (by simp[ho,Op.operands]);have hy:=h2 y (by simp[ho,Op.operands]);rw[hx0]at hx;obtain⟨us,e1,hru,hu1⟩:=kp hx;unfold jH at h
  have fin:∀{ks:List FK} {bs:List DV} {F:Bool→Prop},nI P t=some ks→ρD y= .agg bs→eI ks la bs true F→∃(vs:List Value) (q:Bool),ρ y= .agg vs.toArray∧(∀op,(eqGuard op t x y (.agg us.toArray) (.agg vs.toArray)).run P w= .ok () w)∧(Op.equalIn 10000 t (.agg us.toArray) (.agg vs.toArray)).run P w= .ok q w∧F q:=by
   intro ks bs F he hyb hk;rw[hyb]at hy;obtain⟨vs,e2,hrv,hv1⟩:=kp hy;unfold nI at he;split at he
   ·rename_i fs hst;split at he
    ·rename_i hc;simp only[W8,XE]at hc;have hfo:P.underlying t=some (.struct (P.fieldsOf t)):=by unfold Program.fieldsOf;rw[hst]
     obtain⟨q,r1,r2⟩:=oQ (P:=P) (w:=w) (d:=9998) (us:=us) (vs:=vs) (P.fieldsOf t).toList he (by rw[Yy];exact hru) (by rw[Yy];exact hrv) hk;rw[Yw]at r2;exact⟨vs,q,e2,fun op=>run_eqGuard_agg w op t x y _ _ hc.2,by rw[run_equalIn_struct w 9999 t _ _ hfo hc.1];exact r1,r2⟩
    ·cases he
   ·cases he
  split at h
  ·rename_i ks bs he hyb;obtain⟨vs,q,e2,hg,hq,hF⟩:=fin he hyb h;exact⟨_,.bool q,by simp[execOp,ho,e1,e2,hg,run_eql_struct w t,hq],.v _ rfl,hF⟩
  ·rename_i ks bs he hyb;obtain⟨vs,q,e2,hg,hq,hF⟩:=fin he hyb h;exact⟨_,.bool !q,by simp[execOp,ho,e1,e2,hg,run_neq_struct w t,hq],.v _ rfl,hF⟩
  ·exact h.elim
 ·exact ID ho h
end
theorem Gx(P:Program)(op:BinOp)(t:TypeId)(cx cy:Bool)(u:Value)(y:DV)(K:DV→Prop):iw P op t cx cy (.v u) y K=jK op (tk P t) cx cy (.v u) y K:=rfl
theorem yI(P:Program)(op:BinOp)(t:TypeId)(cx cy:Bool)(la:List DV)(y:DV)(K:DV→Prop):iw P op t cx cy (.agg la) y K=jH (nI P t) op la y K:=rfl
theorem NB(ks:List FK)(la bs:List DV)(K:DV→Prop):jH (some ks) .eql la (.agg bs) K=eI ks la bs true fun r=>K (.v (.bool r)):=rfl
theorem LD(ks:List FK)(la bs:List DV)(K:DV→Prop):jH (some ks) .neq la (.agg bs) K=eI ks la bs true fun r=>K (.v (.bool !r)):=rfl
theorem xH(r:Bool)(F:Bool→Prop):eI [] [] [] r F=F r:=rfl
theorem Fg(k k1 k2:IntKind)(m n:Int)(ks:List FK)(la bs:List DV)(r:Bool)(F:Bool→Prop):eI (.int k::ks) (.v (.int k1 m)::la) (.v (.int k2 n)::bs) r F=(k1=k∧k2=k∧eI ks la bs (r&&decide (m=n)) F):=rfl
theorem E1(a b:ByteArray)(ks:List FK)(la bs:List DV)(r:Bool)(F:Bool→Prop):eI (.str::ks) (.v (.string a)::la) (.v (.string b)::bs) r F=eI ks la bs (r&&decide (a.data.toList=b.data.toList)) F:=rfl
end Aml
