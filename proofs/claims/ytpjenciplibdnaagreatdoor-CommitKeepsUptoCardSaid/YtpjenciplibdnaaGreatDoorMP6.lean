/-
  An own row as a box, and back; Entries of the model: strings compared, rows that lie apart; A scope out of which nothing jumps back; Nodes as pages: what the reference computes; Long values as pages: what the reference computes; A tree laid on pages: what the reference computes; A value, and a cell, laid on pages: what the reference computes; Where a node is parted: what the program computes; Rows of the program's trees: cloned, put together, some of their places anew; Keys looked for; sizes of a node's cells; the kid that has a key: what the program computes; Keys looked for; nodes parted and put together: what the program computes; A kid parted, two neighbours put together, a branch mended: what the program computes; A branch mended: what the program computes; Keys put and found: what the program computes; Keys found and deleted: what the program computes; Elements of an own row deleted: what the library computes; A key deleted: what the program computes; A key deleted, whole; where there is nothing: what the program computes; Where a name stands among a view's trees: what the program computes; A named tree set into an own row: what the library computes; A view's changes, plain; what the program computes; A view's tree changed, plain; what the program computes; A cursor settles: what the program computes; A cursor is set ahead of a key: what the program computes; A cursor's next entry; some entries of a tree by name: what the program computes; Some entries of a view's tree: what the program computes; Views stay views; what one name holds: plain laws; What a view holds at one name: plain laws; The law's steps on a view: what the program computes; The law's example on views: what the program computes; ViewApart: what the program computes; From an argument that reads as a datum to an abstract value; from a walked call to the row's own words; ViewApart; A view's trees as the law has them: what the program computes; A tree's entries: what the reference computes (in a view's words); What a view's names are; what was put is got: plain laws; Whether a tree may be: what the program computes. By an AI agent.
-/
import Derived.Test.YtpjenciplibdnaaGreatDoorMP5
import Derived.Lib.Bytealg
import Derived.Lib.Overlaps
import Derived.Test.YtpjenciplibdnaaGreatDoorMP4
import Derived.Test.YtpjenciplibdnaaGreatDoorRows
import Derived.ProofKit
import Derived.OpenShut
import Derived.JoinedCond
import Derived.Carry
set_option linter.unusedVariables false
set_option linter.unusedSimpArgs false
set_option maxRecDepth 100000
set_option maxHeartbeats 16000000
namespace Aml
open Go Go.RowKit
def del(L:List (Nat×Ob))(n:Nat):List (Nat×Ob):=L.filter fun p=>p.1 !=n
theorem FR{L:List (Nat×Ob)}{n:Nat}{p:Nat×Ob}:p∈del L n↔p∈L∧p.1≠n:=by unfold del;simp
theorem uG{L:List (Nat×Ob)}{n:Nat}(h:∀p,p∈L→p.1≠n):del L n=L:=List.filter_eq_self.2 fun p hp=>by simpa using h p hp
theorem y0{n:Nat}{p:Nat×Ob}{o:Ob}:∀{L:List (Nat×Ob)},(L.map (·.1)).Nodup→lk L n=some o→(rI L n p).Perm (p::del L n)
 |[],_,h=>by cases h
 |(k,x)::t,hn,h=>by
  simp only[List.map_cons,List.nodup_cons]at hn
  simp only[lk]at h
  simp only[rI]
  split
  ·rename_i e
   subst e
   have h1:del ((k,x)::t) k=t:=by
    have h2:del t k=t:=uG fun q hq e=>hn.1 (by rw[←e];exact List.mem_map_of_mem hq)
    unfold del at*
    rw[List.filter_cons_of_neg (by simp)];exact h2
   rw[h1]
  ·rename_i e
   rw[if_neg e]at h
   have h1:del ((k,x)::t) n=(k,x)::del t n:=by unfold del;rw[List.filter_cons_of_pos (by simpa using e)]
   rw[h1]
   exact((y0 hn.2 h).cons _).trans (.swap _ _ _)
def sy(s:Nat)(xs:List DV):Prop:=∀d,d∈xs→eK d=true∧(cd d).length=s
def gT(s c:Nat)(xs:List DV):List DV:=xs.flatMap cd++List.replicate ((c-xs.length)*s) .any
theorem iw{s:Nat}:∀{xs:List DV},sy s xs→(xs.flatMap cd).length=xs.length*s
 |[],_=>by simp
 |d::xs,h=>by
  rw[List.flatMap_cons,List.length_append,iw fun x hx=>h x (List.mem_cons_of_mem _ hx),(h d List.mem_cons_self).2,List.length_cons,Nat.succ_mul];omega
theorem mM{s c:Nat}{xs:List DV}(h:sy s xs)(hc:xs.length≤c):(gT s c xs).length=c*s:=by
 unfold gT
 rw[List.length_append,iw h,List.length_replicate,←Nat.add_mul];congr 1;omega
section
variable {P:Program} {w0:W0}
theorem Rel.Wi{g:Gh}{S:St}{w:World}(h:Rel w0 g S w){l s:Nat}{xs:List DV}(hl:lk S.acc l=some (.arr s xs))(hn:xs≠[])(he:sy s xs):
 ∃b c,g.acc l xs.length=some (.slice (some ⟨b,0,none⟩) xs.length c)∧xs.length≤c∧c≤maxLen∧iX S.box b∧Rel w0 g ⟨(b,gT s c xs)::S.box,del S.acc l⟩ w:=by
 obtain⟨ow,h⟩:=h.open_
 have hmem:=cz hl
 obtain⟨hs,⟨he0,_⟩|⟨b,c,cs,e,h1,h2,h3,h4,h5,h6,h7,h8,hA,us,h9,h10,h11,h12⟩⟩:=h.acc l _ hmem
 ·exact absurd he0 hn
 have hbn:∀p,p∈S.box→p.1≠b:=by
  rintro⟨b',ds⟩ hp rfl
  have:=(h.box _ _ hp).1
  rw[h2]at this;cases this
 refine⟨b,c,h1,h7,h8,di hbn,iz.close (ow:=fun k=>if k=b then some (.b b)else ow k) ⟨h.below,h.bS,?_,?_,h.gB,h.fresh,fun l' o' hl'=>h.top l' o' (FR.1 hl').1,?_,?_,?_⟩⟩
 ·simp only[List.map_cons,List.nodup_cons]
  exact⟨fun hm=>by obtain⟨p,hp,e⟩:=List.mem_map.1 hm;exact hbn p hp e,h.nb⟩
 ·exact List.Sublist.nodup ((List.filter_sublist).map _) h.na
 ·intro b' ds hb'
  rcases List.mem_cons.1 hb' with e'|hb'
  ·cases e'
   refine⟨if_pos rfl,h3,h4,cs,e,h5,?_,hA⟩
   have hfl:(fl us).length=xs.length*s:=by rw[ic h10,h9.len]
   have hcs:cs.toList=fl us++cs.toList.drop (xs.length*s):=by
    apply List.ext_getElem?
    intro k
    rcases Nat.lt_or_ge k (xs.length*s)with hk|hk
    ·rw[List.getElem?_append_left (by omega)]
     obtain⟨v,hv⟩:∃v,(fl us)[k]? =some v:=⟨_,List.getElem?_eq_getElem (by omega)⟩
     obtain⟨i,u,j,q1,q2,rfl⟩:=Ed h10 hv
     rw[hv,Array.getElem?_toList]
     exact h12 i u j v q1 q2
    ·rw[List.getElem?_append_right (by omega),hfl,List.getElem?_drop]
     congr 1;omega
   rw[hcs]
   unfold gT
   refine(nI h9 fun d hd=>(he d hd).1).append ?_
   have:(cs.toList.drop (xs.length*s)).length=(c-xs.length)*s:=by rw[List.length_drop,Array.length_toList,h6,Nat.sub_mul]
   rw[←this]
   exact qk g _
  ·have hne:b'≠b:=hbn _ hb'
   exact(h.box b' ds hb').step (.refl g) fun ho=>⟨(if_neg hne).trans ho,rfl,fun _ hi=>hi⟩
 ·intro l' o' hl'
  obtain⟨hm,hne⟩:=FR.1 hl'
  refine(h.acc l' o' hm).step (.refl g) fun b' ho=>⟨?_,rfl,fun _ hi=>hi⟩
  have:b'≠b:=by
   rintro rfl
   rw[h2]at ho
   cases ho
   exact hne rfl
  rw[if_neg this];exact ho
 ·intro b' k hk
  split at hk
  ·rename_i e';subst e';exact cX h5
  ·exact h.pj _ _ hk
theorem Fm{g:Gh}{s:Nat}(hs:0<s):∀{ys:List DV} {us:List Value},aj g (ys.flatMap cd) us→(∀u,u∈us→u.oneCell'=true)→sy s ys→
 ∃vs,aj g ys vs∧(∀(i:Nat) (u:Value),vs[i]? =some u→u.cells.size=s)∧(∀(u:Value),u∈vs→∀x,x∈u.cells.toList→x.oneCell'=true)∧fl vs=us
 |[],us,h,_,_=>by
  have:us=[]:=List.eq_nil_of_length_eq_zero (by have:=h.len;simpa using this.symm)
  subst this
  exact⟨[],aj.nil g,by simp,by simp,rfl⟩
 |d::ys,us,h,h1,he=>by
  obtain⟨hok,hlen⟩:=he d List.mem_cons_self
  have hs1:aj g (cd d) (us.take s):=by
   have:=h.take s
   rwa [List.flatMap_cons,List.take_append_of_le_length (by omega),List.take_of_length_le (by omega)]at this
  have hs2:aj g (ys.flatMap cd) (us.drop s):=by
   have:=h.drop s
   rwa [List.flatMap_cons,List.drop_append_of_le_length (by omega),List.drop_eq_nil_of_le (by omega),List.nil_append]at this
  obtain⟨vs,q1,q2,q3,q4⟩:=Fm hs hs2 (fun u hu=>h1 u (List.mem_of_mem_drop hu)) fun x hx=>he x (List.mem_cons_of_mem _ hx)
  obtain⟨v,r1,r2⟩:∃v,aM g d v∧v.cells.toList=us.take s:=by
   have hone:∀u,u∈us.take s→u.oneCell'=true:=fun u hu=>h1 u (List.mem_of_mem_take hu)
   generalize us.take s=ts at*
   cases d with
   |agg ds=>exact⟨.agg ts.toArray,.agg ds ts hs1.len hs1.at_ hone,by simp[Value.cells]⟩
   |any=>cases hok
   |bN ds=>cases hok
   |v u0=>
    obtain⟨u,us',rfl,a1,a2⟩:=hs1.bV
    have:us'=[]:=List.eq_nil_of_length_eq_zero (by have:=a2.len;simpa using this.symm)
    subst this
    exact⟨u,a1,by have:=hone u List.mem_cons_self;cases u <;>simp_all [Value.cells,Value.oneCell']⟩
   |sl a b c=>
    obtain⟨u,us',rfl,a1,a2⟩:=hs1.bV
    have:us'=[]:=List.eq_nil_of_length_eq_zero (by have:=a2.len;simpa using this.symm)
    subst this
    exact⟨u,a1,by have:=hone u List.mem_cons_self;cases u <;>simp_all [Value.cells,Value.oneCell']⟩
   |jQ a b=>
    obtain⟨u,us',rfl,a1,a2⟩:=hs1.bV
    have:us'=[]:=List.eq_nil_of_length_eq_zero (by have:=a2.len;simpa using this.symm)
    subst this
    exact⟨u,a1,by have:=hone u List.mem_cons_self;cases u <;>simp_all [Value.cells,Value.oneCell']⟩
   |acc a b=>
    obtain⟨u,us',rfl,a1,a2⟩:=hs1.bV
    have:us'=[]:=List.eq_nil_of_length_eq_zero (by have:=a2.len;simpa using this.symm)
    subst this
    exact⟨u,a1,by have:=hone u List.mem_cons_self;cases u <;>simp_all [Value.cells,Value.oneCell']⟩
   |ip a=>
    obtain⟨u,us',rfl,a1,a2⟩:=hs1.bV
    have:us'=[]:=List.eq_nil_of_length_eq_zero (by have:=a2.len;simpa using this.symm)
    subst this
    exact⟨u,a1,by have:=hone u List.mem_cons_self;cases u <;>simp_all [Value.cells,Value.oneCell']⟩
   |ap a b c d e=>
    obtain⟨u,us',rfl,a1,a2⟩:=hs1.bV
    have:us'=[]:=List.eq_nil_of_length_eq_zero (by have:=a2.len;simpa using this.symm)
    subst this
    exact⟨u,a1,by have:=hone u List.mem_cons_self;cases u <;>simp_all [Value.cells,Value.oneCell']⟩
   |mp a=>
    obtain⟨u,us',rfl,a1,a2⟩:=hs1.bV
    have:us'=[]:=List.eq_nil_of_length_eq_zero (by have:=a2.len;simpa using this.symm)
    subst this
    exact⟨u,a1,by have:=hone u List.mem_cons_self;cases u <;>simp_all [Value.cells,Value.oneCell']⟩
   |it a=>
    obtain⟨u,us',rfl,a1,a2⟩:=hs1.bV
    have:us'=[]:=List.eq_nil_of_length_eq_zero (by have:=a2.len;simpa using this.symm)
    subst this
    exact⟨u,a1,by have:=hone u List.mem_cons_self;cases u <;>simp_all [Value.cells,Value.oneCell']⟩
  have hul:(us.take s).length=s:=by have:=hs1.len;omega
  refine⟨v::vs,q1.cons r1,?_,?_,?_⟩
  ·intro i u hu
   cases i with
   |zero=>simp at hu;subst hu;rw[←Array.length_toList,r2,hul]
   |succ i=>exact q2 i u (by simpa using hu)
  ·intro u hu x hx
   rcases List.mem_cons.1 hu with rfl|hu
   ·rw[r2]at hx;exact h1 x (List.mem_of_mem_take hx)
   ·exact q3 u hu x hx
  ·show v.cells.toList++fl vs=us
   rw[r2,q4,List.take_append_drop]
theorem Rel.Tn{g:Gh}{S:St}{w:World}(h:Rel w0 g S w){b s c:Nat}{ds ys:List DV}(hb:lk S.box b=some ds)(hs:0<s)(he:sy s ys)(hds:ds.take (ys.length*s)=ys.flatMap cd)(hdl:ds.length=c*s)(hc:ys.length≤c)(hcm:c≤maxLen)(L:List (Nat×Ob)):
 ∃m g',g.le g'∧(∀p,p∈S.acc→p.1≠m)∧(∀p,p∈L→p.1≠m)∧Rel w0 g' ⟨S.box.filter (fun p=>p.1 !=b),(m,.arr s ys)::S.acc⟩ w∧aM g' (.acc m ys.length) (.slice (some ⟨b,0,none⟩) ys.length c):=by
 obtain⟨ow,h⟩:=h.open_
 have hmem:=cz hb
 obtain⟨o1,o2,o3,us,e,hh,hr,hone⟩:=h.box b ds hmem
 obtain⟨m0,hm0⟩:=h.fresh
 obtain⟨m,hm1,hm2,hm3⟩:∃m,m0≤m∧(∀p,p∈S.acc→p.1≠m)∧∀p,p∈L→p.1≠m:=by
  have:∀L:List (Nat×Ob),∃k,∀p,p∈L→p.1<k:=by
   intro L
   induction L with
   |nil=>exact⟨0,fun p h=>by cases h⟩
   |cons a l ih=>
    obtain⟨k,hk⟩:=ih
    refine⟨a.1+k+1,fun p hp=>?_⟩
    rcases List.mem_cons.1 hp with rfl|hp
    ·omega
    ·have:=hk p hp;omega
  obtain⟨k1,q1⟩:=this S.acc
  obtain⟨k2,q2⟩:=this L
  exact⟨m0+k1+k2,by omega,fun p hp e=>by have:=q1 p hp;omega,fun p hp e=>by have:=q2 p hp;omega⟩
 have hle:g.le (g.aU m ys.length (.slice (some ⟨b,0,none⟩) ys.length c)):=Gh.jg (.inl (hm0 _ _ hm1))
 have hself:(g.aU m ys.length (.slice (some ⟨b,0,none⟩) ys.length c)).acc m ys.length=some (.slice (some ⟨b,0,none⟩) ys.length c):=by simp[Gh.aU]
 have hbf:∀p,p∈S.box.filter (fun p=>p.1 !=b)→p∈S.box∧p.1≠b:=fun p hp=>by simpa using hp
 refine⟨m,_,hle,hm2,hm3,iz.close (ow:=fun k=>if k=b then some (.a m)else ow k) ⟨h.below.le hle,h.bS,?_,?_,?_,?_,?_,?_,?_,?_⟩,.acc _ _ _ _ hself⟩
 ·exact List.Sublist.nodup ((List.filter_sublist).map _) h.nb
 ·simp only[List.map_cons,List.nodup_cons]
  exact⟨fun hm=>by obtain⟨p,hp,e⟩:=List.mem_map.1 hm;exact hm2 p hp e,h.na⟩
 ·intro l' n' u hu
  simp only[Gh.aU]at hu
  split at hu
  ·rename_i e'
   obtain⟨rfl,rfl⟩:=e'
   exact⟨_,_,(Option.some.inj hu).symm,.inr ⟨b,0,rfl⟩⟩
  ·exact h.gB _ _ _ hu
 ·refine⟨m+1,fun l' n' hl'=>?_⟩
  simp only[Gh.aU]
  rw[if_neg (by omega)]
  exact hm0 _ _ (by omega)
 ·intro l' o' hl' k hk
  simp only[Gh.aU]
  rcases List.mem_cons.1 hl' with e'|hl'
  ·cases e'
   simp only[Ob.len]at hk
   rw[if_neg (by omega)]
   exact hm0 _ _ hm1
  ·rw[if_neg (fun e'=>hm2 _ hl' e'.1)]
   exact h.top _ _ hl' k hk
 ·intro b' ds' hb'
  obtain⟨h1,h2⟩:=hbf _ hb'
  exact(h.box b' ds' h1).step hle fun ho=>⟨(if_neg h2).trans ho,rfl,fun _ hi=>hi⟩
 ·intro l' o' hl'
  rcases List.mem_cons.1 hl' with e'|hl'
  ·cases e'
   have hR:aj g (ys.flatMap cd) (us.toList.take (ys.length*s)):=by rw[←hds];exact hr.take _
   obtain⟨vs,q1,q2,q3,q4⟩:=Fm hs hR (fun u hu=>hone u (List.mem_of_mem_take hu)) he
   refine⟨hs,.inr ⟨b,c,us,e,hself,if_pos rfl,o2,o3,hh,?_,hc,hcm,hone,vs,q1.mono hle,q2,q3,fun i u j x a1 a2=>?_⟩⟩
   ·have:=hr.len;rw[hdl,Array.length_toList]at this;exact this.symm
   ·have hj:j<s:=by rw[←q2 i u a1];exact(Array.getElem?_eq_some_iff.1 a2).1
    have hi:i<ys.length:=by rw[q1.len];exact(List.getElem?_eq_some_iff.1 a1).1
    have:=Fb q2 a1 a2
    rw[q4,List.getElem?_take,if_pos (lt_mul hi hj)]at this
    rw[←Array.getElem?_toList];exact this
  ·refine(h.acc l' o' hl').step hle fun b' ho=>⟨?_,rfl,fun _ hi=>hi⟩
   have:b'≠b:=by rintro rfl;rw[o1]at ho;cases ho
   rw[if_neg this];exact ho
 ·intro b' k hk
  split at hk
  ·rename_i e';subst e';exact cX hh
  ·exact h.pj _ _ hk
theorem lS{f:FuncId}{args:List DV}{S:St}{l s:Nat}{xs:List DV}{K:List DV→Prop}(hl:lk S.acc l=some (.arr s xs))(hn:xs≠[])(hs:0<s)(he:sy s xs)
 (h:∀b c,iX S.box b→xs.length≤c→c≤maxLen→aa P w0 f (.v (.slice (some ⟨b,0,none⟩) xs.length c)::args) ⟨(b,gT s c xs)::S.box,del S.acc l⟩ fun d S'=>∃b' c' ds ys B,K ys∧d= .v (.slice (some ⟨b',0,none⟩) ys.length c')∧lk S'.box b'=some ds∧S'.acc=del S.acc l∧
  S'.box=B∧S.box.Sublist (B.filter fun p=>p.1 !=b')∧sy s ys∧ds.take (ys.length*s)=ys.flatMap cd∧ds.length=c'*s∧ys.length≤c'∧c'≤maxLen):
 aa P w0 f (.acc l xs.length::args) S fun d S'=>∃ys,∃m:FN S.acc,K ys∧d= .acc m.n ys.length∧S'=⟨S.box,rI S.acc l (m.n,.arr s ys)⟩:=by
 intro g vs w h1 h2
 obtain⟨b,c,hv,hc1,hc2,hbn,hR⟩:=h1.Wi hl hn he
 have h2':aj g (.v (.slice (some ⟨b,0,none⟩) xs.length c)::args) vs.toList:=by
  obtain⟨u,us',e,r1,r2⟩:=h2.bV
  rw[e]
  refine aj.cons ?_ r2
  cases r1 with
  |acc _ _ o' c' ha=>
   rw[hv]at ha
   cases ha
   exact .v _ rfl
 refine(h b c hbn hc1 hc2 g vs w hR h2').mono ?_
 rintro e w' ⟨r,g',d,S',rfl,hle,hR',hd,b',c',ds,ys,B,hK,rfl,hb',hacc,rfl,hsub,he',hds,hdl,hc3,hc4⟩
 obtain⟨m,g2,hle2,hm1,hm2,hR2,hA⟩:=hR'.Tn hb' hs he' hds hdl hc3 hc4 S.acc
 have hrv:=az hd
 subst hrv
 refine⟨_,g2,_,⟨S.box,rI S.acc l (m,.arr s ys)⟩,rfl,hle.trans hle2,?_,hA,ys,⟨m,di hm2⟩,hK,rfl,rfl⟩
 rw[hacc]at hR2
 have hR3:=hR2.forget (S':=⟨S.box,(m,.arr s ys)::del S.acc l⟩) hsub (List.Sublist.refl _)
 exact(⟨.refl _,(y0 h1.na hl).symm⟩:Y.xN ⟨S.box,(m,.arr s ys)::del S.acc l⟩ ⟨S.box,rI S.acc l (m,.arr s ys)⟩).rel hR3
end
end Aml
namespace Aml
open Go Go.RowKit
def yq(a b:ByteArray):Int:=if Op.bytesLess a.data.toList b.data.toList=true then -1 else if Op.bytesLess b.data.toList a.data.toList=true then 1 else 0
theorem AR:∀x y:List UInt8,Lib.compareBytes x y=if Op.bytesLess x y=true then -1 else if Op.bytesLess y x=true then 1 else 0
 |[],[]=>rfl
 |[],_::_=>rfl
 |_::_,[]=>rfl
 |x::a,y::b=>by
  unfold Lib.compareBytes Op.bytesLess
  by_cases h1:x<y
  ·simp[h1]
  ·by_cases h2:y<x
   ·have:(x==y)=false:=by
     rw[beq_eq_false_iff_ne];rintro rfl;exact h1 h2
    simp[h1,h2,this]
   ·have:x=y:=by
     have:=UInt8.le_antisymm (UInt8.not_lt.1 h2) (UInt8.not_lt.1 h1)
     exact this
    subst this
    simp[h1,AR a b]
section
variable {P:Program} {w0:W0}
theorem YU{f:FuncId}{fn:Func}(hf:P.funcs[f]? =some fn)(hname:(fn.name== "runtime.NumGoroutine")=false)(hb:fn.body.isNone=true)(hn:Extern.findNext fn=none)(he:Extern.find fn=some Extern.BytealgCompare.compare)
 (a b:ByteArray) (S:St) {K:DV→St→Prop} (hk:K (.v (.int .i64 (yq a b))) S):@XC P w0 f [.v (.string a),.v (.string b)] S ⟨K⟩:=by
 intro g w us h r
 obtain⟨u1,us1,rfl,r1,r⟩:=r.bV
 obtain⟨u2,us2,rfl,r2,r⟩:=r.bV
 have:us2=[]:=List.eq_nil_of_length_eq_zero r.len.symm
 subst this
 cases r1;cases r2
 refine⟨.int .i64 (yq a b),w,g,_,S,?_,.refl g,h,.v _ rfl,hk⟩
 rw[run_callFunc_extern hf hname hb hn he]
 have:=Lib.run_compareString (P:=P) a b w
 rw[AR]at this
 unfold yq
 rw[show [Value.string a,Value.string b].toArray= #[.string a,.string b]from rfl,this];rfl
theorem Xc{f:FuncId}{fn:Func}(hf:P.funcs[f]? =some fn)(hname:(fn.name== "runtime.NumGoroutine")=false)(hb:fn.body.isNone=true)(hn:Extern.findNext fn=none){t tb e:TypeId}(he:Extern.find fn=some (Extern.SlicesOverlaps.overlaps #[t,t] #[tb]))
 (ht:P.underlying t=some (.slice e)) {size:Nat} (hz:∀w,(Go.sizeOf e).run P w= .ok size w) {s:Nat} (hs:0<s) (fl:Bool) (xs:List DV) {b:Nat} {ds:List DV} {S:St} (hbx:lk S.box b=some ds) (o n c:Nat) {K:DV→St→Prop} (hk:K (.v (.bool false)) S):
 @XC P w0 f [.sl s fl xs,.v (.slice (some ⟨b,o,none⟩) n c)] S ⟨K⟩:=by
 intro g w us h r
 obtain⟨u1,us1,rfl,r1,r⟩:=r.bV
 obtain⟨u2,us2,rfl,r2,r⟩:=r.bV
 have:us2=[]:=List.eq_nil_of_length_eq_zero r.len.symm
 subst this
 cases r2
 refine⟨.bool false,w,g,_,S,?_,.refl g,h,.v _ rfl,hk⟩
 rw[run_callFunc_extern hf hname hb hn he]
 obtain⟨ow,ho⟩:=h.open_
 obtain⟨_,_,hnone,cs,te,hcs,_,_⟩:=ho.box b ds (cz hbx)
 suffices hrun:(Extern.SlicesOverlaps.overlaps #[t,t] #[tb] #[u1,.slice (some ⟨b,o,none⟩) n c]).run P w= .ok (.bool false) w by
  rw[show [u1,Value.slice (some ⟨b,o,none⟩) n c].toArray= #[u1,.slice (some ⟨b,o,none⟩) n c]from rfl,hrun];rfl
 rcases iO r1 with⟨he,o',c',hv',_⟩|⟨b',o',c',us,hv',hr,hfl,hlc,hcm,hzz,hone,hc⟩
 ·rw[hv']
  cases o' with
  |none=>
   change Sem.run P (α:=Value) (do
    let some t:=(#[t,t]:Array TypeId)[0]? |stuck "slices.overlaps: no parameter types"
    let .slice elem ←underlying t|stuck "slices.overlaps: slice type expected"
    let size ←sizeOf elem
    pure (Value.bool false)) w=_
   simp[run_underlying ht,hz]
  |some a=>
   change Sem.run P (α:=Value) (do
    let some t:=(#[t,t]:Array TypeId)[0]? |stuck "slices.overlaps: no parameter types"
    let .slice elem ←underlying t|stuck "slices.overlaps: slice type expected"
    let size ←sizeOf elem
    match(some a:Option Addr),(some ⟨b,o,none⟩:Option Addr)with
    |some a,some b=>
     if 0=0∨n=0∨size=0 then pure (Value.bool false)
     else if a.block !=b.block&&(←frozen a)&&(←frozen b)then unsupported .addressObserved
     else do
      if a.block !=b.block then do
       noView a;noView b
       if←mayBeOne a b then return Value.bool ((←choose (.extern "sameAddr.stringBytes" 2))==1)
      pure (Value.bool (a.block==b.block&&a.off<b.off+n*size&&b.off<a.off+0*size))
    |_,_=>pure (Value.bool false)) w=_
   simp[run_underlying ht,hz]
 ·rw[hv']
  change Sem.run P (α:=Value) (do
   let some t:=(#[t,t]:Array TypeId)[0]? |stuck "slices.overlaps: no parameter types"
   let .slice elem ←underlying t|stuck "slices.overlaps: slice type expected"
   let size ←sizeOf elem
   match(some ⟨b',o',none⟩:Option Addr),(some ⟨b,o,none⟩:Option Addr)with
   |some a,some b=>
    if xs.length=0∨n=0∨size=0 then pure (Value.bool false)
    else if a.block !=b.block&&(←frozen a)&&(←frozen b)then unsupported .addressObserved
    else do
     if a.block !=b.block then do
      noView a;noView b
      if←mayBeOne a b then return Value.bool ((←choose (.extern "sameAddr.stringBytes" 2))==1)
     pure (Value.bool (a.block==b.block&&a.off<b.off+n*size&&b.off<a.off+xs.length*size))
   |_,_=>pure (Value.bool false)) w=_
  by_cases h0:xs.length=0∨n=0∨size=0
  ·rcases h0 with h0|h0|h0
   ·have h0:=List.eq_nil_of_length_eq_zero h0
    simp[run_underlying ht,hz,h0]
   ·simp[run_underlying ht,hz,h0]
   ·simp[run_underlying ht,hz,h0]
  ·have hu:0<us.length:=by have:=hr.len;omega
   have h1:¬xs=[]:=fun e=>h0 (.inl (by rw[e];rfl))
   have h2:¬n=0:=fun e=>h0 (.inr (.inl e))
   have h3:¬size=0:=fun e=>h0 (.inr (.inr e))
   have hsz:=hzz 0 us[0] (List.getElem?_eq_getElem hu)
   have himm:=hc 0 us[0] 0 (us[0].cells[0]'(by omega)) (List.getElem?_eq_getElem hu) (Array.getElem?_eq_getElem (by omega))
   have hne:b'≠b:=by rintro rfl;rw[hnone]at himm;cases himm
   have hcell:=ho.bS _ _ _ himm
   have hbl:w.heap[b]? =some (.cells cs te (0,0)):=hcs
   have hfb:∀i,w.frozen? ⟨b,i,none⟩=false:=fun i=>by simp[World.frozen?,hbl]
   have hsb:w.shape? b=some (te,cs.size):=by simp[World.shape?,hbl]
   obtain⟨ta,ka,hsa⟩:∃ta ka,w.shape? b'=some (ta,ka+1):=by
    unfold World.cell? at hcell
    unfold World.shape?
    split at hcell
    ·rename_i cc tt ff e1
     simp only[Option.isSome_none,Bool.false_eq_true,if_false]at hcell
     have:0<cc.size:=by
      have:=(Array.getElem?_eq_some_iff.1 hcell).1
      omega
     simp only at e1
     rw[e1]
     exact⟨tt,cc.size-1,by simp only[Option.some.injEq,Prod.mk.injEq,true_and];omega⟩
    ·cases hcell
   have hnb:(b' !=b)=true:=by simpa using hne
   have hnb':(b'==b)=false:=by simpa using hne
   have hfb1:=hfb o
   have hfb2:=hfb cs.size
   cases hfa:w.frozen? ⟨b',o',none⟩ <;>cases hfe:w.frozen? ⟨b',ka+1,none⟩ <;>
    simp[run_underlying ht,hz,h1,h2,h3,hne,hnb,hnb',frozen,noView,viewAt,mayBeOne,stringish,shape,Sem.run,hsa,hsb,hfa,hfe,hfb1,hfb2]
end
end Aml
namespace Aml
open Go Go.RowKit
section
variable {P:Program} {F:Fence} {n:Nat} {Q:Exit→Act→World→Prop} {a:Act} {w:World} {b:Frame} {k:List Item} {cs:List Frame}
end
section
variable {P:Program} {w0:W0}
end
end Aml
namespace Go.Proofs.YtpjenciplibdnaaGreatDoor
open Aml Go
structure E8 where
 key:ByteArray
 data:ByteArray
 IN:Bool
 size:Int
 ak:Int
@[go_sem] def vv (e:E8):DV:= .agg [dS e.key,dS e.data,dB e.IN,dI e.size,dI e.ak]
def eJ(b:Bool)(e:E8):ByteArray:=
 l9 e.key++(if b then(if e.IN then((⟨#[1]⟩:ByteArray)++bF 2 (IntKind.u64.wrap e.size))++bF 2 (IntKind.u64.wrap e.ak)else(⟨#[0]⟩:ByteArray)++e.data)else bF 2 (IntKind.u64.wrap e.ak))
theorem oR(b:Bool)(e:E8):(eJ b e).size=1+e.key.size+(if b then(if e.IN then 5 else 1+e.data.size)else 2):=by
 unfold eJ
 rw[ByteArray.size_append,jF]
 have h0:(⟨#[0]⟩:ByteArray).size=1:=rfl
 have h1:(⟨#[1]⟩:ByteArray).size=1:=rfl
 split
 ·split
  ·rw[ByteArray.size_append,ByteArray.size_append,aC,aC,h1]
  ·rw[ByteArray.size_append,h0]
 ·rw[aC]
def NJ(b:Bool)(e:E8):Prop:=e.key.size≤16∧(if b then(if e.IN then e.data=aZ∧16<e.size∧e.size≤400∧2≤e.ak∧e.ak≤999 else e.data.size≤16∧e.size=0∧e.ak=0)else e.data=aZ∧e.IN=false∧e.size=0∧2≤e.ak∧e.ak≤999)
def iD(z i:Nat):Nat:=min 119 (z-119*i)
def om(v:ByteArray)(at_:List Int)(i:Nat):ByteArray:=bF 2 (IntKind.u64.wrap ((at_[i+1]?).getD 0))++v.extract (119*i) (119*i+iD v.size i)
def bu(v:ByteArray)(at_:List Int):List ByteArray:=(List.range at_.length).map fun i=>gz 3 [om v at_ i]
theorem rO{v:ByteArray}{at_:List Int}{i:Nat}(hi:119*i<v.size):(om v at_ i).size=2+iD v.size i:=by
 unfold om iD
 rw[ByteArray.size_append,aC,ByteArray.size_extract]
 omega
@[go_sem] def dWr (w:Int×ByteArray):DV:= .agg [dI w.1,dS w.2]
structure abF(S:St)(bs lw:Nat)(left:List Int)(ws:List (Int×ByteArray)):Prop where
 box:lk S.box bs=some [.acc lw ws.length,.sl 1 false (left.map dI)]
 acc:lk S.acc lw=some (.arr 2 (ws.map dWr))
theorem dt{α:Type}{b:Nat}{x:α}:∀{l:List (Nat×α)},lk l b=some x→up l b x=l
 |[],h=>rfl
 |(k,y)::l,h=>by
  unfold lk at h
  unfold up
  split
  ·rename_i e;rw[if_pos e]at h;cases h;rw[e]
  ·rename_i e;rw[if_neg e]at h;rw[dt h]
abbrev LS:=List Int×List (Int×ByteArray)
def eY(d:ByteArray)(ps:List Int)(q:LS):List Int×LS:=
 if need (d.size:Int)=0∨ps≠[]then(ps,q)else(q.1.take (need (d.size:Int)),(q.1.drop (need (d.size:Int)),q.2++(q.1.take (need (d.size:Int))).zip (bu d (q.1.take (need (d.size:Int))))))
def dX(b:Bool)(c:C):E8:=if b then(if c.ai=[]then⟨c.key,c.data,false,0,0⟩else⟨c.key,aZ,true,c.data.size,c.ai.headD 0⟩)else⟨c.key,aZ,false,0,(ay c).ak⟩
theorem KA(w0:W0)(l:List Int)(S:St)(h:Bd l):aa Tryz.prog w0 216 [dL l] S (fun d S'=>d=dI l.sum∧S'=S):=by
 refine aY [] mx Tryz.func216 rfl rfl (by kernel_rfl) ?_;(refine @ab _ ?_;refine ao @Tryz.ntmps216 ?_)
 refine aA [] l.length [3,6,7,8] (fun k=>[(3,dI (l.take k).sum),(8,dI k)]) (fun _=>S) (fun _=>True) mx (by kernel_rfl) ?_ ?_
 ·(refine @ab _ ?_;refine au ?_)
  rfl
 ·intro k hk _
  have h0:=h.1
  (refine @ab _ ?_;refine au ?_)
  refine⟨fun hlt=>⟨hlt,fun a ha=>⟨by omega,?_,?_⟩⟩,fun hge=>?_⟩
  ·have:=(h.take (k+1)).sum
   rw[AM ha]at this ⊢
   exact ba (by omega) (by omega)
  ·rw[ba (by omega) (by omega)];omega
  ·rw[List.take_of_length_le (by omega)]
theorem Tz(w0:W0)(l:List Int)(S:St)(h:Bd l):aa Tryz.prog w0 174 [dL l] S (fun d S'=>d=dB (Dp l)∧S'=S):=by
 refine aY [] mx Tryz.func174 rfl rfl (by kernel_rfl) ?_;(refine @ab _ ?_;refine ao @Tryz.ntmps174 ?_)
 refine aq (KA w0 _ _ h) ?_
 (refine @ab _ ?_;refine au ?_)
 rfl
theorem nbP(w0:W0)(m k:Int)(S:St)(h0:0≤m)(h1:m≤1048576)(h2:0≤k)(h3:k<m):aa Tryz.prog w0 175 [dI m,dI k] S (fun d S'=>d=dI (Xm m k)∧S'=S):=by
 refine aY [] mx Tryz.func175 rfl rfl (by kernel_rfl) ?_;(refine @ab _ ?_;refine ao @Tryz.ntmps175 ?_)
 unfold Xm
 rw[ba (n:=k+1) (by omega) (by omega),ba (n:=k-1) (by omega) (by omega)]
 exact⟨fun h=>by rw[if_pos h],fun h=>by rw[if_neg h]⟩
theorem aW(i:Nat)(h:i<2^61):IntKind.i64.wrap ((i:Int)+1)=((i+1:Nat):Int):=by rw[ba (by omega) (by omega)];omega
def Vr(n:Nat):List Nat:=(List.range n).map (·+1)
theorem pP(n:Nat):Vr (n+1)=Vr n++[n+1]:=by simp[Vr,List.range_succ]
theorem DJ(n:Nat):(Vr n).length=n:=by simp[Vr]
theorem Mb:∀{j n:Nat},j≤n→Vr j <+: Vr n:=fun{j n} h=>by
 induction n with
 |zero=>have:j=0:=by omega
        subst this;exact List.prefix_refl _
 |succ n ih=>
  rcases Nat.lt_or_ge j (n+1)with q|q
  ·exact(ih (by omega)).trans (by rw[pP];exact List.prefix_append _ _)
  ·have:j=n+1:=by omega
   subst this;exact List.prefix_refl _
theorem RK{pre:List Nat}{x n:Nat}(h:(pre++[x]) <+: Vr n):x=pre.length+1∧pre.length<n:=by
 obtain⟨t,ht⟩:=h
 have hl:=congrArg List.length ht
 simp only[List.length_append,List.length_cons,List.length_nil,DJ]at hl
 have hx:=congrArg (fun z=>z[pre.length]?) ht
 simp only[List.append_assoc,List.getElem?_append_right (Nat.le_refl _),Nat.sub_self,Vr]at hx
 simp at hx
 have hlt:pre.length<n:=by omega
 rw[List.getElem?_range hlt]at hx
 simp at hx
 exact⟨hx,hlt⟩
theorem Vd(L:List (Nat×List DV))(b c:Nat)(v:List DV):lk (up L b v) c=if b=c then(lk L c).map (fun _=>v)else lk L c:=by
 split
 ·rename_i e;subst e;exact ax _ _ _
 ·rename_i e;exact aL e _ _
theorem A9{X T:St}(h:Has X T)(b:Nat)(v:List DV):Has ⟨up X.box b v,X.acc⟩ ⟨up T.box b v,T.acc⟩:=⟨fun c x hc=>by
 simp only[Vd]at hc ⊢
 split at hc
 ·rename_i e
  obtain⟨y,hy,rfl⟩:=Option.map_eq_some_iff.1 hc
  rw[h.box _ _ hy,if_pos e];rfl
 ·rename_i e
  rw[if_neg e];exact h.box _ _ hc,h.acc⟩
theorem U0{X T:St}{b c:Nat}{v w:List DV}(hb:¬lk X.box b=none)(hc:¬lk X.box c=none):Kp X T ⟨up (up T.box b v) c w,T.acc⟩:=⟨fun d x hd hx=>by
 show lk (up (up T.box b v) c w) d=some x
 rw[aL (fun e=>hc (by rw[e];exact hd)),aL (fun e=>hb (by rw[e];exact hd))];exact hx,fun d x _ hx=>hx⟩
theorem Sf(w0:W0)(l:List Int)(S:St):aa Tryz.prog w0 217 [dL l] S (fun d S'=>∃b:FN S.box,d= .v (.func (.func 242) #[] #[.pointer (some ⟨b.n,0,none⟩)])∧S'=⟨(b.n,[dL l])::S.box,S.acc⟩):=by
 refine nt [] mx Tryz.func217 rfl rfl (by kernel_rfl) ?_;(refine @ab _ ?_;refine ao @Tryz.ntmps217 ?_)
 intro b
 exact⟨b,rfl,rfl⟩
def Ur(l:List Int):Nat→Nat
 |0=>0
 |j+1=>wD l j
def Pa(l:List Int):Nat→Int
 |0=>l.sum+1
 |j+1=>fv l (wD l j)
theorem rl(l:List Int)(i:Nat):(l.take i).sum+(l.drop i).sum=l.sum:=by
 rw[←List.sum_append_int,List.take_append_drop]
theorem JB{l:List Int}(h:Bd l)(i:Nat):0≤fv l i∧fv l i≤l.sum:=by
 have h1:=(h.take i).sum
 have h2:=(h.drop i).sum
 have h3:=rl l i
 unfold fv
 split <;>omega
theorem Jn{l:List Int}(h:Bd l)(p:Nat):(fv l (p+1)<Pa l p→Pa l (p+1)=fv l (p+1)∧Ur l (p+1)=p+1)∧(¬fv l (p+1)<Pa l p→Pa l (p+1)=Pa l p∧Ur l (p+1)=Ur l p):=by
 cases p with
 |zero=>exact⟨fun _=>⟨rfl,rfl⟩,fun hn=>absurd (by have:=(JB h 1).2;show fv l 1<l.sum+1;omega) hn⟩
 |succ j=>
  have e:wD l (j+1)=if fv l (j+2)<fv l (wD l j)then j+2 else wD l j:=rfl
  refine⟨fun hw=>?_,fun hw=>?_⟩
  ·have e2:wD l (j+1)=j+2:=e.trans (if_pos hw)
   exact⟨by show fv l (wD l (j+1))=_;rw[e2],e2⟩
  ·have e2:wD l (j+1)=wD l j:=e.trans (if_neg hw)
   exact⟨by show fv l (wD l (j+1))=_;rw[e2];rfl,e2⟩
theorem Uc(w0:W0)(l:Nat)(b:Nat)(r:List Int)(X:List Nat→St)(hr:Bd r)(hb:∀pre,lk (X pre).box b=some [dL r])
 (hy:YK Tryz.prog w0 l X (fun x=>[dI x,dI (fv r x)]) (Vr (r.length-1))):∀T,Has (X []) T→aa Tryz.prog w0 242 [.v (.func (.yield l) #[] #[]),.v (.pointer (some ⟨b,0,none⟩))] T (fun _ T'=>Has (X (Vr (r.length-1))) T'):=by
 intro T hT
 have t0:lk T.box b=some [dL r]:=hT.box _ _ (hb _)
 refine vp [] mx Tryz.func242 rfl rfl (by kernel_rfl) ?_;simp only[Tryz.ntmps242,List.length_cons,List.length_nil,Nat.reduceAdd,Nat.reduceSub,List.reduceReplicate,List.cons_append,List.nil_append];(refine @ab _ ?_;refine aO @Tryz.ntmps242 @t0 ?_)
 refine aq (KA w0 _ _ hr) ?_
 (refine @ab _ ?_;refine ao @t0 ?_)
 have h0:=hr.1
 refine iH [] [0,3,4,9,10,11] (fun s:St×Nat=>[(3,dI (r.take s.2).sum),(4,dI (r.drop s.2).sum),(11,dI s.2)]) (fun s=>s.1) (fun s=>s.2≤r.length∧Has (X (Vr (s.2-1))) s.1) (fun s=>r.length-s.2) (T,0) mx (by kernel_rfl) ?_ ?_
 ·(refine @ab _ ?_;refine au ?_)
  exact⟨⟨Nat.zero_le _,hT⟩,rfl⟩
 ·rintro⟨T,k⟩ ⟨hk,hT'⟩
  simp only at hk hT'
  (refine @ab _ ?_;refine au ?_)
  have hsu:∀a,r[k]? =some a→IntKind.i64.wrap ((r.take k).sum+a)=(r.take (k+1)).sum∧IntKind.i64.wrap ((r.drop k).sum-a)=(r.drop (k+1)).sum:=fun a ha=>by
   have h1:=AM ha
   have h2:=rl r k
   have h3:=rl r (k+1)
   have h4:=(hr.take (k+1)).sum
   have h5:=(hr.drop (k+1)).sum
   exact⟨by rw[h1]at h4 ⊢;exact ba (by omega) (by omega),by rw[ba (by omega) (by omega)];omega⟩
  refine⟨fun hlt=>⟨hlt,fun a ha=>⟨fun hk0=>?_,fun hk0=>?_⟩⟩,fun hge=>?_⟩
  ·obtain⟨j,rfl⟩:∃j,k=j+1:=⟨k-1,by omega⟩
   have ew:(if(r.take (j+1)).sum<(r.drop (j+1)).sum then(r.drop (j+1)).sum else(r.take (j+1)).sum)=fv r (j+1):=by
    unfold fv
    split <;>split <;>omega
   rw[ew]
   refine Lo (hy (Vr j) (j+1) T (by rw[←pP];exact Mb (by omega)) hT') ?_
   rintro d T2 ⟨rfl,hT2,hK⟩
   (refine @ab _ ?_;refine au ?_)
   exact⟨(T2,j+2),⟨hlt,by show Has (X (Vr (j+1))) T2;rw[pP];exact hT2⟩,by show r.length-(j+2)<r.length-(j+1);omega,⟨(hsu a ha).1,(hsu a ha).2,aW (j+1) (by omega)⟩,.refl _⟩
  ·have:k=0:=by omega
   subst this
   exact⟨(T,1),⟨hlt,hT'⟩,by show r.length-1<r.length-0;omega,⟨(hsu a ha).1,(hsu a ha).2,aW 0 (by omega)⟩,.refl _⟩
  ·have:k=r.length:=by omega
   subst this
   exact⟨_,T,.refl _,.refl _,hT'⟩
theorem YG(w0:W0)(l:List Int)(S:St)(h:Bd l):aa Tryz.prog w0 167 [dL l] S (fun d S'=>d=dI (atR l)∧S'=S):=by
 refine aY [] mx Tryz.func167 rfl rfl (by kernel_rfl) ?_;(refine @ab _ ?_;refine ao @Tryz.ntmps167 ?_)
 have hs:=h.sum
 have h0:=h.1
 refine aq (KA w0 _ _ h) ?_
 (refine @ab _ ?_;refine au ?_)
 intro b3 b4
 have es:IntKind.i64.wrap (l.sum+1)=l.sum+1:=ba (by omega) (by omega)
 rw[es]
 refine⟨fun hle=>?_,fun hgt=>?_⟩
 ·unfold atR;rw[if_pos (.inl (by omega))];rfl
 refine bB (Sf w0 l _) ?_
 rintro _ _ ⟨b,rfl,rfl⟩
 (refine @ab _ ?_;refine au ?_)
 refine qv [] (fun pre:List Nat=>⟨(b.n,[dL l])::(b4.n,[dI (Ur l pre.length)])::(b3.n,[dI (Pa l pre.length)])::S.box,S.acc⟩) (fun x:Nat=>[dI x,dI (fv l x)]) (Vr (l.length-1)) mx (by kernel_rfl) rfl rfl rfl (fun _=>rfl) (fun _=>rfl) (fun _=>rfl) ?_ ?_ ?_
 ·intro ly w1 hy T hT
  exact Uc w1 ly b.n l _ h (fun _=>by(refine @ab _ ?_;exact aK)) hy T hT
 ·intro pre x T hp hT
  obtain⟨rfl,hlt⟩:=RK hp
  have t3:lk T.box b3.n=some [dI (Pa l pre.length)]:=hT.box _ _ (by(refine @ab _ ?_;exact aK))
  have t4:lk T.box b4.n=some [dI (Ur l pre.length)]:=hT.box _ _ (by(refine @ab _ ?_;exact aK))
  have hne:¬b3.n=b4.n:=by(refine @ab _ ?_;exact aK)
  have hl1:(pre++[pre.length+1]).length=pre.length+1:=by simp
  have hH:=fun v w=>A9 (A9 hT b3.n [dI v]) b4.n [dI w]
  have hu:∀(v w:Int),up (up ((b.n,[dL l])::(b4.n,[dI (Ur l pre.length)])::(b3.n,[dI (Pa l pre.length)])::S.box) b3.n [dI v]) b4.n [dI w]=(b.n,[dL l])::(b4.n,[dI w])::(b3.n,[dI v])::S.box:=fun v w=>by(refine @ab _ ?_;exact aK)
  have hK:∀v w,Kp ⟨(b.n,[dL l])::(b4.n,[dI (Ur l pre.length)])::(b3.n,[dI (Pa l pre.length)])::S.box,S.acc⟩ T ⟨up (up T.box b3.n v) b4.n w,T.acc⟩:=fun v w=>U0 (by(refine @ab _ ?_;exact aK)) (by(refine @ab _ ?_;exact aK))
  simp only[hu]at hH
  simp only[jo]
  (refine @ab _ ?_;refine aO @t3 @t4 ?_)
  obtain⟨Zj,Y6⟩:=Jn h pre.length
  refine⟨fun hw=>?_,fun hw=>?_⟩
  ·rw[(Zj hw).1,(Zj hw).2]
   exact⟨hH _ _,hK _ _⟩
  ·rw[(Y6 hw).1,(Y6 hw).2]
   exact⟨hT,.refl _ _⟩
 ·(refine @ab _ ?_;refine ao @DJ ?_)
  unfold atR
  by_cases h2:l.length<2
  ·rw[if_pos (.inr h2),show l.length-1=0 by omega];rfl
  ·rw[if_neg (by omega)]
   obtain⟨m,hm⟩:∃m,l.length=m+2:=⟨l.length-2,by omega⟩
   rw[hm];rfl
theorem Ey(a b:Nat)(h:a+b<2^62):IntKind.i64.wrap ((a:Int)+(b:Int))=((a+b:Nat):Int):=by rw[ba (by omega) (by omega)];omega
@[go_sem] def dR (s:Nat) (l:List DV):DV:= .sl s false l
def fl(rows:List (List DV)):List DV:=rows.flatten
theorem ko{rows:List (List DV)}{k:Nat}{a:List DV}(h:rows[k]? =some a):fl (rows.take (k+1))=fl (rows.take k)++a:=by
 unfold fl
 rw[List.take_add_one,h]
 simp
theorem rN(rows:List (List DV))(k:Nat):(fl (rows.take k)).length≤(fl rows).length:=by
 have:fl rows=fl (rows.take k)++fl (rows.drop k):=by
  unfold fl
  rw[←List.flatten_append,List.take_append_drop]
 rw[this];simp
theorem jC{P:Program}{w0:W0}{f:FuncId}{args:List DV}{S:St}{r:DV}(h1:aa P w0 f args S (fun d S'=>oz S' d fun d S''=>Wk d r∧Aml.Sub S S'')):aa P w0 f args S (fun d S'=>d=r∧S'=S):=by
 intro g vs w k1 k2
 refine(h1 g vs w k1 k2).mono ?_
 rintro e w' ⟨v,g',d,S',q1,q2,q3,q4,q5⟩
 obtain⟨g2,d',S2,p1,p2,p3,p4,p5⟩:=sG q3 q4 q5
 exact⟨v,g2,r,S,q1,q2.trans p1,p2.forget p5.box p5.acc,p4 _ _ p3,rfl,rfl⟩
theorem Xz(w0:W0)(n:Int)(S:St)(h0:0≤n)(h1:n≤1099511627776):aa Tryz.prog w0 245 [.sl 0 true [],dI n] S (fun d S'=>∃l:FN S.acc,d= .acc l.n 0∧S'=⟨S.box,(l.n,.arr 1 [])::S.acc⟩):=by
 refine ia (K':=fun d S'=>(d= .sl 0 true []∧S'=S)∨∃l:FN S.acc,d= .acc l.n 0∧S'=⟨S.box,(l.n,.arr 1 [])::S.acc⟩) ?_ 1 (by omega) ?_
 ·refine nt [] mx Tryz.func245 rfl rfl (by kernel_rfl) ?_;(refine @ab _ ?_;refine ao @Tryz.ntmps245 ?_)
  have e1:IntKind.i64.wrap (0-0)=0:=ba (by omega) (by omega)
  rw[e1,Int.sub_zero,ba (by omega) (by omega)]
  refine⟨fun h=>by omega,fun h h2=>⟨by omega,by omega,by omega,fun l=> .inl ⟨⟨_,_,_,rfl⟩,by simp,fun l'=>⟨⟨l'.n,l'.h.2.2⟩,rfl,rfl⟩⟩⟩⟩
 ·rintro d S' (⟨rfl,rfl⟩|h)
  ·exact .inr ⟨⟨0,rfl⟩,fun l hl=>⟨⟨l,hl⟩,rfl,rfl⟩⟩
  ·exact .inl h
theorem yv(w0:W0)(rows:List (List DV))(S:St)(h0:rows.length≤1099511627776)(h1:(fl rows).length≤1048576):
 aa Tryz.prog w0 222 [.sl 1 false (rows.map (dR 1))] S (fun d S'=>d=dR 1 (fl rows)∧S'=S):=by
 refine aY [] mx Tryz.func222 rfl rfl (by kernel_rfl) ?_;(refine @ab _ ?_;refine ao @Tryz.ntmps222 ?_)
 refine aA [] rows.length [0,3,9,10,11] (fun k=>[(3,dI (fl (rows.take k)).length),(11,dI k)]) (fun _=>S) (fun k=>True) mx (by kernel_rfl) ?_ ?_
 ·(refine @ab _ ?_;refine au ?_)
  simp[fl]
 ·intro k hk _
  (refine @ab _ ?_;refine au ?_)
  refine⟨fun hlt=>⟨hlt,fun a ha=>?_⟩,fun hge=>?_⟩
  ·have h2:=ko ha
   have h3:=rN rows (k+1)
   rw[h2,List.length_append]at h3
   rw[ba (by omega) (by omega)]
   refine⟨fun h=>by omega,fun h=>⟨hlt,?_,ba (by omega) (by omega)⟩⟩
   rw[h2,List.length_append];omega
  ·rw[List.take_of_length_le (by omega)]
   refine bB (Xz w0 (fl rows).length S (by omega) (by omega)) ?_
   rintro d S' ⟨l,rfl,rfl⟩
   (refine @ab _ ?_;refine au ?_)
   refine aA [] rows.length [6,25,26,27] (fun k=>[(6,.acc l.n (fl (rows.take k)).length),(27,dI k)]) (fun k=>⟨S.box,(l.n,.arr 1 (fl (rows.take k)))::S.acc⟩) (fun k=>True) mx (by kernel_rfl) ?_ ?_
   ·(refine @ab _ ?_;refine au ?_)
    simp[fl,Wk.refl,Sub.refl]
   ·intro k hk _
    (refine @ab _ ?_;refine au ?_)
    refine⟨fun hlt=>⟨hlt,fun a ha=>?_⟩,fun hge=>?_⟩
    ·have h2:=ko ha
     have h3:=rN rows (k+1)
     rw[h2,List.length_append]at h3
     refine⟨by omega,by unfold maxLen;omega,hlt,⟨?_,ba (by omega) (by omega)⟩,?_⟩
     ·rw[h2,List.length_append];exact .refl _
     ·rw[h2];exact .refl _
    ·rw[List.take_of_length_le (by omega)];exact .full _ _ _
theorem uA(w0:W0)(l:List DV)(S:St)(h0:l.length≤1048576):aa Tryz.prog w0 120 [dR 1 l] S fun d S'=>∃b:FN S.acc,d= .acc b.n l.length∧S'=⟨S.box,(b.n,.arr 1 l)::S.acc⟩:=by
 refine KO 1 (by omega) ?_
 refine nt [] mx Tryz.func120 rfl rfl (by kernel_rfl) ?_;(refine @ab _ ?_;refine ao @Tryz.ntmps120 ?_)
 intro b hb
 refine⟨fun h1=> .inl ⟨Classical.byContradiction fun hn=>?_,0,rfl⟩,fun h1=>⟨by omega,by unfold maxLen;omega,fun c=> .inr ⟨c,rfl,rfl⟩⟩⟩
 rw[hb hn]at h1;cases h1
theorem yS(w0:W0)(l:List DV)(S:St)(h0:l.length≤1048576):aa Tryz.prog w0 120 [dR 1 l] S fun d S'=>d=dR 1 l∧S'=S:=by
 refine jC (aa.mono (uA w0 l S h0) ?_)
 rintro d S' ⟨b,rfl,rfl⟩
 (refine @ab _ ?_;exact aK)
theorem FX(w0:W0)(l m:List DV)(i n:Nat)(f:Bool)(S:St)(hi:i+n≤l.length)(h0:l.length≤524288)(h1:m.length≤524288):aa Tryz.prog w0 171 [dR 1 l,dI i,dI n,.sl 1 f m] S (fun d S'=>d=dR 1 (l.take i++m++l.drop (i+n))∧S'=S):=by
 refine aY [] mx Tryz.func171 rfl rfl (by kernel_rfl) ?_;(refine @ab _ ?_;refine aO @Tryz.ntmps171 (Ey i n (by omega)) ?_)
 have e:fl [l.take i,m,l.drop (i+n)]=l.take i++m++l.drop (i+n):=by simp[fl]
 refine⟨by omega,hi,aT (yv w0 [l.take i,m,l.drop (i+n)] _ (by simp) ?_) ?_ ⟨(Wk.full _ _ _).trans (Wk.sl ⟨.refl _,.full _ _ _,.refl _,trivial⟩),trivial⟩⟩
 ·rw[e];simp only[List.length_append,List.length_take,List.length_drop];omega
 ·rw[e];(refine @ab _ ?_;exact aK)
theorem WH(w0:W0)(n:Int)(S:St)(h0:0≤n)(h1:n≤1099511627776):aa Tryz.prog w0 246 [.sl 0 true [],dI n] S (fun d S'=>∃l:FN S.acc,d= .acc l.n 0∧S'=⟨S.box,(l.n,.arr 2 [])::S.acc⟩):=by
 refine ia (K':=fun d S'=>(d= .sl 0 true []∧S'=S)∨∃l:FN S.acc,d= .acc l.n 0∧S'=⟨S.box,(l.n,.arr 2 [])::S.acc⟩) ?_ 2 (by omega) ?_
 ·refine nt [] mx Tryz.func246 rfl rfl (by kernel_rfl) ?_;(refine @ab _ ?_;refine ao @Tryz.ntmps246 ?_)
  have e1:IntKind.i64.wrap (0-0)=0:=ba (by omega) (by omega)
  rw[e1,Int.sub_zero,ba (by omega) (by omega)]
  refine⟨fun h=>by omega,fun h h2=>⟨by omega,by omega,by omega,fun l=> .inl ⟨⟨_,_,_,rfl⟩,by simp,fun l'=>⟨⟨l'.n,l'.h.2.2⟩,rfl,rfl⟩⟩⟩⟩
 ·rintro d S' (⟨rfl,rfl⟩|h)
  ·exact .inr ⟨⟨0,rfl⟩,fun l hl=>⟨⟨l,hl⟩,rfl,rfl⟩⟩
  ·exact .inl h
theorem yB(w0:W0)(rows:List (List DV))(S:St)(h0:rows.length≤1099511627776)(h1:(fl rows).length≤1048576):
 aa Tryz.prog w0 223 [.sl 1 false (rows.map (dR 2))] S (fun d S'=>d=dR 2 (fl rows)∧S'=S):=by
 refine aY [] mx Tryz.func223 rfl rfl (by kernel_rfl) ?_;(refine @ab _ ?_;refine ao @Tryz.ntmps223 ?_)
 refine aA [] rows.length [0,3,9,10,11] (fun k=>[(3,dI (fl (rows.take k)).length),(11,dI k)]) (fun _=>S) (fun k=>True) mx (by kernel_rfl) ?_ ?_
 ·(refine @ab _ ?_;refine au ?_)
  simp[fl]
 ·intro k hk _
  (refine @ab _ ?_;refine au ?_)
  refine⟨fun hlt=>⟨hlt,fun a ha=>?_⟩,fun hge=>?_⟩
  ·have h2:=ko ha
   have h3:=rN rows (k+1)
   rw[h2,List.length_append]at h3
   rw[ba (by omega) (by omega)]
   refine⟨fun h=>by omega,fun h=>⟨hlt,?_,ba (by omega) (by omega)⟩⟩
   rw[h2,List.length_append];omega
  ·rw[List.take_of_length_le (by omega)]
   refine bB (WH w0 (fl rows).length S (by omega) (by omega)) ?_
   rintro d S' ⟨l,rfl,rfl⟩
   (refine @ab _ ?_;refine au ?_)
   refine aA [] rows.length [6,25,26,27] (fun k=>[(6,.acc l.n (fl (rows.take k)).length),(27,dI k)]) (fun k=>⟨S.box,(l.n,.arr 2 (fl (rows.take k)))::S.acc⟩) (fun k=>True) mx (by kernel_rfl) ?_ ?_
   ·(refine @ab _ ?_;refine au ?_)
    simp[fl,Wk.refl,Sub.refl]
   ·intro k hk _
    (refine @ab _ ?_;refine au ?_)
    refine⟨fun hlt=>⟨hlt,fun a ha=>?_⟩,fun hge=>?_⟩
    ·have h2:=ko ha
     have h3:=rN rows (k+1)
     rw[h2,List.length_append]at h3
     refine⟨by omega,by unfold maxLen;omega,hlt,⟨?_,ba (by omega) (by omega)⟩,?_⟩
     ·rw[h2,List.length_append];exact .refl _
     ·rw[h2];exact .refl _
    ·rw[List.take_of_length_le (by omega)];exact .full _ _ _
theorem xl(w0:W0)(l:List DV)(S:St)(h0:l.length≤1048576):aa Tryz.prog w0 121 [dR 2 l] S fun d S'=>∃b:FN S.acc,d= .acc b.n l.length∧S'=⟨S.box,(b.n,.arr 2 l)::S.acc⟩:=by
 refine KO 2 (by omega) ?_
 refine nt [] mx Tryz.func121 rfl rfl (by kernel_rfl) ?_;(refine @ab _ ?_;refine ao @Tryz.ntmps121 ?_)
 intro b hb
 refine⟨fun h1=> .inl ⟨Classical.byContradiction fun hn=>?_,0,rfl⟩,fun h1=>⟨by omega,by unfold maxLen;omega,fun c=> .inr ⟨c,rfl,rfl⟩⟩⟩
 rw[hb hn]at h1;cases h1
theorem EV(w0:W0)(l:List DV)(S:St)(h0:l.length≤1048576):aa Tryz.prog w0 121 [dR 2 l] S fun d S'=>d=dR 2 l∧S'=S:=by
 refine jC (aa.mono (xl w0 l S h0) ?_)
 rintro d S' ⟨b,rfl,rfl⟩
 (refine @ab _ ?_;exact aK)
theorem RH(w0:W0)(l m:List DV)(i n:Nat)(f:Bool)(S:St)(hi:i+n≤l.length)(h0:l.length≤524288)(h1:m.length≤524288):aa Tryz.prog w0 172 [dR 2 l,dI i,dI n,.sl 2 f m] S (fun d S'=>d=dR 2 (l.take i++m++l.drop (i+n))∧S'=S):=by
 refine aY [] mx Tryz.func172 rfl rfl (by kernel_rfl) ?_;(refine @ab _ ?_;refine aO @Tryz.ntmps172 (Ey i n (by omega)) ?_)
 have e:fl [l.take i,m,l.drop (i+n)]=l.take i++m++l.drop (i+n):=by simp[fl]
 refine⟨by omega,hi,aT (yB w0 [l.take i,m,l.drop (i+n)] _ (by simp) ?_) ?_ ⟨(Wk.full _ _ _).trans (Wk.sl ⟨.refl _,.full _ _ _,.refl _,trivial⟩),trivial⟩⟩
 ·rw[e];simp only[List.length_append,List.length_take,List.length_drop];omega
 ·rw[e];(refine @ab _ ?_;exact aK)
theorem Ws(w0:W0)(n:Int)(S:St)(h0:0≤n)(h1:n≤1099511627776):aa Tryz.prog w0 243 [.sl 0 true [],dI n] S (fun d S'=>∃l:FN S.acc,d= .acc l.n 0∧S'=⟨S.box,(l.n,.arr 5 [])::S.acc⟩):=by
 refine ia (K':=fun d S'=>(d= .sl 0 true []∧S'=S)∨∃l:FN S.acc,d= .acc l.n 0∧S'=⟨S.box,(l.n,.arr 5 [])::S.acc⟩) ?_ 5 (by omega) ?_
 ·refine nt [] mx Tryz.func243 rfl rfl (by kernel_rfl) ?_;(refine @ab _ ?_;refine ao @Tryz.ntmps243 ?_)
  have e1:IntKind.i64.wrap (0-0)=0:=ba (by omega) (by omega)
  rw[e1,Int.sub_zero,ba (by omega) (by omega)]
  refine⟨fun h=>by omega,fun h h2=>⟨by omega,by omega,by omega,fun l=> .inl ⟨⟨_,_,_,rfl⟩,by simp,fun l'=>⟨⟨l'.n,l'.h.2.2⟩,rfl,rfl⟩⟩⟩⟩
 ·rintro d S' (⟨rfl,rfl⟩|h)
  ·exact .inr ⟨⟨0,rfl⟩,fun l hl=>⟨⟨l,hl⟩,rfl,rfl⟩⟩
  ·exact .inl h
theorem yA(w0:W0)(rows:List (List DV))(S:St)(h0:rows.length≤1099511627776)(h1:(fl rows).length≤1048576):
 aa Tryz.prog w0 219 [.sl 1 false (rows.map (dR 5))] S (fun d S'=>d=dR 5 (fl rows)∧S'=S):=by
 refine aY [] mx Tryz.func219 rfl rfl (by kernel_rfl) ?_;(refine @ab _ ?_;refine ao @Tryz.ntmps219 ?_)
 refine aA [] rows.length [0,3,9,10,11] (fun k=>[(3,dI (fl (rows.take k)).length),(11,dI k)]) (fun _=>S) (fun k=>True) mx (by kernel_rfl) ?_ ?_
 ·(refine @ab _ ?_;refine au ?_)
  simp[fl]
 ·intro k hk _
  (refine @ab _ ?_;refine au ?_)
  refine⟨fun hlt=>⟨hlt,fun a ha=>?_⟩,fun hge=>?_⟩
  ·have h2:=ko ha
   have h3:=rN rows (k+1)
   rw[h2,List.length_append]at h3
   rw[ba (by omega) (by omega)]
   refine⟨fun h=>by omega,fun h=>⟨hlt,?_,ba (by omega) (by omega)⟩⟩
   rw[h2,List.length_append];omega
  ·rw[List.take_of_length_le (by omega)]
   refine bB (Ws w0 (fl rows).length S (by omega) (by omega)) ?_
   rintro d S' ⟨l,rfl,rfl⟩
   (refine @ab _ ?_;refine au ?_)
   refine aA [] rows.length [6,25,26,27] (fun k=>[(6,.acc l.n (fl (rows.take k)).length),(27,dI k)]) (fun k=>⟨S.box,(l.n,.arr 5 (fl (rows.take k)))::S.acc⟩) (fun k=>True) mx (by kernel_rfl) ?_ ?_
   ·(refine @ab _ ?_;refine au ?_)
    simp[fl,Wk.refl,Sub.refl]
   ·intro k hk _
    (refine @ab _ ?_;refine au ?_)
    refine⟨fun hlt=>⟨hlt,fun a ha=>?_⟩,fun hge=>?_⟩
    ·have h2:=ko ha
     have h3:=rN rows (k+1)
     rw[h2,List.length_append]at h3
     refine⟨by omega,by unfold maxLen;omega,hlt,⟨?_,ba (by omega) (by omega)⟩,?_⟩
     ·rw[h2,List.length_append];exact .refl _
     ·rw[h2];exact .refl _
    ·rw[List.take_of_length_le (by omega)];exact .full _ _ _
theorem yQ(w0:W0)(l:List DV)(S:St)(h0:l.length≤1048576):aa Tryz.prog w0 125 [dR 5 l] S fun d S'=>∃b:FN S.acc,d= .acc b.n l.length∧S'=⟨S.box,(b.n,.arr 5 l)::S.acc⟩:=by
 refine KO 5 (by omega) ?_
 refine nt [] mx Tryz.func125 rfl rfl (by kernel_rfl) ?_;(refine @ab _ ?_;refine ao @Tryz.ntmps125 ?_)
 intro b hb
 refine⟨fun h1=> .inl ⟨Classical.byContradiction fun hn=>?_,0,rfl⟩,fun h1=>⟨by omega,by unfold maxLen;omega,fun c=> .inr ⟨c,rfl,rfl⟩⟩⟩
 rw[hb hn]at h1;cases h1
theorem Fg(w0:W0)(l:List DV)(S:St)(h0:l.length≤1048576):aa Tryz.prog w0 125 [dR 5 l] S fun d S'=>d=dR 5 l∧S'=S:=by
 refine jC (aa.mono (yQ w0 l S h0) ?_)
 rintro d S' ⟨b,rfl,rfl⟩
 (refine @ab _ ?_;exact aK)
theorem swapT(w0:W0)(l m:List DV)(i n:Nat)(f:Bool)(S:St)(hi:i+n≤l.length)(h0:l.length≤524288)(h1:m.length≤524288):aa Tryz.prog w0 169 [dR 5 l,dI i,dI n,.sl 5 f m] S (fun d S'=>d=dR 5 (l.take i++m++l.drop (i+n))∧S'=S):=by
 refine aY [] mx Tryz.func169 rfl rfl (by kernel_rfl) ?_;(refine @ab _ ?_;refine aO @Tryz.ntmps169 (Ey i n (by omega)) ?_)
 have e:fl [l.take i,m,l.drop (i+n)]=l.take i++m++l.drop (i+n):=by simp[fl]
 refine⟨by omega,hi,aT (yA w0 [l.take i,m,l.drop (i+n)] _ (by simp) ?_) ?_ ⟨(Wk.full _ _ _).trans (Wk.sl ⟨.refl _,.full _ _ _,.refl _,trivial⟩),trivial⟩⟩
 ·rw[e];simp only[List.length_append,List.length_take,List.length_drop];omega
 ·rw[e];(refine @ab _ ?_;exact aK)
theorem As(a:ByteArray):fh a a=true:=by simp[fh]
theorem WK(w0:W0)(a:ByteArray)(S:St):aa Tryz.prog w0 244 [dS a] S (fun d S'=>d=dB false∧S'=S):=by
 refine aY [] mx Tryz.func244 rfl rfl (by kernel_rfl) ?_;(refine @ab _ ?_;exact re @Tryz.ntmps244 @As)
theorem Wl(w0:W0)(a:ByteArray)(S:St):aa Tryz.prog w0 221 [dS a] S (fun d S'=>d=dB false∧S'=S):=by
 refine aY [] mx Tryz.func221 rfl rfl (by kernel_rfl) ?_;(refine @ab _ ?_;exact re @Tryz.ntmps221 @As)
theorem To(w0:W0)(a b:ByteArray)(S:St):aa Tryz.prog w0 220 [dS a,dS b] S (fun d S'=>d=dB (cI a b)∧S'=S):=by
 refine aY [] mx Tryz.func220 rfl rfl (by kernel_rfl) ?_;(refine @ab _ ?_;refine ao @Tryz.ntmps220 ?_)
 refine aq (WK w0 a S) ?_
 (refine @ab _ ?_;exact aK)
theorem SH(w0:W0)(n:N)(key:ByteArray)(S:St)(ht:n.l.length≤1048576)(hn:n.l≠[]):aa Tryz.prog w0 124 [eT n,dS key] S (fun d S'=>d=dI (fU n.l key)∧S'=S):=by
 refine aY [] mx Tryz.func124 rfl rfl (by kernel_rfl) ?_;(refine @ab _ ?_;refine ao @Tryz.ntmps124 ?_)
 have h0:=List.length_pos_iff.2 hn
 intro b
 refine aA [] (n.l.length-1) [1,2,5] (fun k=>[(5,dI ((n.l.length-1-k:Nat):Int))]) (fun _=>⟨(b.n,cT n)::S.box,S.acc⟩) (fun k=>fU n.l key=ml n.l key (n.l.length-1-k)) mx (by kernel_rfl) ?_ ?_
 ·simp(maxDischargeDepth:=12) (maxSteps:=1000000) -implicitDefEqProofs only[go_sem,Nat.reduceAdd,Nat.reduceSub,Nat.reduceMul,Nat.reduceLeDiff,Nat.reduceEqDiff,Nat.reduceGT,Nat.reduceBEq,reduceCtorEq,↓reduceIte,Int.reduceToNat,Int.reduceLE,Int.reduceLT,Int.reduceNe,Int.reduceEq,cT]
  exact⟨rfl,by rw[ba (by omega) (by omega)];omega⟩
 ·intro k hk hw
  simp(maxDischargeDepth:=12) (maxSteps:=1000000) -implicitDefEqProofs only[go_sem,Nat.reduceAdd,Nat.reduceSub,Nat.reduceMul,Nat.reduceLeDiff,Nat.reduceEqDiff,Nat.reduceGT,Nat.reduceBEq,reduceCtorEq,↓reduceIte,Int.reduceToNat,Int.reduceLE,Int.reduceLT,Int.reduceNe,Int.reduceEq,cT]
  refine⟨fun hg=>?_,fun hg=>?_⟩
  ·obtain⟨i,hi⟩:∃i,n.l.length-1-k=i+1:=⟨n.l.length-1-k-1,by omega⟩
   have hi':n.l.length-1-(k+1)=i:=by omega
   rw[hi]at hw ⊢
   rw[hi']
   refine⟨by omega,fun a ha=>⟨fun hle=>?_,fun hle=>⟨by omega,?_,?_⟩⟩⟩
   ·rw[hw];simp only[ml,ha,hle];rfl
   ·rw[hw];simp only[ml,ha,hle];rfl
   ·rw[ba (by omega) (by omega)];omega
  ·have:n.l.length-1-k=0:=by omega
   rw[hw,this];rfl
theorem qn(w0:W0)(n:N)(S:St)(h:QF n)(ht:n.l.length≤1048576):aa Tryz.prog w0 168 [eT n] S (fun d S'=>d=dL (ae n)∧S'=S):=by
 refine aY [] mx Tryz.func168 rfl rfl (by kernel_rfl) ?_;(refine @ab _ ?_;refine ao @Tryz.ntmps168 ?_)
 intro b
 refine j3 3 1 rfl (by omega) fun lb=>?_
 refine aA [] n.l.length [1,3,9,10,11] (fun k=>[(3,.acc lb.n k),(11,dI k)]) (fun k=>⟨(b.n,cT n)::S.box,(lb.n,.arr 1 (((ae n).take k).map dI))::S.acc⟩) (fun _=>True) mx (by kernel_rfl) ?_ ?_
 ·simp(maxDischargeDepth:=12) (maxSteps:=1000000) -implicitDefEqProofs only[go_sem,Nat.reduceAdd,Nat.reduceSub,Nat.reduceMul,Nat.reduceLeDiff,Nat.reduceEqDiff,Nat.reduceGT,Nat.reduceBEq,reduceCtorEq,↓reduceIte,Int.reduceToNat,Int.reduceLE,Int.reduceLT,Int.reduceNe,Int.reduceEq,cT]
 ·intro k hk _
  have hl:(ae n).length=n.l.length:=by unfold ae;rw[List.length_map]
  have hmin:min k (ae n).length=k:=by omega
  simp(maxDischargeDepth:=12) (maxSteps:=1000000) -implicitDefEqProofs only[go_sem,Nat.reduceAdd,Nat.reduceSub,Nat.reduceMul,Nat.reduceLeDiff,Nat.reduceEqDiff,Nat.reduceGT,Nat.reduceBEq,reduceCtorEq,↓reduceIte,Int.reduceToNat,Int.reduceLE,Int.reduceLT,Int.reduceNe,Int.reduceEq,hmin,cT]
  have e2:k<n.l.length→IntKind.i64.wrap ((k:Int)+1)=((k+1:Nat):Int):=fun h=>aW k (by omega)
  refine⟨fun hlt=>⟨hlt,fun a ha=>?_⟩,fun hge=>by rw[List.take_of_length_le (by omega)];exact .full _ _ _⟩
  have hb:=(sP a).1 ((sx n).1 h a (List.mem_of_getElem? ha))
  have hs:(ae n).take (k+1)=(ae n).take k++[aX n.leaf a]:=by
   rw[List.take_add_one];unfold ae;rw[List.getElem?_map,ha];rfl
  have e1:IntKind.i64.wrap (4+(a.key.size:Int))=4+a.key.size:=ba (by omega) (by omega)
  have fin:∀(B:List (Nat×List DV)) (z:Int),z=aX n.leaf a→Aml.Sub ⟨B,(lb.n,.arr 1 (((ae n).take (k+1)).map dI))::S.acc⟩ ⟨B,(lb.n,.arr 1 (((ae n).take k).map dI++[.v (.int .i64 z)]))::S.acc⟩:=fun B z e=>by
   rw[hs,List.map_append,e];exact .refl _
  have hm:k+1≤maxLen:=by unfold maxLen;omega
  have h8:(k+1)*8≤140737488355328:=by omega
  refine⟨fun hlf=>?_,fun hlf=>⟨h8,hm,hlt,e2 hlt,fin _ _ ?_⟩⟩
  ·rw[if_pos hlf]
   refine⟨hlt,fun a3 ha3=>?_⟩
   cases bq ha ha3
   refine aq (zc w0 _ _) ?_
   (refine @ab _ ?_;refine ao @hmin ?_)
   refine⟨fun hn=>⟨h8,hm,hlt,e2 hlt,fin _ _ ?_⟩,fun hn=>⟨fun h4=>?_,fun h4=>⟨h8,hm,hlt,e2 hlt,fin _ _ ?_⟩⟩⟩
   ·unfold aX;rw[if_pos hlf,if_pos (.inl (by omega))];exact ba (by omega) (by omega)
   ·omega
   ·unfold aX;rw[if_pos hlf,if_neg (by omega),ba (n:=3+(a.data.size:Int)) (by omega) (by omega),ba (by omega) (by omega)];omega
  ·unfold aX;rw[if_neg (by rw[hlf];simp)];exact e1
def dE(l:List C)(key:ByteArray):Bool:=match l[bk l key]? with
 |some c=>fh c.key key
 |none=>false
theorem qs{α:Type}{p:α→Bool}:∀{l:List α} {i:Nat},i≤l.length→(∀(x:Nat) c,x<i→l[x]? =some c→p c=true)→(∀c,l[i]? =some c→p c=false)→(l.takeWhile p).length=i
 |[],i,h,_,_=>by simp at h;subst h;rfl
 |a::l,0,_,_,h2=>by
  have:=h2 a rfl
  simp[List.takeWhile_cons,this]
 |a::l,i+1,h,h1,h2=>by
  have ha:=h1 0 a (by omega) rfl
  have ih:=qs (p:=p) (l:=l) (i:=i) (by simpa using h) (fun x c hx hc=>h1 (x+1) c (by omega) (by simpa using hc)) (fun c hc=>h2 c (by simpa using hc))
  simp[List.takeWhile_cons,ha,ih]
theorem qD{l:List C}(h:dj l)(key:ByteArray):∀(i j:Nat) (a b:C),i≤j→l[i]? =some a→l[j]? =some b→cI b.key key=true→cI a.key key=true:=fun i j a b hij ha hb hk=>by
 rcases Nat.lt_or_ge i j with q|q
 ·obtain⟨h1,rfl⟩:=List.getElem?_eq_some_iff.1 ha
  obtain⟨h2,rfl⟩:=List.getElem?_eq_some_iff.1 hb
  exact fT (List.pairwise_iff_getElem.1 h i j h1 h2 q) hk
 ·have:i=j:=by omega
  subst this;cases bq ha hb;exact hk
theorem Fc(w0:W0)(l:List C)(key:ByteArray)(S:St)(hl:∀(i j:Nat) (a b:C),i≤j→l[i]? =some a→l[j]? =some b→cI b.key key=true→cI a.key key=true)(hb:l.length≤1073741824):
 aa Tryz.prog w0 170 [.sl 1 false (l.map fun c=>dS c.key),dS key] S (fun d S'=>d= .bN [dI (bk l key),dB (dE l key)]∧S'=S):=by
 refine aY [] mx Tryz.func170 rfl rfl (by kernel_rfl) ?_;(refine @ab _ ?_;refine ao @Tryz.ntmps170 ?_)
 refine iH [] [0,1,6,7,8] (fun s:Nat×Nat=>[(7,dI s.1),(8,dI s.2)]) (fun _=>S) (fun s=>s.1≤s.2∧s.2≤l.length∧(∀(i:Nat) a,i<s.1→l[i]? =some a→cI a.key key=true)∧∀(i:Nat) a,s.2≤i→l[i]? =some a→cI a.key key=false) (fun s=>s.2-s.1) (0,l.length) mx (by kernel_rfl) ?_ ?_
 ·(refine @ab _ ?_;refine au ?_)
  exact⟨Nat.zero_le _,fun i a h=>absurd h (by omega),fun i a h e=>absurd (List.getElem?_eq_some_iff.1 e).1 (by omega)⟩
 ·rintro⟨i,j⟩ ⟨h1,h2,h3,h4⟩
  simp only at h1 h2 h3 h4
  have eh:IntKind.i64.wrap ((IntKind.u64.wrap (IntKind.i64.wrap ((i:Int)+j))).fdiv (2^min 1 64))=(((i+j)/2:Nat):Int):=by
   rw[ba (n:=(i:Int)+j) (by omega) (by omega),ja (by omega) (by omega),Int.fdiv_eq_ediv_of_nonneg _ (by decide)]
   simp only[show min 1 64=1 from rfl,Int.pow_one]
   rw[ba (by omega) (by omega)]
   omega
  (refine @ab _ ?_;refine ao @eh ?_)
  refine⟨fun hlt=>⟨by omega,fun a ha=>aq (To w0 a.key key S) ?_⟩,fun hge=>?_⟩
  ·(refine @ab _ ?_;refine ao @eh ?_)
   refine⟨fun hap=>⟨((i+j)/2+1,j),⟨by simp only;omega,h2,fun x c hx hc=>?_,h4⟩,by simp only;omega,by rw[ba (by omega) (by omega)];rfl,rfl⟩,fun hap=>⟨(i,(i+j)/2),⟨by simp only;omega,by simp only;omega,h3,fun x c hx hc=>?_⟩,by simp only;omega,rfl,rfl⟩⟩
   ·simp only at hx
    exact hl x ((i+j)/2) c a (by omega) hc ha hap
   ·simp only at hx
    refine Bool.eq_false_iff.2 fun hc'=>?_
    rw[hl ((i+j)/2) x a c hx ha hc hc']at hap;cases hap
  ·have hij:i=j:=by omega
   subst hij
   have hi:bk l key=i:=qs h2 h3 fun c hc=>h4 i c (Nat.le_refl _) hc
   refine⟨fun hlt=>⟨hlt,fun a ha=>⟨fun he=>Wk.bN (.cons (.eq ?_) (.cons (.eq ?_) .nil)),fun he=>⟨hlt,fun c hc=>aq (Wl w0 c.key S) ?_⟩⟩⟩,fun hn=>Wk.bN (.cons (.eq ?_) (.cons (.eq ?_) .nil))⟩
   ·rw[hi]
   ·unfold dE;rw[hi,ha];simp only[he]
   ·(refine @ab _ ?_;refine au ?_)
    unfold dE;rw[hi,ha]
    simp only[he]
    exact Wk.bN (.cons (.refl _) (.cons (.refl _) .nil))
   ·rw[hi]
   ·unfold dE;rw[hi,List.getElem?_eq_none (by omega)]
def dK(l:List C):List DV:=l.map fun c=>dT (ay c)
@[go_sem] theorem iP (l:List C):(dK l).length=l.length:=by unfold dK;rw[List.length_map]
@[go_sem] theorem Yg (l:List C) (i:Nat):(dK l).take i=dK (l.take i):=by unfold dK;rw[List.map_take]
@[go_sem] theorem Yq (l:List C) (i:Nat):(dK l).drop i=dK (l.drop i):=by unfold dK;rw[List.map_drop]
@[go_sem] theorem Z0 (l:List C) (i:Nat) (F:DV→Prop):Ip (dK l) i F=∀c,l[i]? =some c→F (eT (ay c)):=by
 unfold dK
 rw[zx]
 exact propext ⟨fun h c hc=>by have:=(h c hc).2;rwa [j6]at this,fun h c hc=>⟨by rw[j6];rfl,by rw[j6];exact h c hc⟩⟩
@[go_sem] theorem ZP (l:List C) (i:Nat) (F:DV→Prop):BX (dK l) i F=(i<l.length∧∀c,l[i]? =some c→F (eT (ay c))):=by
 unfold dK
 rw[AE]
 exact propext ⟨fun h=>⟨h.1,fun c hc=>by have:=(h.2 c hc).2;rwa [j6]at this⟩,fun h=>⟨h.1,fun c hc=>⟨by rw[j6];rfl,by rw[j6];exact h.2 c hc⟩⟩⟩
theorem oJ(l m:List C):dK (l++m)=dK l++dK m:=by unfold dK;rw[List.map_append]
def yZ(p:Int)(l:List C):DV:= .agg [dI p,dB false,.sl 1 false (l.map fun c=>dS c.key),.sl 2 false [],.sl 5 false (dK l)]
theorem eF{n:N}(hl:n.leaf=false)(h:∀c,c∈n.l→∃k,c.kid=[k]):eT n=yZ n.ak n.l:=by
 unfold eT yZ aI
 rw[hl]
 simp only[Bool.false_eq_true,if_false,List.map_nil,Bj h,List.map_map]
 rfl
theorem bT{n:N}(hl:n.leaf=true):eT n= .agg [dI n.ak,dB true,.sl 1 false (n.l.map fun c=>dS c.key),.sl 2 false (n.l.map fM),.sl 5 false []]:=by
 unfold eT aI
 rw[hl];rfl
theorem Fk(p:Int)(l:List C):Wk (.agg [dI p,dB true,.sl 1 false (l.map fun c=>dS c.key),.sl 2 false (l.map fM),.sl 0 true []]) (eT (.mk p true l)):=by
 rw[bT rfl]
 exact .agg (.cons (.refl _) (.cons (.refl _) (.cons (.refl _) (.cons (.refl _) (.cons (.nil _ _ _) .nil)))))
theorem I0(p:Int)(l:List C)(h:∀c,c∈l→∃k,c.kid=[k]):Wk (.agg [dI p,dB false,.sl 1 false (l.map fun c=>dS c.key),.sl 0 true [],.sl 5 false (dK l)]) (eT (.mk p false l)):=by
 rw[eF (n:= .mk p false l) rfl h]
 exact .agg (.cons (.refl _) (.cons (.refl _) (.cons (.refl _) (.cons (.nil _ _ _) (.cons (.refl _) .nil)))))
theorem wQ{l:List C}{a:C}(h:l[0]? =some a):keyOf l=a.key:=by
 cases l with
 |nil=>cases h
 |cons b l=>cases h;rfl
theorem Bm(key:ByteArray)(l:List C):(l.map fun c=>dS c.key).set 0 (dS key)=(bG key l).map fun c=>dS c.key:=by cases l <;>rfl
theorem AZ{key:ByteArray}{l:List C}(h:∀c,c∈l→∃k,c.kid=[k]):∀c,c∈bG key l→∃k,c.kid=[k]:=by
 cases l with
 |nil=>exact h
 |cons b l=>
  intro c hc
  rcases List.mem_cons.1 hc with rfl|hc
  ·exact h b List.mem_cons_self
  ·exact h c (List.mem_cons_of_mem _ hc)
theorem Md(key:ByteArray)(l:List C):dK (bG key l)=dK l:=by cases l <;>rfl
theorem Tk(p:Int)(l:List C)(h:∀c,c∈l→∃k,c.kid=[k]):Wk (.agg [dI p,dB false,.sl 1 false ((l.map fun c=>dS c.key).set 0 (.v (.string {data:= #[]}))),.sl 0 true [],.sl 5 false (dK l)]) (eT (.mk p false (bG aZ l))):=by
 have e:DV.v (Value.string {data:= #[]})=dS aZ:=rfl
 rw[e,Bm,←Md aZ]
 exact I0 p _ (AZ h)
theorem VF(w0:W0)(n:N)(i:Nat)(S:St)(hn:n.leaf=false→∀c,c∈n.l→∃k,c.kid=[k])(hi:0<i)(hi2:i<n.l.length)(h0:n.l.length≤524288):
 aa Tryz.prog w0 224 [eT n,dI i] S (fun d S'=>d= .bN [eT (.mk 0 n.leaf (n.l.take i)),eT (.mk 0 n.leaf (if n.leaf then n.l.drop i else bG aZ (n.l.drop i))),dS (keyOf (n.l.drop i))]∧S'=S):=by
 cases hl:n.leaf with
 |true=>
  rw[bT hl]
  refine aY [1,8] mx Tryz.func224 rfl rfl (by kernel_rfl) ?_;(refine @ab _ ?_;refine ao @Tryz.ntmps224 ?_)
  intro b b1 b2
  refine Y.mn [8] [] [0,3,1,2,4,5,6,7,8,9] mx (by kernel_rfl) ?_
  (refine @ab _ ?_;refine au ?_)
  intro b3 b4
  refine⟨by omega,aT (yS w0 ((n.l.take i).map fun c=>dS c.key) _ (by rw[List.length_map,List.length_take];omega)) ?_⟩
  (refine @ab _ ?_;refine au ?_)
  refine⟨by omega,aT (yS w0 ((n.l.drop i).map fun c=>dS c.key) _ (by rw[List.length_map,List.length_drop];omega)) ?_⟩
  (refine @ab _ ?_;refine au ?_)
  refine⟨by omega,fun a ha=>⟨by omega,aT (EV w0 ((n.l.take i).map fM) _ (by rw[List.length_map,List.length_take];omega)) ?_⟩⟩
  (refine @ab _ ?_;refine au ?_)
  refine⟨by omega,aT (EV w0 ((n.l.drop i).map fM) _ (by rw[List.length_map,List.length_drop];omega)) ?_⟩
  (refine @ab _ ?_;refine au ?_)
  refine Y.T7 [b1.n,b2.n] [3,4] [] [2,0,1,3,4,5] mx (by kernel_rfl) ?_
  (refine @ab _ ?_;refine au ?_)
  rw[wQ ha]
  exact .bN (.cons (Fk 0 _) (.cons (Fk 0 _) (.cons (.refl _) .nil)))
 |false=>
  rw[eF hl (hn hl)]
  unfold yZ
  refine aY [1,2,8] mx Tryz.func224 rfl rfl (by kernel_rfl) ?_;(refine @ab _ ?_;refine ao @Tryz.ntmps224 ?_)
  intro b b1 b2
  refine Y.mn [8] [] [0,3,1,2,4,5,6,7,8,9] mx (by kernel_rfl) ?_
  (refine @ab _ ?_;refine au ?_)
  intro b3 b4
  refine Y.mn [4,9] [] [0,2,5,7,1,3,6,8,4,10,9,11,12,13] mx (by kernel_rfl) ?_
  (refine @ab _ ?_;refine au ?_)
  refine⟨by omega,by omega,bB (uA w0 ((n.l.take i).map fun c=>dS c.key) _ (by rw[List.length_map,List.length_take];omega)) ?_⟩
  rintro d S' ⟨l1,rfl,rfl⟩
  (refine @ab _ ?_;refine au ?_)
  refine bB (uA w0 ((n.l.drop i).map fun c=>dS c.key) _ (by rw[List.length_map,List.length_drop];omega)) ?_
  rintro d S' ⟨l2,rfl,rfl⟩
  (refine @ab _ ?_;refine au ?_)
  refine⟨by omega,by omega,fun a ha=>⟨by omega,aT (Fg w0 (dK (n.l.take i)) _ (by rw[iP,List.length_take];omega)) ?_⟩⟩
  (refine @ab _ ?_;refine au ?_)
  refine⟨by omega,aT (Fg w0 (dK (n.l.drop i)) _ (by rw[iP,List.length_drop];omega)) ?_⟩
  (refine @ab _ ?_;refine au ?_)
  refine⟨by omega,by omega,fun a' ha'=>?_⟩
  refine Y.T7 [b1.n,b2.n] [3,4] [] [2,0,1,3,4,5] mx (by kernel_rfl) ?_
  (refine @ab _ ?_;refine au ?_)
  rw[wQ ha]
  exact .bN (.cons (I0 0 _ fun c hc=>hn hl c (List.mem_of_mem_take hc)) (.cons (Tk 0 _ fun c hc=>hn hl c (List.mem_of_mem_drop hc)) (.cons (.refl _) .nil)))
theorem sR{p:Int}{l:List C}{K D:List DV}(h:∀c,c∈l→∃k,c.kid=[k])(hK:K=l.map fun c=>dS c.key)(hD:D=dK l):Wk (.agg [dI p,dB false,.sl 1 false K,.sl 0 true [],.sl 5 false D]) (eT (.mk p false l)):=by
 subst hK;subst hD;exact I0 p l h
theorem HI{l:List C}{k:Nat}{c:C}(h:l[k]? =some c)(q:ByteArray)(a b:N):((l.take (k+1)).map fun c=>dS c.key)++[dS q]++((l.drop (k+1)).map fun c=>dS c.key)=(aE l k [af c.key a,af q b]).map fun c=>dS c.key:=by
 unfold aE
 rw[List.map_append,List.map_append,List.take_add_one,h]
 simp[af,C.key]
theorem GJ(l:List C)(k:Nat)(x y:ByteArray)(a b:N):dK (l.take k)++[eT a,eT b]++dK (l.drop (k+1))=dK (aE l k [af x a,af y b]):=by
 unfold aE
 rw[oJ,oJ,←j6,←j6]
 rfl
theorem Cz{l:List C}{k:Nat}{c:C}(h:l[k]? =some c)(a:N):(l.map fun c=>dS c.key)=(aE l k [af c.key a]).map fun c=>dS c.key:=by
 obtain⟨hi,rfl⟩:=List.getElem?_eq_some_iff.1 h
 have e:l.map (fun c=>dS c.key)=(l.take k++l[k]::l.drop (k+1)).map fun c=>dS c.key:=by rw[←List.drop_eq_getElem_cons hi,List.take_append_drop]
 unfold aE
 rw[e,List.map_append,List.map_append,List.map_append,List.map_cons,List.append_assoc]
 rfl
theorem Ew(l:List C)(k:Nat)(x:ByteArray)(a:N):dK (l.take k)++[eT a]++dK (l.drop (k+1))=dK (aE l k [af x a]):=by
 unfold aE
 rw[oJ,oJ,←j6]
 rfl
theorem pZ{l m:List C}{k:Nat}(h:∀c,c∈l→∃k,c.kid=[k])(hm:∀c,c∈m→∃k,c.kid=[k]):∀c,c∈aE l k m→∃k,c.kid=[k]:=fun c hc=>by
 rcases fY hc with hc|hc
 ·exact h c hc
 ·exact hm c hc
theorem C9(x y:ByteArray)(a b:N):∀c,c∈[af x a,af y b]→∃k,c.kid=[k]:=fun c hc=>by
 simp only[List.mem_cons,List.not_mem_nil,or_false]at hc
 rcases hc with rfl|rfl
 ·exact⟨a,rfl⟩
 ·exact⟨b,rfl⟩
theorem oG(x:ByteArray)(a:N):∀c,c∈[af x a]→∃k,c.kid=[k]:=fun c hc=>by
 simp only[List.mem_singleton]at hc
 subst hc;exact⟨a,rfl⟩
theorem iN{d:Nat}{n:N}(h:Nd d n):n.leaf=false→∀c,c∈n.l→∃k,c.kid=[k]:=by
 cases d with
 |zero=>intro hl;rw[h.1]at hl;cases hl
 |succ d=>intro _ c hc;obtain⟨_,k,hk,_⟩:=h.2.2 c hc;exact⟨k,hk⟩
theorem Jg(w0:W0)(d:Nat)(n kid:N)(c:C)(k:Nat)(S:St)(hn:Nd (d+1) n)(hlen:n.l.length≤262144)(hc:n.l[k]? =some c)(hk:c.kid=[kid])(hkl:kid.l.length≤524288):
 aa Tryz.prog w0 173 [eT n,dI k] S (fun d S'=>d= .bN [eT (aV n kid k c.key).1,dB (aV n kid k c.key).2]∧S'=S):=by
 have hone:=iN hn hn.1
 have hlt:=(List.getElem?_eq_some_iff.1 hc).1
 obtain⟨kid',hk',hkn⟩:∃k',c.kid=[k']∧Nd d k':=(hn.2.2 c (List.mem_of_getElem? hc)).2
 rw[hk]at hk';cases hk'
 have hsm:=tw hkn
 generalize hp:aV n kid k c.key=p
 rw[eF hn.1 hone]
 refine aY [] mx Tryz.func173 rfl rfl (by kernel_rfl) ?_;(refine @ab _ ?_;refine ao @Tryz.ntmps173 ?_)
 unfold yZ
 (refine @ab _ ?_;refine au ?_)
 intro b b1
 refine⟨hlt,fun a ha=>?_⟩
 cases bq hc ha
 rw[bl hk]
 refine aq (qn w0 kid _ hsm (by omega)) ?_
 (refine @ab _ ?_;refine au ?_)
 refine aq (YG w0 _ _ (k8 kid hsm (by omega))) ?_
 (refine @ab _ ?_;refine au ?_)
 refine⟨fun h0=>?_,fun h0=>?_⟩
 ·have e:p=(n,false):=by rw[←hp];unfold aV;simp only;rw[if_pos (by omega)]
  subst e
  exact .bN (.cons (.eq (eF hn.1 hone).symm) (.cons (.refl _) .nil))
 ·have hat:=LL (ae kid) (by omega)
  have hsl:(ae kid).length=kid.l.length:=by unfold ae;rw[List.length_map]
  obtain⟨A,B,q,e,hpart⟩:∃A B q,p=(.mk 0 false (aE n.l k [af c.key A,af q B]),true)∧∀S,aa Tryz.prog w0 224 [eT kid,dI (atR (ae kid))] S (fun d S'=>d= .bN [eT A,eT B,dS q]∧S'=S):=
   ⟨_,_,_,by rw[←hp];unfold aV;simp only;rw[if_neg (by omega)],fun S=>VF w0 kid (atR (ae kid)) S (iN hkn) (by omega) (by omega) hkl⟩
  refine⟨hlt,fun a ha=>?_⟩
  cases bq hc ha
  rw[bl hk]
  refine aq (hpart _) ?_
  (refine @ab _ ?_;refine au ?_)
  intro b2 b3
  have ew:IntKind.i64.wrap ((k:Int)+1)=((k+1:Nat):Int):=aW k (by omega)
  rw[ew]
  refine aT (FX w0 (n.l.map fun c=>dS c.key) [dS q] (k+1) 0 _ _ (by rw[List.length_map];omega) (by rw[List.length_map];omega) (by simp)) ?_
  (refine @ab _ ?_;refine au ?_)
  refine aT (swapT w0 (dK n.l) [eT A,eT B] k 1 _ _ (by rw[iP];omega) (by rw[iP];omega) (by simp)) ?_
  (refine @ab _ ?_;refine au ?_)
  subst e
  exact .bN (.cons (sR (pZ hone (C9 _ _ _ _)) (HI hc _ A B) (GJ _ _ _ _ _ _)) (.cons (.refl _) .nil))
theorem XI(w0:W0)(d:Nat)(a b:N)(key:ByteArray)(S:St)(ha:Nd d a)(hb:Nd d b)(h0:a.l.length≤262144)(h1:b.l.length≤262144)(hbn:b.leaf=false→b.l≠[]):
 aa Tryz.prog w0 176 [eT a,eT b,dS key] S (fun d S'=>d=eT (bM a b key)∧S'=S):=by
 have hle:=lM ha hb
 generalize hp:bM a b key=p
 cases hl:a.leaf with
 |true=>
  rw[hl]at hle
  rw[bT hl,bT hle.symm]
  refine aY [] mx Tryz.func176 rfl rfl (by kernel_rfl) ?_;(refine @ab _ ?_;refine ao @Tryz.ntmps176 ?_)
  intro b1 b2 b3
  refine aq (yS w0 (b.l.map fun c=>dS c.key) _ (by rw[List.length_map];omega)) ?_
  (refine @ab _ ?_;refine au ?_)
  refine aT (yv w0 [a.l.map (fun c=>dS c.key),b.l.map fun c=>dS c.key] _ (by simp) (by simp[fl];omega)) ?_ ⟨.full _ _ _,trivial⟩
  (refine @ab _ ?_;refine au ?_)
  refine aT (yB w0 [a.l.map fM,b.l.map fM] _ (by simp) (by simp[fl];omega)) ?_ ⟨.full _ _ _,trivial⟩
  (refine @ab _ ?_;refine au ?_)
  refine aT (yA w0 [[],[]] _ (by simp) (by simp[fl])) ?_ ⟨.full _ _ _,trivial⟩
  (refine @ab _ ?_;refine au ?_)
  have e:eT p= .agg [dI 0,dB true,.sl 1 false (fl [a.l.map fun c=>dS c.key,b.l.map fun c=>dS c.key]),.sl 2 false (fl [a.l.map fM,b.l.map fM]),.sl 5 false (fl [[],[]])]:=by
   rw[←hp];unfold bM;rw[if_pos hle.symm,hl,bT rfl];simp[fl,N.l,N.ak]
  exact .eq e.symm
 |false=>
  rw[hl]at hle
  rw[eF hl (iN ha hl),eF hle.symm (iN hb hle.symm)]
  unfold yZ
  refine aY [4] mx Tryz.func176 rfl rfl (by kernel_rfl) ?_;(refine @ab _ ?_;refine ao @Tryz.ntmps176 ?_)
  intro b1 b2 b3
  refine bB (uA w0 (b.l.map fun c=>dS c.key) _ (by rw[List.length_map];omega)) ?_
  rintro d S' ⟨l1,rfl,rfl⟩
  (refine @ab _ ?_;refine au ?_)
  have hpos:=List.length_pos_iff.2 (hbn hle.symm)
  refine⟨by omega,hpos,fun c hc=>?_⟩
  refine fQ [] [7] mx (by kernel_rfl) ?_
  (refine @ab _ ?_;refine au ?_)
  refine aT (yv w0 [a.l.map (fun c=>dS c.key),(b.l.map fun c=>dS c.key).set 0 (dS key)] _ (by simp) (by simp[fl];omega)) ?_ ⟨.full _ _ _,trivial⟩
  (refine @ab _ ?_;refine au ?_)
  refine aT (yB w0 [[],[]] _ (by simp) (by simp[fl])) ?_ ⟨.full _ _ _,trivial⟩
  (refine @ab _ ?_;refine au ?_)
  refine aT (yA w0 [dK a.l,dK b.l] _ (by simp) (by simp[fl,iP];omega)) ?_ ⟨.full _ _ _,trivial⟩
  (refine @ab _ ?_;refine au ?_)
  have e:eT p= .agg [dI 0,dB false,.sl 1 false (fl [a.l.map fun c=>dS c.key,(b.l.map fun c=>dS c.key).set 0 (dS key)]),.sl 2 false (fl [[],[]]),.sl 5 false (fl [dK a.l,dK b.l])]:=by
   rw[←hp];unfold bM;rw[if_neg (by rw[←hle];simp),hl,Bm,←Md key b.l,eF rfl]
   ·unfold yZ;simp[fl,N.l,N.ak,oJ]
   ·intro c hc
    rcases List.mem_append.1 hc with hc|hc
    ·exact iN ha hl c hc
    ·exact AZ (iN hb hle.symm) c hc
  exact .eq e.symm
theorem tp{l m:List C}{j:Nat}(h:j+1<l.length):aE (aE l (j+1) []) j m=l.take j++m++l.drop (j+1+1):=by
 unfold aE
 have e1:(l.take (j+1)).length=j+1:=by rw[List.length_take];omega
 rw[List.append_nil,List.take_append_of_le_length (by omega),List.take_take,show min j (j+1)=j by omega,List.drop_append,e1,List.drop_eq_nil_of_le (by omega)]
 simp
theorem F9{l:List C}{j:Nat}{c:C}(hj:j+1<l.length)(h:l[j]? =some c)(b:N):((l.take (j+1)).map fun c=>dS c.key)++((l.drop (j+1+1)).map fun c=>dS c.key)=(aE (aE l (j+1) []) j [af c.key b]).map fun c=>dS c.key:=by
 rw[tp hj,List.map_append,List.map_append,List.take_add_one,h]
 simp[af,C.key]
theorem GI{l:List C}{j:Nat}(hj:j+1<l.length)(x:ByteArray)(b:N):dK (l.take j)++[eT b]++dK (l.drop (j+2))=dK (aE (aE l (j+1) []) j [af x b]):=by
 rw[tp hj,oJ,oJ,←j6]
 rfl
theorem NB(w0:W0)(d:Nat)(n:N)(k:Nat)(S:St)(hn:Nd (d+1) n)(ht:bd n≤131072)(hk:k<n.l.length):aa Tryz.prog w0 126 [eT n,dI k] S (fun e S'=>e=eT (cC n k)∧S'=S):=by
 have hlen:=bj n
 have hone:=iN hn hn.1
 obtain⟨c,kid,hc,e1,e2,hkid,hkey,hnd⟩:=cb hn hk
 have hkt:=dH (List.mem_of_getElem? hc) hkid
 have hkl:=bj kid
 have hsm:=tw hnd
 have hm0:cC n k=cC n k:=rfl
 conv at hm0=>rhs;unfold cC
 simp only[e1,e2]at hm0
 generalize hp:aV n kid k c.key=p at hm0
 generalize cC n k=m at hm0
 rw[eF hn.1 hone]
 refine aY [7,8] mx Tryz.func126 rfl rfl (by kernel_rfl) ?_;(refine @ab _ ?_;refine ao @Tryz.ntmps126 ?_)
 unfold yZ
 (refine @ab _ ?_;refine au ?_)
 intro b b1
 refine aq (Jg w0 d n kid c k _ hn (by omega) hc hkid (by omega)) ?_ ⟨.eq (eF hn.1 hone).symm,.refl _,trivial⟩
 rw[hp]
 (refine @ab _ ?_;refine au ?_)
 intro b2
 refine⟨fun h2=>?_,fun h2=>⟨hk,fun a ha=>?_⟩⟩
 ·rw[if_pos h2]at hm0
  subst hm0
  (refine @ab _ ?_;exact aK)
 ·cases bq hc ha
  rw[if_neg (by rw[h2];simp)]at hm0
  rw[e2]
  refine aq (qn w0 kid _ hsm (by omega)) ?_
  (refine @ab _ ?_;refine au ?_)
  refine aq (Tz w0 _ _ (k8 kid hsm (by omega))) ?_
  (refine @ab _ ?_;refine au ?_)
  refine⟨fun hlo=>?_,fun hlo=>⟨fun hl2=>?_,fun hl2=>?_⟩⟩
  ·rw[if_pos (by rw[hlo];rfl)]at hm0
   subst hm0
   exact .eq (eF hn.1 hone).symm
  ·rw[if_pos (by rw[hlo,decide_eq_true (by omega)];rfl)]at hm0
   subst hm0
   exact .eq (eF hn.1 hone).symm
  ·rw[if_neg (by rw[hlo,decide_eq_false (by omega)];simp)]at hm0
   refine aq (nbP w0 n.l.length k _ (by omega) (by omega) (by omega) (by omega)) ?_
   obtain⟨j,hj,hnb,hj1⟩:∃j:Nat,(if k+1<n.l.length then k else k-1)=j∧(if Xm (n.l.length:Int) k<(k:Int)then Xm (n.l.length:Int) k else(k:Int))=(j:Int)∧j+1<n.l.length:=by
    refine⟨_,rfl,?_,?_⟩
    ·unfold Xm
     split <;>split <;>split <;>omega
    ·split <;>omega
   rw[hj]at hm0
   (refine @ab _ ?_;refine ao @hnb ?_)
   obtain⟨c0,k0,hc0,f1,f2,hk0,hkey0,hnd0⟩:=cb hn (k:=j) (by omega)
   obtain⟨c1,k1,hc1,g1,g2,hk1,hkey1,hnd1⟩:=cb hn hj1
   simp only[f1,f2,g1,g2]at hm0
   have ht0:=dH (List.mem_of_getElem? hc0) hk0
   have ht1:=dH (List.mem_of_getElem? hc1) hk1
   have hl0:=bj k0
   have hl1:=bj k1
   have ew:IntKind.i64.wrap ((j:Int)+1)=((j+1:Nat):Int):=aW j (by omega)
   refine Y.mn [] [] [0,2,5,7,8,11,13,14,1,3,4,6,9,10,12,15,16,17,18,19] mx (by kernel_rfl) ?_
   (refine @ab _ ?_;refine ao @ew ?_)
   refine⟨by omega,fun x hx=>⟨hj1,fun y hy=>⟨hj1,fun z hz=>?_⟩⟩⟩
   cases bq hc0 hx;cases bq hc1 hy;cases bq hc1 hz
   rw[f2,g2]
   have hbn:k1.leaf=false→k1.l≠[]:=fun hl=>by
    cases d with
    |zero=>rw[hnd1.1]at hl;cases hl
    |succ d=>exact hnd1.2.1
   refine Y.uO (fun T hT=>XI w0 d k0 k1 c1.key T hnd0 hnd1 (by omega) (by omega) hbn) ?_
   have hbo:=xj hnd0 hnd1 hkey1
   have hbl:(bM k0 k1 c1.key).l.length≤524288:=by
    unfold bM
    simp only[N.eB,List.length_append]
    split
    ·omega
    ·rw[Cp];omega
   generalize bM k0 k1 c1.key=bo at*
   have hw1:Nd (d+1) (.mk 0 false (aE n.l (j+1) [])):=il hn hj1 0 (.inl (by omega)) (fun c hc=>by cases hc)
   have hwl:=cG (m:=[]) hj1
   simp only[List.length_nil]at hwl
   have hw2:=il hw1 (i:=j) (by simp only[N.eB];omega) 0 (m:=[af c0.key bo]) (.inr (by simp)) fun c hc=>by
    rw[List.mem_singleton]at hc;subst hc;exact dG hkey0 hbo
   have hwc:(aE (aE n.l (j+1) []) j [af c0.key bo])[j]? =some (af c0.key bo):=vg (by omega)
   have hwn:=cG (l:=aE n.l (j+1) []) (i:=j) (m:=[af c0.key bo]) (by omega)
   simp only[List.length_cons,List.length_nil]at hwn
   simp only[N.eB]at hw2
   have hwk:Wk (.agg [dI 0,dB false,.sl 1 false (((n.l.take (j+1)).map fun c=>dS c.key)++((n.l.drop (j+1+1)).map fun c=>dS c.key)),.sl 0 true [],.sl 5 false (dK (n.l.take j)++[eT bo]++dK (n.l.drop (j+2)))]) (eT (.mk 0 false (aE (aE n.l (j+1) []) j [af c0.key bo]))):=
    sR (pZ (pZ hone (fun c hc=>by cases hc)) (oG _ _)) (F9 hj1 hc0 bo) (GI hj1 c0.key bo)
   have hsp:∀T,aa Tryz.prog w0 173 [eT (.mk 0 false (aE (aE n.l (j+1) []) j [af c0.key bo])),dI j] T (fun d S'=>d= .bN [eT m,dB (aV (.mk 0 false (aE (aE n.l (j+1) []) j [af c0.key bo])) bo j c0.key).2]∧S'=T):=fun T=>by
    rw[hm0]
    exact Jg w0 d (.mk 0 false (aE (aE n.l (j+1) []) j [af c0.key bo])) bo (af c0.key bo) j T hw2 (by simp only[N.eB];omega) hwc rfl hbl
   generalize (aV (.mk 0 false (aE (aE n.l (j+1) []) j [af c0.key bo])) bo j c0.key).2=pb at hsp
   generalize N.mk 0 false (aE (aE n.l (j+1) []) j [af c0.key bo])=M at hwk hsp
   clear hm0 hw2 hwc hwn hwl hw1
   (refine @ab _ ?_;refine au ?_)
   intro b3
   refine Y.mn [] [] [0,2,3,5,7,12,1,4,6,8,9,10,11,13,14,15,16,17,18,19] mx (by kernel_rfl) ?_
   (refine @ab _ ?_;refine ao @ew ?_)
   refine Y.uO (fun T hT=>FX w0 (n.l.map fun c=>dS c.key) [] (j+1) 1 false T (by rw[List.length_map];omega) (by rw[List.length_map];omega) (by simp)) ?_ ⟨.refl _,.refl _,.refl _,.nil _ _ _,trivial⟩
   (refine @ab _ ?_;refine au ?_)
   refine Y.uO (fun T hT=>swapT w0 (dK n.l) [eT bo] j 2 true T (by rw[iP];omega) (by rw[iP];omega) (by simp)) ?_
   (refine @ab _ ?_;refine au ?_)
   refine Y.uO (fun T hT=>hsp T) ?_ ⟨?_,.refl _,trivial⟩
   ·(refine @ab _ ?_;exact aK)
   ·rw[List.map_append];exact hwk
theorem ME{n:N}{x:DV}(h:eT n=x):Wk (.agg [dI 0,dB false,.sl 1 true [.v (.string {data:= #[]})],.sl 0 true [],.sl 5 true [x]]) (yZ 0 [af aZ n]):=by
 have e:yZ 0 [af aZ n]= .agg [dI 0,dB false,.sl 1 false [.v (.string {data:= #[]})],.sl 2 false [],.sl 5 false [x]]:=by
  rw[←h,←j6];rfl
 rw[e]
 exact .agg (.cons (.refl _) (.cons (.refl _) (.cons (.full _ _ _) (.cons (.nil _ _ _) (.cons (.full _ _ _) .nil)))))
theorem V4(w0:W0):∀(d:Nat) (n:N) (S:St),Nd d n→bd n≤131000→aa Tryz.prog w0 115 [eT n] S (fun e S'=>e=eT (jT n)∧S'=S):=by
 have fin:∀(d:Nat) (n:N),Nd d n→bd n≤131000→atR (ae n)≠0→∀T,aa Tryz.prog w0 126 [yZ 0 [af aZ n],dI 0] T (fun e S'=>e=eT (cC (.mk 0 false [af aZ n]) 0)∧S'=T):=fun d n hn ht h0 T=>by
  have hM:Nd (d+1) (.mk 0 false [af aZ n]):=⟨rfl,List.cons_ne_nil _ _,fun c hc=>by
   rw[N.eB,List.mem_singleton]at hc;subst hc;exact dG (by rw[bC];omega) hn⟩
  have:=NB w0 d (.mk 0 false [af aZ n]) 0 T hM (by rw[kf,bh,lI,jz];omega) (Nat.lt_add_one 0)
  rw[eF (n:= .mk 0 false [af aZ n]) rfl (oG _ _)]at this
  exact this
 intro d
 induction d with
 |zero=>
  intro n S hn ht
  have hlen:=bj n
  have hsm:=tw hn
  have e1:=cW n (.inl hn.1)
  generalize jT n=m at e1
  have hf:=fin 0 n hn ht
  rw[bT hn.1]at*
  refine aY [] mx Tryz.func115 rfl rfl (by kernel_rfl) ?_;(refine @ab _ ?_;refine ao @Tryz.ntmps115 ?_)
  intro b b1
  refine aq (qn w0 n _ hsm (by omega)) ?_ ⟨.eq (bT hn.1).symm,trivial⟩
  (refine @ab _ ?_;refine au ?_)
  refine aq (YG w0 _ _ (k8 n hsm (by omega))) ?_
  (refine @ab _ ?_;refine au ?_)
  refine⟨fun h0=>?_,fun h0=>?_⟩
  ·rw[if_pos (by omega)]at e1
   subst e1
   exact .eq (bT hn.1).symm
  ·rw[if_neg (by omega)]at e1
   subst e1
   refine aq (hf (by omega) _) ?_ ⟨ME (bT hn.1),.refl _,trivial⟩
   (refine @ab _ ?_;exact aK)
 |succ d ih=>
  intro n S hn ht
  have hlen:=bj n
  have hsm:=tw hn
  have hone:=iN hn hn.1
  generalize hm:jT n=m
  have hf:=fin (d+1) n hn ht
  rw[eF hn.1 hone]at*
  refine aY [] mx Tryz.func115 rfl rfl (by kernel_rfl) ?_;(refine @ab _ ?_;refine ao @Tryz.ntmps115 ?_)
  unfold yZ
  (refine @ab _ ?_;refine au ?_)
  intro b b1
  refine⟨fun h1=>⟨by omega,fun c hc=>?_⟩,fun h1=>?_⟩
  ·obtain⟨c',kid,hc',_,e2,hkid,_,hnd⟩:=cb hn (k:=0) (by omega)
   cases bq hc hc'
   have hl:n.l=[c]:=by
    cases h:n.l with
    |nil=>rw[h]at hc;cases hc
    |cons a r=>
     rw[h]at hc h1
     cases r with
     |nil=>cases hc;rfl
     |cons _ _=>simp at h1;omega
   have hkt:=dH (List.mem_of_getElem? hc) hkid
   rw[e2]
   refine aq (ih kid _ hnd (by omega)) ?_
   rw[kZ n hn.1 hl hkid]at hm
   rw[hm]
   (refine @ab _ ?_;exact aK)
  ·have e1:=cW n (.inr (by omega))
   rw[hm]at e1
   refine aq (qn w0 n _ hsm (by omega)) ?_ ⟨.eq (eF hn.1 hone).symm,trivial⟩
   (refine @ab _ ?_;refine au ?_)
   refine aq (YG w0 _ _ (k8 n hsm (by omega))) ?_
   (refine @ab _ ?_;refine au ?_)
   refine⟨fun h0=>?_,fun h0=>?_⟩
   ·rw[if_pos (by omega)]at e1
    subst e1
    exact .eq (eF hn.1 hone).symm
   ·rw[if_neg (by omega)]at e1
    subst e1
    refine aq (hf (by omega) _) ?_ ⟨ME (eF hn.1 hone),.refl _,trivial⟩
    (refine @ab _ ?_;exact aK)
theorem L5{l:List C}(h:dj l)(key:ByteArray):(dE l key=false→l.find? (fun c=>fh c.key key)=none)∧∀c,l[bk l key]? =some c→dE l key=true→l.find? (fun c=>fh c.key key)=some c:=by
 obtain⟨A,B,hl,hA,hB⟩:=qw key h
 have hi:bk l key=A.length:=by rw[hl];exact pf hA hB
 have hg:l[bk l key]? =B[0]? :=by rw[hi,hl,List.getElem?_append_right (Nat.le_refl _),Nat.sub_self]
 have f1:A.find? (fun c=>fh c.key key)=none:=List.find?_eq_none.2 fun x hx=>by
  rw[dc.2 (bP (hA x hx))];simp
 have e:l.find? (fun c=>fh c.key key)=B.find? fun c=>fh c.key key:=by rw[hl,List.find?_append,f1];rfl
 rw[e]
 unfold dE
 rw[hg]
 cases B with
 |nil=>exact⟨fun _=>rfl,fun c hc=>by cases hc⟩
 |cons b B=>
  simp only[List.getElem?_cons_zero]
  refine⟨fun hn=>?_,fun c hc hy=>?_⟩
  ·rw[List.find?_cons,hn]
   refine List.find?_eq_none.2 fun x hx=>?_
   have hr:dj (b::B):=by rw[hl]at h;exact(List.pairwise_append.1 h).2.1
   have h1:cI b.key x.key=true:=(List.pairwise_cons.1 hr).1 x hx
   have h2:mq key b.key=true:=im.2 (hB b List.mem_cons_self)
   rw[dc.2 (bP (lY h2 h1)).symm];simp
  ·cases hc
   rw[List.find?_cons,hy]
theorem rB{l:List C}{key:ByteArray}(h:dE l key=true)(val:ByteArray):bk l key+1≤l.length∧cO l key val=l.take (bk l key)++[.mk key val [] []]++l.drop (bk l key+1):=by
 unfold dE at h
 unfold cO
 split at h
 ·rename_i c hc
  refine⟨(List.getElem?_eq_some_iff.1 hc).1,?_⟩
  simp only[hc,h,if_true];rfl
 ·cases h
theorem Cq{l:List C}{key:ByteArray}(h:dE l key=false)(val:ByteArray):cO l key val=l.take (bk l key)++[.mk key val [] []]++l.drop (bk l key+0):=by
 unfold dE at h
 unfold cO
 split at h
 ·rename_i c hc
  simp only[hc,h,Bool.false_eq_true,if_false];rfl
 ·rename_i hc
  simp only[hc];rfl
theorem LG(key val:ByteArray):Wk (.sl 2 true [.agg [dS val,.sl 0 true []]]) (.sl 2 true [fM (.mk key val [] [])]):= .sl ⟨.agg (.cons (.refl _) (.cons (.nil _ _ _) .nil)),trivial⟩
theorem YT(w0:W0)(key val:ByteArray)(hk:key.size≤16)(hv:val.size≤400):∀(d:Nat) (n:N) (S:St),Good d n→bd n+d+8≤131000→aa Tryz.prog w0 116 [eT n,dS key,dS val] S (fun e S'=>e=eT (ct key val n)∧S'=S):=by
 intro d
 induction d with
 |zero=>
  intro n S hg ht
  have hlen:=bj n
  rw[fV key val n hg.1,bT hg.1,bT rfl]
  refine aY [] mx Tryz.func116 rfl rfl (by kernel_rfl) ?_;(refine @ab _ ?_;refine ao @Tryz.ntmps116 ?_)
  intro b b1
  refine aq (Fc w0 n.l key _ (qD hg.2.1 key) (by omega)) ?_
  (refine @ab _ ?_;refine au ?_)
  refine⟨fun hy=>?_,fun hno=>?_⟩
  ·obtain⟨hi,hput⟩:=rB hy val
   refine aT (FX w0 (n.l.map fun c=>dS c.key) [dS key] (bk n.l key) 1 _ _ (by rw[List.length_map];omega) (by rw[List.length_map];omega) (by simp)) ?_
   (refine @ab _ ?_;refine au ?_)
   refine aT (RH w0 (n.l.map fM) [fM (.mk key val [] [])] (bk n.l key) 1 true _ (by rw[List.length_map];omega) (by rw[List.length_map];omega) (by simp)) ?_ ⟨.refl _,.refl _,.refl _,LG key val,trivial⟩
   (refine @ab _ ?_;refine au ?_)
   rw[hput]
   simp only[List.map_append,List.map_cons,List.map_nil]
   exact .agg (.cons (.refl _) (.cons (.refl _) (.cons (.refl _) (.cons (.refl _) (.cons (.nil _ _ _) .nil)))))
  ·have hi:=Lw n.l key
   refine aT (FX w0 (n.l.map fun c=>dS c.key) [dS key] (bk n.l key) 0 _ _ (by rw[List.length_map];omega) (by rw[List.length_map];omega) (by simp)) ?_
   (refine @ab _ ?_;refine au ?_)
   refine aT (RH w0 (n.l.map fM) [fM (.mk key val [] [])] (bk n.l key) 0 true _ (by rw[List.length_map];omega) (by rw[List.length_map];omega) (by simp)) ?_ ⟨.refl _,.refl _,.refl _,LG key val,trivial⟩
   (refine @ab _ ?_;refine au ?_)
   rw[Cq hno]
   simp only[List.map_append,List.map_cons,List.map_nil]
   exact .agg (.cons (.refl _) (.cons (.refl _) (.cons (.refl _) (.cons (.refl _) (.cons (.nil _ _ _) .nil)))))
 |succ d ih=>
  intro n S hg ht
  have hn:=aw hg
  have hlen:=bj n
  have hone:=iN hn hn.1
  have hlt:=gN hg.2.1 key
  obtain⟨c,kid,hc,e1,e2,hkid,hkey,hnd⟩:=cb hn (k:=fU n.l key) hlt
  obtain⟨-, -,kid',hkid',hgk, -⟩:=hg.2.2.cell c (List.mem_of_getElem? hc)
  rw[hkid]at hkid';cases hkid'
  have hkt:=dH (List.mem_of_getElem? hc) hkid
  have hw:=SH w0 n key
  rw[jZ key val n hg.1 hc hkid]
  have hpt:=sj hk hv hnd
  have hpn:=gJ hk hv hnd
  have ihk:=ih kid
  generalize ct key val kid=pk at hpt hpn ihk ⊢
  have hM:=il hn hlt 0 (m:=[af c.key pk]) (.inr (by simp)) fun c hc=>by
   rw[List.mem_singleton]at hc;subst hc;exact dG hkey hpn
  have hMt:bd (.mk 0 false (aE n.l (fU n.l key) [af c.key pk]))≤131072:=by
   have:=kT (m:=[af c.key pk]) hc
   rw[kf]
   rw[bh,lI,jz,cA hkid,←aH n]at this
   omega
  have hmend:=fun T=>NB w0 d _ (fU n.l key) T hM hMt (by rw[N.eB];have:=cG (m:=[af c.key pk]) hlt;simp at this;omega)
  have hwk:Wk (.agg [dI 0,dB false,.sl 1 false (n.l.map fun c=>dS c.key),.sl 0 true [],.sl 5 false (dK (n.l.take (fU n.l key))++[eT pk]++dK (n.l.drop (fU n.l key+1)))]) (eT (.mk 0 false (aE n.l (fU n.l key) [af c.key pk]))):=
   sR (pZ hone (oG _ _)) (Cz hc pk) (Ew n.l _ c.key pk)
  generalize cC (.mk 0 false (aE n.l (fU n.l key) [af c.key pk])) (fU n.l key)=m at hmend ⊢
  generalize N.mk 0 false (aE n.l (fU n.l key) [af c.key pk])=M at hmend hwk
  clear hM hMt
  rw[eF hn.1 hone]at hw ⊢
  refine aY [] mx Tryz.func116 rfl rfl (by kernel_rfl) ?_;(refine @ab _ ?_;refine ao @Tryz.ntmps116 ?_)
  unfold yZ
  (refine @ab _ ?_;refine au ?_)
  intro b b1
  refine aq (hw _ (by omega) hg.2.1) ?_
  (refine @ab _ ?_;refine au ?_)
  refine⟨hlt,fun x hx=>?_⟩
  cases bq hc hx
  rw[e2]
  refine aT (ihk _ hgk (by omega)) ?_
  (refine @ab _ ?_;refine au ?_)
  refine aT (swapT w0 (dK n.l) [eT pk] (fU n.l key) 1 true _ (by rw[iP];omega) (by rw[iP];omega) (by simp)) ?_
  (refine @ab _ ?_;refine au ?_)
  refine aT (hmend _) ?_ ⟨hwk,.refl _,trivial⟩
  (refine @ab _ ?_;exact aK)
theorem YQ(w0:W0)(key val:ByteArray)(hk:key.size≤16)(hv:val.size≤400)(d:Nat)(n:N)(S:St)(hg:Good d n)(ht:bd n+2*d+16≤131000):aa Tryz.prog w0 65 [eT n,dS key,dS val] S (fun e S'=>e=eT (ld key val n)∧S'=S):=by
 have h1:=YT w0 key val hk hv d n
 have h2:=sj hk hv (aw hg)
 have h3:=V4 w0 d (ct key val n)
 have h4:=gJ hk hv (aw hg)
 unfold ld
 generalize ct key val n=p at*
 generalize jT p=q at*
 refine aY [] mx Tryz.func65 rfl rfl (by kernel_rfl) ?_;(refine @ab _ ?_;refine ao @Tryz.ntmps65 ?_)
 intro b b1
 refine aq (h1 _ hg (by omega)) ?_
 (refine @ab _ ?_;refine au ?_)
 refine aq (h3 _ h4 (by omega)) ?_
 (refine @ab _ ?_;exact aK)
theorem RN(w0:W0)(key:ByteArray)(d:Nat)(n:N)(S:St)(hg:Good d n)(ht:bd n≤131000):aa Tryz.prog w0 117 [eT n,dS key] S (fun e S'=>e= .bN [dS ((cF key n).getD aZ),dB (cF key n).isSome]∧S'=S):=by
 refine aY [] mx Tryz.func117 rfl rfl (by kernel_rfl) ?_;(refine @ab _ ?_;refine ao @Tryz.ntmps117 ?_)
 intro b
 refine iH [] [1,2] (fun s:Nat×N=>[]) (fun s=>⟨(b.n,cT s.2)::S.box,S.acc⟩) (fun s=>Good s.1 s.2∧bd s.2≤131000∧cF key s.2=cF key n) (fun s=>s.1) (d,n) mx (by kernel_rfl) ?_ ?_
 ·simp(maxDischargeDepth:=12) (maxSteps:=1000000) -implicitDefEqProofs only[go_sem,Nat.reduceAdd,Nat.reduceSub,Nat.reduceMul,Nat.reduceLeDiff,Nat.reduceEqDiff,Nat.reduceGT,Nat.reduceBEq,reduceCtorEq,↓reduceIte,Int.reduceToNat,Int.reduceLE,Int.reduceLT,Int.reduceNe,Int.reduceEq,cT]
  exact⟨hg,ht⟩
 ·rintro⟨d,m⟩ ⟨hg,ht,he⟩
  simp only at hg ht he
  have hlen:=bj m
  cases d with
  |zero=>
   have hl:=hg.1
   have hf:=L5 hg.2.1 key
   rw[←he,oH key m hl]
   simp only[cT,hl,gi hl,if_true]
   (refine @ab _ ?_;refine au ?_)
   refine aq (Fc w0 m.l key _ (qD hg.2.1 key) (by omega)) ?_
   (refine @ab _ ?_;refine au ?_)
   refine⟨fun h=>?_,fun h=>?_⟩
   ·rw[hf.1 h];exact .refl _
   ·obtain⟨hi, -⟩:=rB h aZ
    refine⟨by omega,fun a ha=>?_⟩
    rw[hf.2 a ha h];exact .refl _
  |succ d=>
   have hn:=aw hg
   have hone:=iN hn hn.1
   have hlt:=gN hg.2.1 key
   obtain⟨c,kid,hc,e1,e2,hkid,hkey,hnd⟩:=cb hn (k:=fU m.l key) hlt
   obtain⟨-, -,kid',hkid',hgk, -⟩:=hg.2.2.cell c (List.mem_of_getElem? hc)
   rw[hkid]at hkid';cases hkid'
   have hkt:=dH (List.mem_of_getElem? hc) hkid
   have hec:cT m=[dI m.ak,dB false,.sl 1 false (m.l.map fun c=>dS c.key),.sl 2 false [],.sl 5 false (dK m.l)]:=by
    have:=eF hn.1 hone
    unfold eT yZ at this
    unfold cT
    exact DV.agg.inj this
   have hw:=SH w0 m key
   rw[eF hn.1 hone]at hw
   rw[hec]
   (refine @ab _ ?_;refine au ?_)
   refine⟨fun _=>aT (hw _ (by omega) hg.2.1) ?_,fun h=>absurd (by omega) h⟩
   (refine @ab _ ?_;refine au ?_)
   refine⟨hlt,fun x hx=>?_⟩
   cases bq hc hx
   rw[e2]
   refine⟨(d,kid),⟨hgk,by show bd kid≤131000;omega,?_⟩,Nat.lt_add_one d,?_⟩
   ·show cF key kid=cF key n
    rw[←he,vn key m hg.1 hc hkid]
   ·exact .refl _
theorem iB{s:Nat}{xs:List DV}(h:sy s xs)(n:Nat):sy s (xs.take n):=fun d hd=>h d (List.mem_of_mem_take hd)
theorem iI{s:Nat}{xs:List DV}(h:sy s xs)(n:Nat):sy s (xs.drop n):=fun d hd=>h d (List.mem_of_mem_drop hd)
theorem po{s:Nat}{xs ys:List DV}(h:sy s xs)(k:sy s ys):sy s (xs++ys):=fun d hd=>(List.mem_append.1 hd).elim (h d) (k d)
theorem gv{ds cs:List DV}{o:Nat}(h:o+cs.length≤ds.length):(cu ds o cs).length=ds.length:=by
 unfold cu
 simp only[List.length_append,List.length_take,List.length_drop];omega
theorem nJ{ds cs:List DV}{o:Nat}(h:o+cs.length≤ds.length):(cu ds o cs).take (o+cs.length)=ds.take o++cs:=by
 unfold cu
 rw[List.take_append_of_le_length (by simp only[List.length_append,List.length_take];omega)]
 exact List.take_of_length_le (by simp only[List.length_append,List.length_take];omega)
theorem ph{ds cs:List DV}{o k:Nat}(hk:k≤o)(h:o+cs.length≤ds.length):(cu ds o cs).take k=ds.take k:=by
 unfold cu
 rw[List.take_append_of_le_length (by simp only[List.length_append,List.length_take];omega),List.take_append_of_le_length (by simp only[List.length_take];omega),List.take_take,Nat.min_eq_left hk]
theorem qt{s c i o:Nat}{xs:List DV}{Z:List DV}(hs:0<s)(he:sy s xs)(hi:i<xs.length)(hc:xs.length≤c)(ho:o=(i+1)*s∨xs.length=i+1)(ho2:o≤c*s)(hZ:Z.length=s):
 i*s+(((gT s c xs).drop o).take ((xs.length-(i+1))*s)).length≤(gT s c xs).length∧
 o+(xs.length-(i+1))*s≤(gT s c xs).length∧
 (cu (gT s c xs) (i*s) (((gT s c xs).drop o).take ((xs.length-(i+1))*s))).length=c*s∧
 (cu (cu (gT s c xs) (i*s) (((gT s c xs).drop o).take ((xs.length-(i+1))*s))) ((xs.length-1)*s) Z).length=c*s∧
 (cu (cu (gT s c xs) (i*s) (((gT s c xs).drop o).take ((xs.length-(i+1))*s))) ((xs.length-1)*s) Z).take ((xs.length-1)*s)=(xs.take i++xs.drop (i+1)).flatMap cd:=by
 have U7:=mM he hc
 have hcs:xs.length*s≤c*s:=Nat.mul_le_mul_right s hc
 have hB:((gT s c xs).drop o).take ((xs.length-(i+1))*s)=(xs.drop (i+1)).flatMap cd:=by
  rcases ho with rfl|ho
  ·have e:xs.flatMap cd=(xs.take (i+1)).flatMap cd++(xs.drop (i+1)).flatMap cd:=by rw[←List.flatMap_append,List.take_append_drop]
   have l1:((xs.take (i+1)).flatMap cd).length=(i+1)*s:=by rw[iw (iB he _),List.length_take];congr 1;omega
   have l2:((xs.drop (i+1)).flatMap cd).length=(xs.length-(i+1))*s:=by rw[iw (iI he _),List.length_drop]
   unfold gT
   rw[e,List.append_assoc,List.drop_append,l1,List.drop_eq_nil_of_le (by omega),List.nil_append,Nat.sub_self,List.drop_zero,List.take_append_of_le_length (by omega),List.take_of_length_le (by omega)]
  ·have h0:xs.drop (i+1)=[]:=List.drop_eq_nil_of_le (by omega)
   rw[h0,show xs.length-(i+1)=0 by omega];simp
 have hBl:((xs.drop (i+1)).flatMap cd).length=(xs.length-(i+1))*s:=by rw[iw (iI he _),List.length_drop]
 rw[hB]
 have h1:i*s+(xs.length-(i+1))*s=(xs.length-1)*s:=by rw[←Nat.add_mul];congr 1;omega
 have h2:(xs.length-1)*s+s=xs.length*s:=by rw[←Nat.succ_mul];congr 1;omega
 have hA:(gT s c xs).take (i*s)=(xs.take i).flatMap cd:=by
  have e:xs.flatMap cd=(xs.take i).flatMap cd++(xs.drop i).flatMap cd:=by rw[←List.flatMap_append,List.take_append_drop]
  have l1:((xs.take i).flatMap cd).length=i*s:=by rw[iw (iB he _),List.length_take];congr 1;omega
  unfold gT
  rw[e,List.append_assoc,List.take_append_of_le_length (by omega),List.take_of_length_le (by omega)]
 have q1:i*s+((xs.drop (i+1)).flatMap cd).length≤(gT s c xs).length:=by rw[hBl,U7];omega
 have q3:=(gv q1).trans U7
 have q4:(xs.length-1)*s+Z.length≤(cu (gT s c xs) (i*s) ((xs.drop (i+1)).flatMap cd)).length:=by rw[q3,hZ];omega
 refine⟨q1,?_,q3,(gv q4).trans q3,?_⟩
 ·rw[U7]
  rcases ho with rfl|ho
  ·rw[←Nat.add_mul,show i+1+(xs.length-(i+1))=xs.length by omega];exact hcs
  ·rw[show xs.length-(i+1)=0 by omega];omega
 ·rw[ph (Nat.le_refl _) q4]
  have:=nJ q1
  rw[hBl,h1]at this
  rw[this,hA,List.flatMap_append]
theorem Y8(w0:W0)(S:St)(l:Nat)(xs:List DV)(i:Nat)(hl:lk S.acc l=some (.arr 1 xs))(he:sy 1 xs)(hi:i<xs.length)(hb:xs.length≤1048576):
 aa Tryz.prog w0 122 [.acc l xs.length,dI i,dI ((i+1:Nat):Int)] S fun d S'=>∃m:FN S.acc,d= .acc m.n (xs.length-1)∧S'=⟨S.box,rI S.acc l (m.n,.arr 1 (xs.take i++xs.drop (i+1)))⟩:=by
 have hyl:(xs.take i++xs.drop (i+1)).length=xs.length-1:=by rw[List.length_append,List.length_take,List.length_drop];omega
 refine(lS (P:=Tryz.prog) (w0:=w0) (K:=fun ys=>ys=xs.take i++xs.drop (i+1)) hl (by intro e;rw[e]at hi;cases hi) (by omega) he fun b c hbn hc1 hc2=>?_).mono ?_
 ·obtain⟨z1,z2,z3,z4,z5⟩:=qt (s:=1) (c:=c) (o:=if c=i+1 then 0 else(i+1)*1) (Z:=iV (.v (.string ByteArray.empty)) 1) (by omega) he hi hc1 (by split <;>first|(right;omega)|(left;rfl)) (by have:=Nat.mul_le_mul_right 1 (show i+1≤c by omega);split <;>omega) rfl
  have hrow:=mM he hc1
  generalize gT 1 c xs=ds at*
  refine nt [] mx Tryz.func122 rfl rfl (by kernel_rfl) ?_;(refine @ab _ ?_;refine ao @Tryz.ntmps122 ?_)
  have e1:i+(xs.length-(i+1))=xs.length-1:=by omega
  have e2:(if c=0 then 0 else 0)=0:=by split <;>rfl
  have e3:xs.length-(xs.length-1)=1:=by omega
  have e4:¬(c=xs.length-1):=by omega
  simp only[e1,e2,e3,e4,Nat.sub_zero,Nat.zero_add,if_false]
  refine⟨by omega,by omega,hc1,fun h=>by omega,fun _=>⟨by omega,by omega,hc1,by omega,by omega,z2,fun h1=>⟨by omega,by omega,?_,?_⟩,fun h1=>by omega⟩⟩
  ·rw[z3]
   have:=Nat.mul_le_mul_right 1 hc1
   omega
  ·refine⟨b,c,_,_,_,rfl,by rw[hyl],by simp only[lk,if_true],rfl,?_,po (iB he _) (iI he _),?_,z4,by omega,hc2⟩
   ·rw[List.filter_cons_of_neg (by simp)]
    rw[List.filter_eq_self.2 fun p hp=>by simpa using Y.j9 hbn p hp]
    exact List.Sublist.refl _
   ·rw[hyl];exact z5
 ·rintro d S' ⟨ys,m,rfl,rfl,rfl⟩
  exact⟨m,by rw[hyl],rfl⟩
theorem Y2(w0:W0)(S:St)(l:Nat)(xs:List DV)(i:Nat)(hl:lk S.acc l=some (.arr 2 xs))(he:sy 2 xs)(hi:i<xs.length)(hb:xs.length≤1048576):
 aa Tryz.prog w0 123 [.acc l xs.length,dI i,dI ((i+1:Nat):Int)] S fun d S'=>∃m:FN S.acc,d= .acc m.n (xs.length-1)∧S'=⟨S.box,rI S.acc l (m.n,.arr 2 (xs.take i++xs.drop (i+1)))⟩:=by
 have hyl:(xs.take i++xs.drop (i+1)).length=xs.length-1:=by rw[List.length_append,List.length_take,List.length_drop];omega
 refine(lS (P:=Tryz.prog) (w0:=w0) (K:=fun ys=>ys=xs.take i++xs.drop (i+1)) hl (by intro e;rw[e]at hi;cases hi) (by omega) he fun b c hbn hc1 hc2=>?_).mono ?_
 ·obtain⟨z1,z2,z3,z4,z5⟩:=qt (s:=2) (c:=c) (o:=if c=i+1 then 0 else(i+1)*2) (Z:=iV (.agg [.v (.string ByteArray.empty),.sl 0 true []]) 1) (by omega) he hi hc1 (by split <;>first|(right;omega)|(left;rfl)) (by have:=Nat.mul_le_mul_right 2 (show i+1≤c by omega);split <;>omega) rfl
  have hrow:=mM he hc1
  generalize gT 2 c xs=ds at*
  refine nt [] mx Tryz.func123 rfl rfl (by kernel_rfl) ?_;(refine @ab _ ?_;refine ao @Tryz.ntmps123 ?_)
  have e1:i+(xs.length-(i+1))=xs.length-1:=by omega
  have e2:(if c=0 then 0 else 0)=0:=by split <;>rfl
  have e3:xs.length-(xs.length-1)=1:=by omega
  have e4:¬(c=xs.length-1):=by omega
  simp only[e1,e2,e3,e4,Nat.sub_zero,Nat.zero_add,if_false]
  refine⟨by omega,by omega,hc1,fun h=>by omega,fun _=>⟨by omega,by omega,hc1,by omega,by omega,z2,fun h1=>⟨by omega,by omega,?_,?_⟩,fun h1=>by omega⟩⟩
  ·rw[z3]
   have:=Nat.mul_le_mul_right 2 hc1
   omega
  ·refine⟨b,c,_,_,_,rfl,by rw[hyl],by simp only[lk,if_true],rfl,?_,po (iB he _) (iI he _),?_,z4,by omega,hc2⟩
   ·rw[List.filter_cons_of_neg (by simp)]
    rw[List.filter_eq_self.2 fun p hp=>by simpa using Y.j9 hbn p hp]
    exact List.Sublist.refl _
   ·rw[hyl];exact z5
 ·rintro d S' ⟨ys,m,rfl,rfl,rfl⟩
  exact⟨m,by rw[hyl],rfl⟩
theorem Y4(w0:W0)(S:St)(l:Nat)(xs:List DV)(i:Nat)(hl:lk S.acc l=some (.arr 6 xs))(he:sy 6 xs)(hi:i<xs.length)(hb:xs.length≤1048576):
 aa Tryz.prog w0 71 [.acc l xs.length,dI i,dI ((i+1:Nat):Int)] S fun d S'=>∃m:FN S.acc,d= .acc m.n (xs.length-1)∧S'=⟨S.box,rI S.acc l (m.n,.arr 6 (xs.take i++xs.drop (i+1)))⟩:=by
 have hyl:(xs.take i++xs.drop (i+1)).length=xs.length-1:=by rw[List.length_append,List.length_take,List.length_drop];omega
 refine(lS (P:=Tryz.prog) (w0:=w0) (K:=fun ys=>ys=xs.take i++xs.drop (i+1)) hl (by intro e;rw[e]at hi;cases hi) (by omega) he fun b c hbn hc1 hc2=>?_).mono ?_
 ·obtain⟨z1,z2,z3,z4,z5⟩:=qt (s:=6) (c:=c) (o:=if c=i+1 then 0 else(i+1)*6) (Z:=iV (.agg [.v (.string ByteArray.empty),.v (.int .i64 0),.v (.bool false),.sl 0 true [],.sl 0 true [],.sl 0 true []]) 1) (by omega) he hi hc1 (by split <;>first|(right;omega)|(left;rfl)) (by have:=Nat.mul_le_mul_right 6 (show i+1≤c by omega);split <;>omega) rfl
  have hrow:=mM he hc1
  generalize gT 6 c xs=ds at*
  refine nt [] mx Tryz.func71 rfl rfl (by kernel_rfl) ?_;(refine @ab _ ?_;refine ao @Tryz.ntmps71 ?_)
  have e1:i+(xs.length-(i+1))=xs.length-1:=by omega
  have e2:(if c=0 then 0 else 0)=0:=by split <;>rfl
  have e3:xs.length-(xs.length-1)=1:=by omega
  have e4:¬(c=xs.length-1):=by omega
  simp only[e1,e2,e3,e4,Nat.sub_zero,Nat.zero_add,if_false]
  refine⟨by omega,by omega,hc1,fun h=>by omega,fun _=>⟨by omega,by omega,hc1,by omega,by omega,z2,fun h1=>⟨by omega,by omega,?_,?_⟩,fun h1=>by omega⟩⟩
  ·rw[z3]
   have:=Nat.mul_le_mul_right 6 hc1
   omega
  ·refine⟨b,c,_,_,_,rfl,by rw[hyl],by simp only[lk,if_true],rfl,?_,po (iB he _) (iI he _),?_,z4,by omega,hc2⟩
   ·rw[List.filter_cons_of_neg (by simp)]
    rw[List.filter_eq_self.2 fun p hp=>by simpa using Y.j9 hbn p hp]
    exact List.Sublist.refl _
   ·rw[hyl];exact z5
 ·rintro d S' ⟨ys,m,rfl,rfl,rfl⟩
  exact⟨m,by rw[hyl],rfl⟩
theorem Bh(a b:ByteArray):fh a b=fh b a:=by
 cases h:fh b a with
 |true=>rw[cR.1 h];exact fE _
 |false=>exact dc.2 fun e=>by rw[e,fE]at h;cases h
theorem TO(w0:W0)(l:List C)(key:ByteArray)(i:Nat)(c:C)(S:St)(h0:∀(j:Nat) a,j<i→l[j]? =some a→fh a.key key=false)(hc:l[i]? =some c)(he:fh c.key key=true)(hb:l.length≤1048576):
 aa Tryz.prog w0 119 [.sl 1 false (l.map fun c=>dS c.key),dS key] S (fun d S'=>d=dI i∧S'=S):=by
 have hlt:=(List.getElem?_eq_some_iff.1 hc).1
 refine aY [] mx Tryz.func119 rfl rfl (by kernel_rfl) ?_;(refine @ab _ ?_;refine ao @Tryz.ntmps119 ?_)
 refine aA [] i [0,1,7,8] (fun k=>[(8,dI k)]) (fun _=>S) (fun _=>True) mx (by kernel_rfl) ?_ ?_
 ·(refine @ab _ ?_;exact aK)
 ·intro k hk _
  (refine @ab _ ?_;refine au ?_)
  refine⟨fun hl=>⟨hl,fun a ha=>⟨fun h=>?_,fun h=>⟨?_,aW k (by omega)⟩⟩⟩,fun hl=>by omega⟩
  ·rcases Nat.lt_or_ge k i with q|q
   ·have:=h0 k a q ha;rw[Bh,h]at this;cases this
   ·have:k=i:=by omega
    subst this;rfl
  ·rcases Nat.lt_or_ge k i with q|q
   ·omega
   ·have:k=i:=by omega
    subst this
    cases bq hc ha
    rw[Bh,he]at h;cases h
theorem Dh{l:List C}(h:dj l){key:ByteArray}(hf:(l.find? fun c=>fh c.key key).isSome=true):∃i c,l[i]? =some c∧fh c.key key=true∧(∀(j:Nat) a,j<i→l[j]? =some a→fh a.key key=false)∧(l.filter fun c=>!fh c.key key)=l.take i++l.drop (i+1):=by
 obtain⟨A,B,hl,hA,hB⟩:=qw key h
 have hn:∀a,a∈A→fh a.key key=false:=fun a ha=>dc.2 (bP (hA a ha))
 have f1:A.find? (fun c=>fh c.key key)=none:=List.find?_eq_none.2 fun x hx=>by rw[hn x hx];simp
 rw[hl,List.find?_append,f1]at hf
 cases B with
 |nil=>simp at hf
 |cons b B=>
  have hr:dj (b::B):=by rw[hl]at h;exact(List.pairwise_append.1 h).2.1
  have hb1:∀x,x∈B→fh x.key key=false:=fun x hx=>by
   have h1:cI b.key x.key=true:=(List.pairwise_cons.1 hr).1 x hx
   have h2:mq key b.key=true:=im.2 (hB b List.mem_cons_self)
   exact dc.2 (bP (lY h2 h1)).symm
  have hb:fh b.key key=true:=by
   cases hq:fh b.key key with
   |true=>rfl
   |false=>
    have:(b::B).find? (fun c=>fh c.key key)=none:=List.find?_eq_none.2 fun x hx=>by
     rcases List.mem_cons.1 hx with rfl|hx
     ·rw[hq];simp
     ·rw[hb1 x hx];simp
    rw[this]at hf;simp at hf
  refine⟨A.length,b,by rw[hl];simp,hb,fun j a hj ha=>?_,?_⟩
  ·rw[hl,List.getElem?_append_left hj]at ha
   exact hn a (List.mem_of_getElem? ha)
  ·rw[hl,List.filter_append,List.filter_cons,hb,eW (fun a ha=>by rw[hn a ha];rfl),eW (l:=B) (fun a ha=>by rw[hb1 a ha];rfl)]
   simp
theorem M0(l:List C):sy 1 (l.map fun c=>dS c.key):=fun d hd=>by
 obtain⟨c,_,rfl⟩:=List.mem_map.1 hd;exact⟨rfl,rfl⟩
theorem JK(l:List C):sy 2 (l.map fM):=fun d hd=>by
 obtain⟨c,_,rfl⟩:=List.mem_map.1 hd;exact⟨rfl,rfl⟩
def XW(k b:Nat):DV:= .v (.func (.func 118) #[] #[.pointer (some ⟨k,0,none⟩),.pointer (some ⟨b,0,none⟩)])
theorem Wz(w0:W0)(key:ByteArray)(k3 b8:Nat):∀(d:Nat) (n:N) (S:St),Good d n→bd n+d≤131000→(cF key n).isSome=true→lk S.box k3=some [dS key]→lk S.box b8=some [XW k3 b8]→
 aa Tryz.prog w0 118 [eT n,.v (.pointer (some ⟨k3,0,none⟩)),.v (.pointer (some ⟨b8,0,none⟩))] S (fun e S'=>e=eT (aD key n)∧S'=S):=by
 intro d
 induction d with
 |zero=>
  intro n S hg ht hf t3 t8
  have hlen:=bj n
  rw[oH key n hg.1]at hf
  obtain⟨i,c,hc,hce,h0,hflt⟩:=Dh hg.2.1 (by simpa using hf)
  have hlt:=(List.getElem?_eq_some_iff.1 hc).1
  rw[cn key n hg.1,hflt,bT hg.1,bT rfl]
  refine aY [3] mx Tryz.func118 rfl rfl (by kernel_rfl) ?_;simp only[Tryz.ntmps118,List.length_cons,List.length_nil,Nat.reduceAdd,Nat.reduceSub,List.reduceReplicate,List.cons_append,List.nil_append];(refine @ab _ ?_;refine fa @Tryz.ntmps118 @t3 @t8 ?_)
  intro b b1
  refine aq (TO w0 n.l key i c _ h0 hc hce (by omega)) ?_
  (refine @ab _ ?_;refine aO @t3 @t8 ?_)
  refine Y.mn [2,5] [] [0,3,1,4,2,5,6,7] mx (by kernel_rfl) ?_
  (refine @ab _ ?_;refine aO @t3 @t8 ?_)
  refine bB (uA w0 (n.l.map fun c=>dS c.key) _ (by rw[List.length_map];omega)) ?_
  rintro d S' ⟨l1,rfl,rfl⟩
  (refine @ab _ ?_;refine aO @t3 @t8 ?_)
  refine bB (xl w0 (n.l.map fM) _ (by rw[List.length_map];omega)) ?_
  rintro d S' ⟨l2,rfl,rfl⟩
  (refine @ab _ ?_;refine aO @t3 @t8 ?_)
  rw[aW i (by omega)]
  refine .inl (bB (Y8 w0 _ l1.n (n.l.map fun c=>dS c.key) i (by(refine @ab _ ?_;exact aK)) (M0 _) (by rw[List.length_map];exact hlt) (by rw[List.length_map];omega)) ?_ ⟨.eq (by rw[List.length_map]),.refl _,.refl _,trivial⟩)
  rintro d S' ⟨m1,rfl,rfl⟩
  (refine @ab _ ?_;refine aO @t3 @t8 ?_)
  rw[aW i (by omega)]
  refine .inl (bB (Y2 w0 _ l2.n (n.l.map fM) i (by(refine @ab _ ?_;exact aK)) (JK _) (by rw[List.length_map];exact hlt) (by rw[List.length_map];omega)) ?_ ⟨.eq (by rw[List.length_map]),.refl _,.refl _,trivial⟩)
  rintro d S' ⟨m2,rfl,rfl⟩
  (refine @ab _ ?_;refine aO @t3 @t8 ?_)
  omega
 |succ d ih=>
  intro n S hg ht hf t3 t8
  have hn:=aw hg
  have hlen:=bj n
  have hone:=iN hn hn.1
  have hlt:=gN hg.2.1 key
  obtain⟨c,kid,hc,e1,e2,hkid,hkey,hnd⟩:=cb hn (k:=fU n.l key) hlt
  obtain⟨-, -,kid',hkid',hgk, -⟩:=hg.2.2.cell c (List.mem_of_getElem? hc)
  rw[hkid]at hkid';cases hkid'
  have hkt:=dH (List.mem_of_getElem? hc) hkid
  have hw:=SH w0 n key
  rw[vn key n hg.1 hc hkid]at hf
  rw[fk key n hg.1 hc hkid]
  have hpt:=j1 (key:=key) hnd
  have hpn:=cL (key:=key) hnd
  have ihk:=ih kid
  generalize aD key kid=pk at hpt hpn ihk ⊢
  generalize hc':C.mk c.key c.data c.ai [pk]=c'
  have hsh:Sl c'∧∃k,c'.kid=[k]∧Nd d k:=by
   obtain⟨q1,_⟩:=hn.2.2 c (List.mem_of_getElem? hc)
   subst hc'
   exact⟨q1,pk,rfl,hpn⟩
  have hM:=qH hn hlt hsh
  have hMt:bd (.mk 0 false (n.l.set (fU n.l key) c'))≤131072:=by
   have:=EZ (c':=c') hc
   rw[kf]
   have e3:lX c'=1+bd pk:=by subst hc';exact cA rfl
   rw[e3,cA hkid,←aH n]at this
   omega
  have hmend:=fun T=>NB w0 d _ (fU n.l key) T hM hMt (by rw[N.eB,List.length_set];exact hlt)
  have hkeys:(n.l.map fun c=>dS c.key)=(n.l.set (fU n.l key) c').map fun c=>dS c.key:=by
   rw[List.map_set]
   refine(List.ext_getElem? fun j=>?_)
   rw[List.getElem?_set]
   split
   ·rename_i e;subst e
    rw[List.getElem?_map,hc];subst hc'
    simp[hlt,C.key]
   ·rfl
  have hkids:(dK n.l).set (fU n.l key) (eT pk)=dK (n.l.set (fU n.l key) c'):=by
   unfold dK
   rw[List.map_set,←j6]
   subst hc';rfl
  have hones:∀x,x∈n.l.set (fU n.l key) c'→∃k,x.kid=[k]:=fun x hx=>by
   rcases mem_set hx with hx|rfl
   ·exact hone x hx
   ·obtain⟨k,hk,_⟩:=hsh.2;exact⟨k,hk⟩
  have hwk:Wk (.agg [dI 0,dB false,.sl 1 false (n.l.map fun c=>dS c.key),.sl 0 true [],.sl 5 false ((dK n.l).set (fU n.l key) (eT pk))]) (eT (.mk 0 false (n.l.set (fU n.l key) c'))):=sR hones hkeys hkids
  generalize cC (.mk 0 false (n.l.set (fU n.l key) c')) (fU n.l key)=m at hmend ⊢
  generalize N.mk 0 false (n.l.set (fU n.l key) c')=M at hmend hwk
  clear hM hMt
  rw[eF hn.1 hone]at hw ⊢
  refine aY [] mx Tryz.func118 rfl rfl (by kernel_rfl) ?_;simp only[Tryz.ntmps118,List.length_cons,List.length_nil,Nat.reduceAdd,Nat.reduceSub,List.reduceReplicate,List.cons_append,List.nil_append];(refine @ab _ ?_;refine fa @Tryz.ntmps118 @t3 @t8 ?_)
  unfold yZ
  (refine @ab _ ?_;refine aO @t3 @t8 ?_)
  intro b b1
  refine aq (hw _ (by omega) hg.2.1) ?_
  (refine @ab _ ?_;refine aO @t3 @t8 ?_)
  refine bB (yQ w0 (dK n.l) _ (by rw[iP];omega)) ?_
  rintro d' S' ⟨l1,rfl,rfl⟩
  simp(maxDischargeDepth:=12) (maxSteps:=1000000) -implicitDefEqProofs only[go_sem,Nat.reduceAdd,Nat.reduceSub,Nat.reduceMul,Nat.reduceLeDiff,Nat.reduceEqDiff,Nat.reduceGT,Nat.reduceBEq,reduceCtorEq,↓reduceIte,Int.reduceToNat,Int.reduceLE,Int.reduceLT,Int.reduceNe,Int.reduceEq,t3,t8,XW]
  refine⟨hlt,fun x hx=>?_⟩
  cases bq hc hx
  rw[e2]
  refine aT (ihk _ hgk (by omega) hf (by simp(maxDischargeDepth:=12) (maxSteps:=1000000) -implicitDefEqProofs only[go_sem,Nat.reduceAdd,Nat.reduceSub,Nat.reduceMul,Nat.reduceLeDiff,Nat.reduceEqDiff,Nat.reduceGT,Nat.reduceBEq,reduceCtorEq,↓reduceIte,Int.reduceToNat,Int.reduceLE,Int.reduceLT,Int.reduceNe,Int.reduceEq,t3]) (by simp(maxDischargeDepth:=12) (maxSteps:=1000000) -implicitDefEqProofs only[go_sem,Nat.reduceAdd,Nat.reduceSub,Nat.reduceMul,Nat.reduceLeDiff,Nat.reduceEqDiff,Nat.reduceGT,Nat.reduceBEq,reduceCtorEq,↓reduceIte,Int.reduceToNat,Int.reduceLE,Int.reduceLT,Int.reduceNe,Int.reduceEq,t8,XW])) ?_
  (refine @ab _ ?_;refine au ?_)
  refine⟨hlt,hlt,fun y hy=>?_⟩
  refine aq (hmend _) ?_ ⟨hwk,.refl _,trivial⟩
  (refine @ab _ ?_;exact aK)
def mi:N:= .mk 0 true []
theorem yj:Good 0 mi:=⟨rfl,List.Pairwise.nil,fun c hc=>by cases hc⟩
theorem yW:gV mi:=⟨0,yj,by decide,.inl rfl⟩
theorem YA(w0:W0)(S:St):aa Tryz.prog w0 64 [] S (fun e S'=>e=eT mi∧S'=S):=by
 refine aY [] mx Tryz.func64 rfl rfl (by kernel_rfl) ?_;(refine @ab _ ?_;refine ao @Tryz.ntmps64 ?_)
 intro b
 exact .agg (.cons (.refl _) (.cons (.refl _) (.cons (.nil _ _ _) (.cons (.nil _ _ _) (.cons (.nil _ _ _) .nil)))))
theorem QA{key:ByteArray}{l:List C}(h:dj l)(ha:∀c,c∈l→c.key=key):l.length≤1:=by
 cases l with
 |nil=>simp
 |cons a l=>
  cases l with
  |nil=>simp
  |cons b l=>
   have h1:cI a.key b.key=true:=(List.pairwise_cons.1 h).1 b List.mem_cons_self
   rw[ha a List.mem_cons_self,ha b (List.mem_cons_of_mem _ List.mem_cons_self),cK]at h1
   cases h1
theorem wh{key:ByteArray}{n:N}(h:gV n)(hf:(cF key n).isSome=true)(hl:(mg key n).l=[]):mg key n=mi:=by
 have hen:=(pC key h).2
 obtain⟨d,hg,hs,h2⟩:=h
 cases d with
 |zero=>
  unfold mg at hl ⊢
  rw[if_pos hf]at hl ⊢
  rw[cn key n hg.1]at hl ⊢
  have e1:=cW (.mk 0 true (n.l.filter fun c=>!fh c.key key)) (.inl rfl)
  split at e1
  ·rw[e1]at hl ⊢
   rw[N.eB]at hl
   rw[hl];rfl
  ·rw[e1]at hl
   have hnd:Nd 0 (.mk 0 true (n.l.filter fun c=>!fh c.key key)):=by
    have:=cL (key:=key) (aw hg)
    rwa [cn key n hg.1]at this
   have hM:Nd 1 (.mk 0 false [af aZ (.mk 0 true (n.l.filter fun c=>!fh c.key key))]):=⟨rfl,List.cons_ne_nil _ _,fun c hc=>by
    rw[N.eB,List.mem_singleton]at hc;subst hc;exact dG (by rw[bC];omega) hnd⟩
   have:=(so hM (Nat.lt_add_one 0)).2.1
   exact absurd hl this
 |succ d=>
  exfalso
  rw[ca,hl,List.flatMap_nil]at hen
  have hlen:2≤n.l.length:=h2.resolve_left (by rw[hg.1];simp)
  have hall:∀c,c∈de n→c.key=key:=fun c hc=>by
   have:=List.filter_eq_nil_iff.1 hen.symm c hc
   simp at this
   exact cR.1 this
  have h1:=QA (wu hg) hall
  rw[ca,hg.1]at h1
  match hn:n.l,hlen with
  |a::b::r,_=>
   obtain⟨x,hx⟩:=lK (hg.2.2.cell a (by rw[hn];exact List.mem_cons_self))
   obtain⟨y,hy⟩:=lK (hg.2.2.cell b (by rw[hn];exact List.mem_cons_of_mem _ List.mem_cons_self))
   rw[hn,List.flatMap_cons,List.flatMap_cons]at h1
   have p1:=List.length_pos_of_mem hx
   have p2:=List.length_pos_of_mem hy
   simp only[List.length_append]at h1
   omega
theorem ZH(w0:W0)(key:ByteArray)(n:N)(S:St)(h:gV n)(ht:∀d,Nd d n→bd n+2*d+16≤131000):aa Tryz.prog w0 70 [eT n,dS key] S (fun e S'=>e= .bN [eT (mg key n),dB (cF key n).isSome]∧S'=S):=by
 have hde:=wh (key:=key) h
 obtain⟨d,hg,hs,h2⟩:=h
 have hn:=aw hg
 have htd:=ht d hn
 have h1:=fun S=>RN w0 key d n S hg (by omega)
 have h3:=fun k b S=>Wz w0 key k b d n S hg (by omega)
 have h4:=j1 (key:=key) hn
 have h5:=fun S=>V4 w0 d (aD key n) S (cL hn) (by omega)
 have hDel:(cF key n).isSome=true→mg key n=jT (aD key n):=fun hf=>by unfold mg;rw[if_pos hf]
 have hDel0:(cF key n).isSome=false→mg key n=n:=fun hf=>by unfold mg;rw[if_neg (by rw[hf];simp)]
 generalize mg key n=D at*
 generalize jT (aD key n)=q at*
 generalize aD key n=p at*
 generalize cF key n=fo at*
 refine aY [] mx Tryz.func70 rfl rfl (by kernel_rfl) ?_;(refine @ab _ ?_;refine ao @Tryz.ntmps70 ?_)
 intro b b1 b2
 refine aq (h1 _) ?_
 (refine @ab _ ?_;refine au ?_)
 refine⟨fun hy b3=>?_,fun hno=>?_⟩
 ·rw[hDel hy]at hde ⊢
  refine aq (h3 b1.n b3.n _ hy (by simp(maxDischargeDepth:=12) (maxSteps:=1000000) -implicitDefEqProofs only[go_sem,Nat.reduceAdd,Nat.reduceSub,Nat.reduceMul,Nat.reduceLeDiff,Nat.reduceEqDiff,Nat.reduceGT,Nat.reduceBEq,reduceCtorEq,↓reduceIte,Int.reduceToNat,Int.reduceLE,Int.reduceLT,Int.reduceNe,Int.reduceEq]) (by simp(maxDischargeDepth:=12) (maxSteps:=1000000) -implicitDefEqProofs only[go_sem,Nat.reduceAdd,Nat.reduceSub,Nat.reduceMul,Nat.reduceLeDiff,Nat.reduceEqDiff,Nat.reduceGT,Nat.reduceBEq,reduceCtorEq,↓reduceIte,Int.reduceToNat,Int.reduceLE,Int.reduceLT,Int.reduceNe,Int.reduceEq,XW])) ?_
  (refine @ab _ ?_;refine au ?_)
  refine aq (h5 _) ?_
  (refine @ab _ ?_;refine au ?_)
  intro b4
  refine⟨fun hz=>?_,fun _=>by rw[hy];exact .refl _⟩
  have hq:=hde hy (List.eq_nil_of_length_eq_zero (by omega))
  refine aq (YA w0 _) ?_
  (refine @ab _ ?_;refine au ?_)
  rw[hy,hq];exact .refl _
 ·rw[hDel0 hno,hno];exact .refl _
@[go_sem] def lD (c:C):DV:= .agg [dS c.key,dI (ay c).ak,dB (ay c).leaf,.sl 1 false ((ay c).l.map fun c=>dS c.key),.sl 2 false ((if(ay c).leaf then(ay c).l else []).map fM),.sl 5 false ((aI (ay c)).map dT)]
@[go_sem] def eV (n:N) (l:List C):DV:= .agg [dI n.ak,dB n.leaf,.sl 1 false (n.l.map fun c=>dS c.key),.sl 2 false ((if n.leaf then n.l else []).map fM),.sl 5 false ((aI n).map dT),.sl 6 false (l.map lD)]
theorem Q8(a b:ByteArray):yq a b<0↔cI a b=true:=by
 show(if cI a b=true then(-1:Int)else if cI b a=true then 1 else 0)<0↔_
 split
 ·rename_i h;simp[h]
 ·rename_i h
  constructor
  ·intro k;split at k <;>omega
  ·intro k;exact absurd k h
theorem OE(a b:ByteArray):yq a b=0↔fh a b=true:=by
 show(if cI a b=true then(-1:Int)else if cI b a=true then 1 else 0)=0↔_
 split
 ·rename_i h
  rw[dc.2 (bP h)];simp
 ·rename_i h
  split
  ·rename_i k
   rw[dc.2 (bP k).symm];simp
  ·rename_i k
   rcases nC a b with q|rfl|q
   ·exact absurd q h
   ·simp[fE]
   ·exact absurd q k
theorem ZC(w0:W0)(a b:ByteArray)(S:St):aa Tryz.prog w0 112 [dS a,dS b] S (fun d S'=>d=dI (yq a b)∧S'=S):=by
 refine aY [] mx Tryz.func112 rfl rfl (by kernel_rfl) ?_;(refine @ab _ ?_;refine ao @Tryz.ntmps112 ?_)
 refine aq (r:=dI (yq a b)) ?_ ?_
 ·refine aY [] mx Tryz.func165 rfl rfl (by kernel_rfl) ?_;(refine @ab _ ?_;refine ao @Tryz.ntmps165 ?_)
  refine YU Tryz.func214 (by kernel_rfl) rfl (by kernel_rfl) (by kernel_rfl) _ _ _ ?_
  (refine @ab _ ?_;exact aK)
 ·(refine @ab _ ?_;exact aK)
theorem WY(w0:W0)(c:C)(key:ByteArray)(S:St):aa Tryz.prog w0 111 [lD c,dS key] S (fun d S'=>d=dI (yq c.key key)∧S'=S):=by
 refine aY [] mx Tryz.func111 rfl rfl (by kernel_rfl) ?_;(refine @ab _ ?_;refine ao @Tryz.ntmps111 ?_)
 intro b
 refine aq (ZC w0 _ _ _) ?_
 (refine @ab _ ?_;exact aK)
theorem Qm(w0:W0)(l:List C)(key:ByteArray)(S:St)(hr:dj l)(hb:l.length≤1073741824):
 aa Tryz.prog w0 110 [.sl 6 false (l.map lD),dS key,.v (.func (.func 111) #[] #[])] S (fun d S'=>d= .bN [dI (bk l key),dB (dE l key)]∧S'=S):=by
 have hl:=qD hr key
 refine aY [] mx Tryz.func110 rfl rfl (by kernel_rfl) ?_;(refine @ab _ ?_;refine ao @Tryz.ntmps110 ?_)
 refine iH [] [0,1,2,8,9,10] (fun s:Nat×Nat=>[(9,dI s.1),(10,dI s.2)]) (fun _=>S) (fun s=>s.1≤s.2∧s.2≤l.length∧(∀(i:Nat) a,i<s.1→l[i]? =some a→cI a.key key=true)∧∀(i:Nat) a,s.2≤i→l[i]? =some a→cI a.key key=false) (fun s=>s.2-s.1) (0,l.length) mx (by kernel_rfl) ?_ ?_
 ·(refine @ab _ ?_;refine au ?_)
  exact⟨Nat.zero_le _,fun i a h=>absurd h (by omega),fun i a h e=>absurd (List.getElem?_eq_some_iff.1 e).1 (by omega)⟩
 ·rintro⟨i,j⟩ ⟨h1,h2,h3,h4⟩
  simp only at h1 h2 h3 h4
  have eh:IntKind.i64.wrap ((IntKind.u64.wrap (IntKind.i64.wrap ((i:Int)+j))).fdiv (2^min 1 64))=(((i+j)/2:Nat):Int):=by
   rw[ba (n:=(i:Int)+j) (by omega) (by omega),ja (by omega) (by omega),Int.fdiv_eq_ediv_of_nonneg _ (by decide)]
   simp only[show min 1 64=1 from rfl,Int.pow_one]
   rw[ba (by omega) (by omega)]
   omega
  (refine @ab _ ?_;refine ao @eh ?_)
  refine⟨fun hlt=>⟨by omega,fun a ha=>aq (WY w0 a key S) ?_⟩,fun hge=>?_⟩
  ·(refine @ab _ ?_;refine aO @eh @Q8 ?_)
   refine⟨fun hap=>⟨((i+j)/2+1,j),⟨by simp only;omega,h2,fun x c hx hc=>?_,h4⟩,by simp only;omega,by rw[ba (by omega) (by omega)];rfl,rfl⟩,fun hap=>⟨(i,(i+j)/2),⟨by simp only;omega,by simp only;omega,h3,fun x c hx hc=>?_⟩,by simp only;omega,rfl,rfl⟩⟩
   ·simp only at hx
    exact hl x ((i+j)/2) c a (by omega) hc ha hap
   ·simp only at hx
    refine Bool.eq_false_iff.2 fun hc'=>?_
    have:=hl ((i+j)/2) x a c hx ha hc hc'
    simp only[this]at hap;simp at hap
  ·have hij:i=j:=by omega
   subst hij
   have hi:bk l key=i:=qs h2 h3 fun c hc=>h4 i c (Nat.le_refl _) hc
   refine⟨fun hlt=>⟨hlt,fun a ha=>aq (WY w0 a key S) ?_⟩,fun hn=>Wk.bN (.cons (.eq ?_) (.cons (.eq ?_) .nil))⟩
   ·(refine @ab _ ?_;refine au ?_)
    have e:decide (yq a.key key=0)=fh a.key key:=by rw[Bool.eq_iff_iff,decide_eq_true_iff,OE]
    unfold dE;rw[hi,ha,e]
    exact Wk.bN (.cons (.refl _) (.cons (.refl _) .nil))
   ·rw[hi]
   ·unfold dE;rw[hi,List.getElem?_eq_none (by omega)]
theorem I5(w0:W0)(n:N)(l:List C)(key:ByteArray)(S:St)(hr:dj l)(hb:l.length≤1073741824):
 aa Tryz.prog w0 60 [eV n l,dS key] S (fun d S'=>d= .bN [dI (bk l key),dB (dE l key)]∧S'=S):=by
 refine aY [] mx Tryz.func60 rfl rfl (by kernel_rfl) ?_;(refine @ab _ ?_;refine ao @Tryz.ntmps60 ?_)
 intro b
 refine aq (Qm w0 l key _ hr hb) ?_
 (refine @ab _ ?_;exact aK)
def gE(k:ByteArray):Bool:=decide (0<k.size)&&decide (k.size≤16)
theorem WC(w0:W0)(k:ByteArray)(S:St):aa Tryz.prog w0 61 [dS k] S (fun d S'=>d=dB (gE k)∧S'=S):=by
 refine aY [] mx Tryz.func61 rfl rfl (by kernel_rfl) ?_;(refine @ab _ ?_;refine ao @Tryz.ntmps61 ?_)
 have e:fh k {data:= #[]}=!decide (0<k.size):=by
  have h1:fh k {data:= #[]}=decide (k.data.toList=[]):=rfl
  have h2:k.size=k.data.toList.length:=rfl
  rw[h1,h2]
  cases k.data.toList <;>simp
 rw[e]
 unfold gE
 refine⟨fun h=>?_,fun h=>?_⟩
 ·rw[Bool.not_eq_false']at h
  rw[h,Bool.true_and,Bool.eq_iff_iff,decide_eq_true_iff,decide_eq_true_iff];omega
 ·rw[Bool.not_eq_true']at h
  rw[h];rfl
theorem UN(w0:W0)(S:St):aa Tryz.prog w0 28 [] S (fun d S'=>d=eV mi []∧S'=S):=by
 refine aY [] mx Tryz.func28 rfl rfl (by kernel_rfl) ?_;(refine @ab _ ?_;refine ao @Tryz.ntmps28 ?_)
 intro b
 refine aq (YA w0 _) ?_
 (refine @ab _ ?_;exact aK)
theorem xh(w0:W0)(l:List DV)(S:St)(h0:l.length≤1048576):aa Tryz.prog w0 63 [dR 6 l] S fun d S'=>∃b:FN S.acc,d= .acc b.n l.length∧S'=⟨S.box,(b.n,.arr 6 l)::S.acc⟩:=by
 refine KO 6 (by omega) ?_
 refine nt [] mx Tryz.func63 rfl rfl (by kernel_rfl) ?_;(refine @ab _ ?_;refine ao @Tryz.ntmps63 ?_)
 intro b hb
 refine⟨fun h1=> .inl ⟨Classical.byContradiction fun hn=>?_,0,rfl⟩,fun h1=>⟨by omega,by unfold maxLen;omega,fun c=> .inr ⟨c,rfl,rfl⟩⟩⟩
 rw[hb hn]at h1;cases h1
theorem ZJ(w0:W0)(S:St):aa Tryz.prog w0 81 [.v (.int .u64 0),dI 2] S (fun d S'=>∃l:FN S.acc,d= .acc l.n 2∧S'=⟨S.box,(l.n,.arr 1 [.v (.int .u8 0),.v (.int .u8 0)])::S.acc⟩):=by
 refine nt [] mx Tryz.func81 rfl rfl (by kernel_rfl) ?_;(refine @ab _ ?_;refine ao @Tryz.ntmps81 ?_)
 refine⟨fun h=>absurd h (by omega),fun _=>⟨by omega,fun b=>?_⟩⟩
 refine aA [] 2 [0,1,5,16,17] (fun k=>[(17,dI k)]) (fun _=>⟨S.box,(b.n,.arr 1 [.v (.int .u8 0),.v (.int .u8 0)])::S.acc⟩) (fun _=>True) mx (by kernel_rfl) ?_ ?_
 ·(refine @ab _ ?_;exact aK)
 ·intro k hk _
  (refine @ab _ ?_;refine au ?_)
  refine⟨fun hlt=>?_,fun _=>⟨b,rfl,rfl⟩⟩
  have:k=0∨k=1:=by omega
  rcases this with rfl|rfl
  ·exact⟨by decide,by decide,by decide,_,rfl,rfl,by omega,by decide,Aml.Sub.refl _⟩
  ·exact⟨by decide,by decide,by decide,_,rfl,rfl,by omega,by decide,Aml.Sub.refl _⟩
theorem tH(w0:W0)(S:St):aa Tryz.prog w0 66 [] S (fun d S'=>d=dS ⟨#[0,0]⟩∧S'=S):=by
 refine aY [] mx Tryz.func66 rfl rfl (by kernel_rfl) ?_;(refine @ab _ ?_;refine ao @Tryz.ntmps66 ?_)
 refine bB (ZJ w0 S) ?_
 rintro d S' ⟨l,rfl,rfl⟩
 (refine @ab _ ?_;refine au ?_)
 first|exact⟨by decide,by decide⟩|decide
theorem Gi{ds cs:List DV}{o:Nat}(h:o+cs.length≤ds.length):(cu ds o cs).drop o=cs++ds.drop (o+cs.length):=by
 unfold cu
 rw[List.append_assoc,List.drop_append_of_le_length (by simp only[List.length_take];omega),List.drop_eq_nil_of_le (by simp only[List.length_take];omega),List.nil_append]
theorem Ut{L X Y:List DV}{p q r:Nat}(hX:p+X.length=q)(hY:q+Y.length=r)(hr:r≤L.length):(cu (cu L p X) q Y).take r=L.take p++X++Y∧(cu (cu L p X) q Y).length=L.length:=by
 have l1:=gv (ds:=L) (cs:=X) (o:=p) (by omega)
 refine⟨?_,(gv (by omega)).trans l1⟩
 rw[←hY,nJ (by omega),←hX,nJ (by omega)]
theorem Ue{L X Y:List DV}{p q r:Nat}(hX:p+X.length=q)(hY:q+Y.length=r)(hr:r≤L.length):(cu (cu L q Y) p X).take r=L.take p++X++Y∧(cu (cu L q Y) p X).length=L.length:=by
 have l1:=gv (ds:=L) (cs:=Y) (o:=q) (by omega)
 refine⟨?_,(gv (by omega)).trans l1⟩
 have e:cu (cu L q Y) p X=L.take p++X++(Y++L.drop r):=by
  have h1:=Gi (ds:=L) (cs:=Y) (o:=q) (by omega)
  have h2:=ph (ds:=L) (cs:=Y) (o:=q) (k:=p) (by omega) (by omega)
  rw[hY]at h1
  show(cu L q Y).take p++X++(cu L q Y).drop (p+X.length)=_
  rw[hX,h1,h2]
 rw[e,←List.append_assoc]
 have hl:(L.take p++X++Y).length=r:=by simp only[List.length_append,List.length_take];omega
 rw[←hl,List.take_left]
theorem H2{s c i:Nat}{xs:List DV}(he:sy s xs)(hi:i≤xs.length):(gT s c xs).take (i*s)=(xs.take i).flatMap cd:=by
 have e:xs.flatMap cd=(xs.take i).flatMap cd++(xs.drop i).flatMap cd:=by rw[←List.flatMap_append,List.take_append_drop]
 have l1:((xs.take i).flatMap cd).length=i*s:=by rw[iw (iB he _),List.length_take];congr 1;omega
 unfold gT
 rw[e,List.append_assoc,List.take_append_of_le_length (by omega),List.take_of_length_le (by omega)]
theorem MF{s c i:Nat}{xs:List DV}(he:sy s xs)(hi:i≤xs.length):((gT s c xs).drop (i*s)).take ((xs.length-i)*s)=(xs.drop i).flatMap cd:=by
 have e:xs.flatMap cd=(xs.take i).flatMap cd++(xs.drop i).flatMap cd:=by rw[←List.flatMap_append,List.take_append_drop]
 have l1:((xs.take i).flatMap cd).length=i*s:=by rw[iw (iB he _),List.length_take];congr 1;omega
 have l2:((xs.drop i).flatMap cd).length=(xs.length-i)*s:=by rw[iw (iI he _),List.length_drop]
 unfold gT
 rw[e,List.append_assoc,List.drop_append,l1,List.drop_eq_nil_of_le (by omega),List.nil_append,Nat.sub_self,List.drop_zero,List.take_append_of_le_length (by omega),List.take_of_length_le (by omega)]
theorem W9(w0:W0)(S:St)(l:Nat)(xs:List DV)(i:Nat)(x:DV)(hl:lk S.acc l=some (.arr 6 xs))(he:sy 6 xs)(hn:xs≠[])(hi:i≤xs.length)(hx:eK x=true)(hx6:(cd x).length=6)(hb:xs.length≤524288):
 aa Tryz.prog w0 62 [.acc l xs.length,dI i,.sl 6 false [x]] S fun d S'=>∃m:FN S.acc,d= .acc m.n (xs.length+1)∧S'=⟨S.box,rI S.acc l (m.n,.arr 6 (xs.take i++[x]++xs.drop i))⟩:=by
 have hyl:(xs.take i++[x]++xs.drop i).length=xs.length+1:=by simp only[List.length_append,List.length_take,List.length_drop,List.length_singleton];omega
 refine(lS (P:=Tryz.prog) (w0:=w0) (K:=fun ys=>ys=xs.take i++[x]++xs.drop i) hl hn (by omega) he fun b c hbn hc1 hc2=>?_).mono ?_
 ·have hrow:=mM he hc1
  have htk:=fun k h=>H2 (s:=6) (c:=c) (i:=k) he h
  have hmd:=MF (s:=6) (c:=c) he hi
  generalize gT 6 c xs=ds at*
  have e1:IntKind.i64.wrap ((xs.length:Int)+1)=((xs.length+1:Nat):Int):=by rw[ba (by omega) (by omega)];rfl
  have e2:IntKind.i64.wrap (((xs.length+1:Nat):Int)-i)=((xs.length+1-i:Nat):Int):=by rw[ba (by omega) (by omega)];omega
  have e3:IntKind.i64.wrap ((i:Int)+1)=((i+1:Nat):Int):=by rw[ba (by omega) (by omega)];rfl
  refine nt [] mx Tryz.func62 rfl rfl (by kernel_rfl) ?_;simp(maxDischargeDepth:=12) (maxSteps:=1000000) -implicitDefEqProofs only[Tryz.ntmps62,go_sem,Nat.reduceAdd,Nat.reduceSub,Nat.reduceMul,Nat.reduceLeDiff,Nat.reduceEqDiff,Nat.reduceGT,Nat.reduceBEq,reduceCtorEq,↓reduceIte,Int.reduceToNat,Int.reduceLE,Int.reduceLT,Int.reduceNe,Int.reduceEq,e1,e2,e3,Nat.sub_zero,ite_self,Int.toNat_natCast,List.drop_zero]
  have hels:sy 6 (xs.take i++[x]++xs.drop i):=po (po (iB he _) fun d hd=>by rw[List.mem_singleton]at hd;subst hd;exact⟨hx,hx6⟩) (iI he _)
  have hcat:(xs.take i++[x]++xs.drop i).flatMap cd=ds.take (i*6)++cd x++(xs.drop i).flatMap cd:=by
   rw[htk i hi,List.flatMap_append,List.flatMap_append,List.flatMap_cons,List.flatMap_nil,List.append_nil]
  have hmdl:((xs.drop i).flatMap cd).length=(xs.length-i)*6:=by rw[iw (iI he _),List.length_drop]
  have hxc:[x].flatMap cd=cd x:=by simp
  have hok:∀d,d∈[x]→eK d=true:=fun d hd=>by rw[List.mem_singleton]at hd;subst hd;exact hx
  generalize hys:xs.take i++[x]++xs.drop i=ys at*
  have hf1:∀Z:List DV,S.box.Sublist (((b,Z)::S.box).filter fun p=>p.1 !=b):=fun Z=>by
   rw[List.filter_cons_of_neg (by simp)]
   rw[List.filter_eq_self.2 fun p hp=>by simpa using Y.j9 hbn p hp]
   exact List.Sublist.refl _
  have hf2:∀(b1:FN ((b,ds)::S.box)) (Z:List DV),S.box.Sublist (((b1.n,Z)::(b,ds)::S.box).filter fun p=>p.1 !=b1.n):=fun b1 Z=>by
   have h1:∀p,p∈(b,ds)::S.box→p.1≠b1.n:=Y.j9 b1.h
   rw[List.filter_cons_of_neg (by simp)]
   rw[List.filter_eq_self.2 fun p hp=>by simpa using h1 p hp]
   exact List.sublist_cons_self _ _
  have hcd:=hx6
  rw[hxc]
  generalize cd x=X at*
  generalize (xs.drop i).flatMap cd=Y at*
  have hzl:=vQ (z:= .agg [.v (.string ByteArray.empty),.v (.int .i64 0),.v (.bool false),.sl 0 true [],.sl 0 true [],.sl 0 true []]) (s:=6) rfl (xs.length+1-i)
  generalize iV (.agg [.v (.string ByteArray.empty),.v (.int .i64 0),.v (.bool false),.sl 0 true [],.sl 0 true [],.sl 0 true []]) (xs.length+1-i)=Z at*
  refine⟨hi,hc1,fun hin=>⟨by omega,hc1,hok,fun h1=>?_,fun h1=>⟨by omega,by unfold maxLen at *;omega,fun C h2 h3 b1=>?_⟩⟩,fun hin=>⟨fun h1=>?_,fun h1=>?_⟩⟩
  ·refine⟨b,c,cu ds (xs.length*6) X,ys,_,rfl,by rw[hyl],by simp only[lk,if_true],rfl,hf1 _,hels,?_,(gv (by omega)).trans hrow,by omega,hc2⟩
   have h2:=nJ (ds:=ds) (cs:=X) (o:=xs.length*6) (by omega)
   have hY:Y=[]:=List.eq_nil_of_length_eq_zero (by omega)
   rw[hyl,hcat,hin,hY,show(xs.length+1)*6=xs.length*6+X.length by omega,h2];simp
  ·have hY:Y=[]:=List.eq_nil_of_length_eq_zero (by omega)
   refine⟨b1.n,C,_,ys,_,rfl,by rw[hyl],by simp only[lk,if_true];rfl,rfl,hf2 b1 _,hels,?_,?_,by omega,h3⟩
   ·rw[hyl,hcat,hin,hY,List.append_nil]
    rw[List.take_append_of_le_length (by simp only[List.length_append,List.length_take];omega)]
    exact List.take_of_length_le (by simp only[List.length_append,List.length_take];omega)
   ·simp only[List.length_append,List.length_take,List.length_replicate];omega
  ·have e4:i+(xs.length+1-i)=xs.length+1:=by omega
   rw[e4]
   refine⟨by omega,by omega,by omega,by omega,by omega,by omega,by unfold maxLen at *;omega,fun C h2 h3 b1=>?_⟩
   have e5:¬C=i:=by omega
   have e6:¬C=i+1:=by omega
   have e7:¬c=i:=by omega
   have e8:min (xs.length-i) (xs.length+1-(i+1))=xs.length-i:=by omega
   simp only[e5,e6,e7,e8,if_false,hmd]
   have hL:(ds.take (i*6)++Z++List.replicate ((C-(xs.length+1))*6) DV.any).length=C*6:=by
    simp only[List.length_append,List.length_take,List.length_replicate];omega
   have hLt:(ds.take (i*6)++Z++List.replicate ((C-(xs.length+1))*6) DV.any).take (i*6)=ds.take (i*6):=by
    rw[List.append_assoc,List.take_append_of_le_length (by simp only[List.length_take];omega),List.take_take,Nat.min_self]
   generalize ds.take (i*6)++Z++List.replicate ((C-(xs.length+1))*6) DV.any=L at*
   have hp:=Ut (L:=L) (X:=X) (Y:=Y) (p:=i*6) (q:=(i+1)*6) (r:=(xs.length+1)*6) (by omega) (by omega) (by omega)
   refine⟨by omega,by omega,by simp only[List.length_replicate];omega,hok,by omega,by omega,by omega,hi,hc1,?_,by omega,b1.n,C,_,ys,_,rfl,by rw[hyl],by simp only[lk,if_true];rfl,rfl,hf2 b1 _,hels,?_,?_,by omega,h3⟩
   ·rw[gv (by omega)];omega
   ·rw[hyl,hp.1,hLt,hcat]
   ·rw[hp.2,hL]
  ·refine⟨by omega,hi,by omega,?_⟩
   refine Xc (t:=Tryz.f113.params.getD 0 0) (tb:=Tryz.f113.resultTypes.getD 0 0) (e:=dJ Tryz.prog (Tryz.f113.params.getD 0 0)) Tryz.func113 (by kernel_rfl) rfl (by kernel_rfl) (by kernel_rfl) (by kernel_rfl) (size:=6) (fun w=>rfl) (by omega) false [x] (ds:=ds) (by simp only[lk,if_true]) _ _ _ ?_
   simp(maxDischargeDepth:=12) (maxSteps:=1000000) -implicitDefEqProofs only[go_sem,Nat.reduceAdd,Nat.reduceSub,Nat.reduceMul,Nat.reduceLeDiff,Nat.reduceEqDiff,Nat.reduceGT,Nat.reduceBEq,reduceCtorEq,↓reduceIte,Int.reduceToNat,Int.reduceLE,Int.reduceLT,Int.reduceNe,Int.reduceEq,e1,e2,e3,Nat.sub_zero,ite_self,Int.toNat_natCast,List.drop_zero]
   have e5:¬c=i+1:=by omega
   have e7:¬c=i:=by omega
   have e8:min (xs.length+1-i) (xs.length+1-(i+1))=xs.length-i:=by omega
   simp only[e5,e7,e8,if_false,hmd,hxc]
   have hp:=Ue (L:=ds) (X:=X) (Y:=Y) (p:=i*6) (q:=(i+1)*6) (r:=(xs.length+1)*6) (by omega) (by omega) (by omega)
   refine⟨hi,by omega,by omega,by omega,by omega,by omega,by omega,by omega,?_,hok,by omega,b,c,cu (cu ds ((i+1)*6) Y) (i*6) X,ys,_,rfl,by rw[hyl],by simp only[lk,if_true],rfl,hf1 _,hels,?_,?_,by omega,hc2⟩
   ·rw[gv (by omega)];omega
   ·rw[hyl,hp.1,hcat]
   ·rw[hp.2,hrow]
 ·rintro d S' ⟨ys,m,rfl,rfl,rfl⟩
  exact⟨m,by rw[hyl],rfl⟩
theorem VN(w0:W0)(S:St)(l:Nat)(x:DV)(hl:lk S.acc l=some (.arr 6 []))(hx:eK x=true)(hx6:(cd x).length=6):
 aa Tryz.prog w0 62 [.acc l 0,dI 0,.sl 6 false [x]] S fun d S'=>d= .acc l 1∧S'=⟨S.box,up S.acc l (.tl 6 [x])⟩:=by
 refine nt [] mx Tryz.func62 rfl rfl (by kernel_rfl) ?_;(refine @ab _ ?_;refine aO @Tryz.ntmps62 @hl ?_)
 unfold maxLen;omega
theorem oW:∀{d e:Nat} {n:N},Nd d n→Nd e n→d=e
 |0,0,_,_,_=>rfl
 |0,e+1,n,h,k=>by have:=h.1;rw[k.1]at this;cases this
 |d+1,0,n,h,k=>by have:=h.1;rw[k.1]at this;cases this
 |d+1,e+1,n,h,k=>by
  obtain⟨c,hc⟩:=List.exists_mem_of_ne_nil _ h.2.1
  obtain⟨_,x,hx,h1⟩:=h.2.2 c hc
  obtain⟨_,y,hy,h2⟩:=k.2.2 c hc
  rw[hx]at hy;cases hy
  rw[oW h1 h2]
def TB(k:Nat)(n:N):Prop:=gV n∧∃d,Good d n∧d≤k∧bd n≤120*k
theorem lL{k m:Nat}{n:N}(h:TB k n)(hm:k≤m):TB m n:=let⟨h1,d,h2,h3,h4⟩:=h;⟨h1,d,h2,by omega,by omega⟩
theorem tu{k:Nat}{n:N}{key val:ByteArray}(h:TB k n)(hk:k≤116)(h0:key≠aZ)(h1:key.size≤16)(h2:val.size≤400):TB (k+1) (ld key val n):=by
 obtain⟨hr,d,hg,hd,ht⟩:=h
 have hr':=(kF (val:=val) h0 h1 h2 hr).1
 obtain⟨d',hg',q⟩:=hr'
 obtain⟨e,he,hn,hT⟩:=Tl h1 h2 (aw hg)
 have:=oW (aw hg') hn
 exact⟨⟨d',hg',q⟩,d',hg',by omega,by omega⟩
theorem Cb{k:Nat}{n:N}{key:ByteArray}(h:TB k n)(hk:k≤116):TB (k+1) (mg key n):=by
 obtain⟨hr,d,hg,hd,ht⟩:=h
 have hr':=(pC key hr).1
 obtain⟨d',hg',q⟩:=hr'
 obtain⟨e,he,hn,hT⟩:=SB (key:=key) (aw hg)
 have:=oW (aw hg') hn
 exact⟨⟨d',hg',q⟩,d',hg',by omega,by omega⟩
theorem RP(k:Nat):TB k mi:=⟨yW,0,yj,by omega,by show 0≤_;omega⟩
theorem EM(w0:W0){k:Nat}{n:N}{key val:ByteArray}(h:TB k n)(hk:k≤116)(h1:key.size≤16)(h2:val.size≤400)(S:St):aa Tryz.prog w0 65 [eT n,dS key,dS val] S (fun e S'=>e=eT (ld key val n)∧S'=S):=by
 obtain⟨hr,d,hg,hd,ht⟩:=h
 exact YQ w0 key val h1 h2 d n S hg (by omega)
theorem R4(w0:W0){k:Nat}{n:N}{key:ByteArray}(h:TB k n)(hk:k≤116)(S:St):aa Tryz.prog w0 70 [eT n,dS key] S (fun e S'=>e= .bN [eT (mg key n),dB (cF key n).isSome]∧S'=S):=by
 obtain⟨hr,d,hg,hd,ht⟩:=h
 refine ZH w0 key n S hr fun e he=>?_
 have:=oW he (aw hg)
 omega
theorem Uy(w0:W0){k:Nat}{n:N}{key:ByteArray}(h:TB k n)(hk:k≤116)(S:St):aa Tryz.prog w0 117 [eT n,dS key] S (fun e S'=>e= .bN [dS ((cF key n).getD aZ),dB (cF key n).isSome]∧S'=S):=by
 obtain⟨hr,d,hg,hd,ht⟩:=h
 exact RN w0 key d n S hg (by omega)
def AF:ByteArray:=⟨#[0,0]⟩
def cV(f:ByteArray→ByteArray)(c:C):C:= .mk c.key (f c.key) [] []
def Wh(E l:List C):Prop:=∃f:ByteArray→ByteArray,(∀k,(f k).size=2)∧E=l.map (cV f)
def vA(f:ByteArray→ByteArray)(x v:ByteArray):ByteArray→ByteArray:=fun k=>if k=x then v else f k
theorem FP{f:ByteArray→ByteArray}{x v:ByteArray}:vA f x v x=v:=if_pos rfl
theorem EO{f:ByteArray→ByteArray}{x v k:ByteArray}(h:k≠x):vA f x v k=f k:=if_neg h
theorem rm{f:ByteArray→ByteArray}{x v:ByteArray}(hf:∀k,(f k).size=2)(hv:v.size=2)(k:ByteArray):(vA f x v k).size=2:=by
 unfold vA;split
 ·exact hv
 ·exact hf k
theorem lx{f:ByteArray→ByteArray}{x v:ByteArray}{A:List C}(h:∀a,a∈A→a.key≠x):A.map (cV (vA f x v))=A.map (cV f):=List.map_congr_left fun a ha=>by unfold cV;rw[EO (h a ha)]
theorem xW{f:ByteArray→ByteArray}{x v:ByteArray}{c:C}(h:c.key=x):cV (vA f x v) c= .mk x v [] []:=by unfold cV;rw[h,FP]
structure VI(k:Nat)(n:N)(l:List C):Prop where
 dir:TB k n
 bW:dj l
 cell:∀c,c∈l→c=af c.key (ay c)∧TB k (ay c)∧gE c.key=true
 len:l.length≤k
 en:Wh (de n) l
theorem Ru(k:Nat):VI k mi []:=⟨RP k,List.Pairwise.nil,fun c hc=>absurd hc List.not_mem_nil,Nat.zero_le _,fun _=>AF,fun _=>rfl,rfl⟩
def mI(name:ByteArray)(n:N)(l:List C):(N×List C)×Int:=
 if gE name then(if dE l name then((n,l),38)else((ld name AF n,l.take (bk l name)++[af name mi]++l.drop (bk l name)),0))else((n,l),34)
theorem dp{k:ByteArray}(h:gE k=true):k≠aZ∧k.size≤16:=by
 unfold gE at h
 simp only[Bool.and_eq_true,decide_eq_true_eq]at h
 exact⟨fun e=>by rw[e,bC]at h;omega,h.2⟩
theorem R9(w0:W0)(k:Nat)(name:ByteArray)(n:N)(l:List C)(S:St)(h:VI k n l)(hk:k≤116):aa Tryz.prog w0 26 [eV n l,dS name] S (fun d S'=>d= .bN [eV (mI name n l).1.1 (mI name n l).1.2,dI (mI name n l).2]∧S'=S):=by
 have hln:=h.len
 have hdir:=h.dir
 have hrise:=h.bW
 clear h
 have hil:=Lw l name
 have hput:=fun(a:name.size≤16) S=>EM w0 (key:=name) (val:=AF) hdir hk a (by decide) S
 have q1:gE name=false→mI name n l=((n,l),34):=fun e=>by unfold mI;rw[e];rfl
 have q2:gE name=true→dE l name=true→mI name n l=((n,l),38):=fun e f=>by unfold mI;rw[e,f];rfl
 have q3:gE name=true→dE l name=false→mI name n l=((ld name AF n,l.take (bk l name)++[af name mi]++l.drop (bk l name)),0):=fun e f=>by unfold mI;rw[e,f];rfl
 have hcl:=xh w0 (l.map lD)
 have hx6:(cd (lD (af name mi))).length=6:=rfl
 have hx:eK (lD (af name mi))=true:=rfl
 generalize ld name AF n=D at*
 generalize hI:bk l name=i at*
 generalize mI name n l=R at*
 refine aY [7] mx Tryz.func26 rfl rfl (by kernel_rfl) ?_;(refine @ab _ ?_;refine ao @Tryz.ntmps26 ?_)
 intro b b1
 refine aq (I5 w0 n l name _ hrise (by omega)) ?_
 (refine @ab _ ?_;refine au ?_)
 refine aq (WC w0 name _) ?_
 (refine @ab _ ?_;refine au ?_)
 cases hok:gE name with
 |false=>
  rw[q1 hok]
  (refine @ab _ ?_;exact aK)
  all_goals exact .refl _
 |true=>
  (refine @ab _ ?_;refine au ?_)
  refine⟨fun hh=>by rw[q2 hok hh];exact .refl _,fun hh=>?_⟩
  rw[q3 hok hh]
  obtain⟨_,hsz⟩:=dp hok
  refine bB (hcl _ (by rw[List.length_map];omega)) ?_
  rintro d S' ⟨b2,rfl,rfl⟩
  (refine @ab _ ?_;refine au ?_)
  refine aq (YA w0 _) ?_
  (refine @ab _ ?_;refine au ?_)
  rw[hI]
  refine .inl ?_
  by_cases hl:l=[]
  ·subst hl
   obtain rfl:i=0:=by simpa using hil
   refine bB (VN w0 _ b2.n (lD (af name mi)) (by(refine @ab _ ?_;exact aK)) hx hx6) ?_ ⟨.refl _,.refl _,.full _ _ _,trivial⟩
   rintro d S' ⟨rfl,rfl⟩
   (refine @ab _ ?_;refine au ?_)
   refine fQ [] [8] mx (by kernel_rfl) ?_
   (refine @ab _ ?_;refine au ?_)
   refine aT (tH w0 _) ?_
   (refine @ab _ ?_;refine au ?_)
   refine aT (hput hsz _) ?_
   (refine @ab _ ?_;exact aK)
  ·refine bB (W9 w0 _ b2.n (l.map lD) i (lD (af name mi)) (by(refine @ab _ ?_;exact aK)) (fun d hd=>by obtain⟨c,_,rfl⟩:=List.mem_map.1 hd;exact⟨rfl,rfl⟩) (by simpa using hl) (by rw[List.length_map];exact hil) hx hx6 (by rw[List.length_map];omega)) ?_ ⟨.eq (by rw[List.length_map]),.refl _,.full _ _ _,trivial⟩
   rintro d S' ⟨m,rfl,rfl⟩
   (refine @ab _ ?_;refine au ?_)
   refine fQ [] [8] mx (by kernel_rfl) ?_
   (refine @ab _ ?_;refine au ?_)
   refine⟨by omega,aT (tH w0 _) ?_⟩
   (refine @ab _ ?_;refine au ?_)
   refine aT (hput hsz _) ?_
   (refine @ab _ ?_;refine au ?_)
   rw[List.map_append,List.map_append];exact .refl _
def we(name:ByteArray)(n:N)(l:List C):(N×List C)×Int:=
 if dE l name then((mg name n,l.take (bk l name)++l.drop (bk l name+1)),0)else((n,l),32)
theorem LP{l:List C}{name:ByteArray}(h:dE l name=true):bk l name<l.length:=by
 unfold dE at h
 split at h
 ·rename_i e;exact(List.getElem?_eq_some_iff.1 e).1
 ·cases h
theorem Vy(w0:W0)(k:Nat)(name:ByteArray)(n:N)(l:List C)(S:St)(h:VI k n l)(hk:k≤116):aa Tryz.prog w0 30 [eV n l,dS name] S (fun d S'=>d= .bN [eV (we name n l).1.1 (we name n l).1.2,dI (we name n l).2]∧S'=S):=by
 have hln:=h.len
 have hdir:=h.dir
 have hrise:=h.bW
 clear h
 have hlt:=LP (l:=l) (name:=name)
 have hdel:=fun S=>R4 w0 (key:=name) hdir hk S
 have q1:dE l name=false→we name n l=((n,l),32):=fun e=>by unfold we;rw[e];rfl
 have q2:dE l name=true→we name n l=((mg name n,l.take (bk l name)++l.drop (bk l name+1)),0):=fun e=>by unfold we;rw[e];rfl
 have hcl:=xh w0 (l.map lD)
 generalize mg name n=D at*
 generalize (cF name n).isSome=sm at*
 generalize we name n l=R at*
 refine aY [5] mx Tryz.func30 rfl rfl (by kernel_rfl) ?_;(refine @ab _ ?_;refine ao @Tryz.ntmps30 ?_)
 intro b b1
 refine aq (I5 w0 n l name _ hrise (by omega)) ?_
 generalize hI:bk l name=i at*
 (refine @ab _ ?_;refine au ?_)
 refine⟨fun hh=>?_,fun hh=>by rw[q1 hh];exact .refl _⟩
 rw[q2 hh]
 have hil:=hlt hh
 refine aq (hdel _) ?_
 (refine @ab _ ?_;refine au ?_)
 intro b2
 refine Y.mn [3,7] [8] [1,4,5,6,0,2,3,7,8,9,10] mx (by kernel_rfl) ?_
 (refine @ab _ ?_;refine au ?_)
 refine bB (hcl _ (by rw[List.length_map];omega)) ?_
 rintro d S' ⟨l1,rfl,rfl⟩
 (refine @ab _ ?_;refine au ?_)
 rw[aW i (by omega)]
 refine .inl (bB (Y4 w0 _ l1.n (l.map lD) i (by(refine @ab _ ?_;exact aK)) (fun d hd=>by obtain⟨c,_,rfl⟩:=List.mem_map.1 hd;exact⟨rfl,rfl⟩) (by rw[List.length_map];exact hil) (by rw[List.length_map];omega)) ?_ ⟨.eq (by rw[List.length_map]),.refl _,.refl _,trivial⟩)
 rintro d S' ⟨m1,rfl,rfl⟩
 (refine @ab _ ?_;refine au ?_)
 omega
def ve(name:ByteArray)(f:N→N×Int)(n:N)(l:List C):(N×List C)×Int:=
 if dE l name then(match l[bk l name]? with
  |some c=>if(f (ay c)).2=0 then((ld name AF n,l.set (bk l name) (af c.key (f (ay c)).1)),0)else((n,l),(f (ay c)).2)
  |none=>((n,l),32))else((n,l),32)
theorem Dd{l:List C}{name:ByteArray}(h:dE l name=true):∃c,l[bk l name]? =some c∧c.key=name:=by
 unfold dE at h
 split at h
 ·rename_i c e;exact⟨c,e,cR.1 h⟩
 ·cases h
theorem FG(w0:W0)(k:Nat)(name:ByteArray)(f:N→N×Int)(g:Nat)(cs:List Value)(n:N)(l:List C)(S:St)(h:VI k n l)(hk:k≤116)
 (hg:okF Tryz.prog g=true) (hcs:cs.all (fun u=>u.oneCell')=true)
 (hf:∀c,l[bk l name]? =some c→∀T,Has S T→aa Tryz.prog w0 g (eT (ay c)::cs.map .v) T (fun d S'=>d= .bN [eT (f (ay c)).1,dI (f (ay c)).2]∧S'=T)):
 aa Tryz.prog w0 67 [eV n l,dS name,.v (.func (.func g) #[] cs.toArray)] S (fun d S'=>d= .bN [eV (ve name f n l).1.1 (ve name f n l).1.2,dI (ve name f n l).2]∧S'=S):=by
 have hln:=h.len
 have hdir:=h.dir
 have hrise:=h.bW
 have hsz:dE l name=true→name.size≤16:=fun hh=>by
  obtain⟨c,hc,rfl⟩:=Dd hh
  exact(dp (h.cell c (List.mem_of_getElem? hc)).2.2).2
 clear h
 have hlt:=LP (l:=l) (name:=name)
 have hput:=fun(a:name.size≤16) S=>EM w0 (key:=name) (val:=AF) hdir hk a (by decide) S
 have q1:dE l name=false→ve name f n l=((n,l),32):=fun e=>by unfold ve;rw[e];rfl
 have q2:dE l name=true→∀c,l[bk l name]? =some c→(f (ay c)).2≠0→ve name f n l=((n,l),(f (ay c)).2):=fun e c hc h0=>by unfold ve;rw[e,hc];simp only[if_true];rw[if_neg h0]
 have q3:dE l name=true→∀c,l[bk l name]? =some c→(f (ay c)).2=0→ve name f n l=((ld name AF n,l.set (bk l name) (af c.key (f (ay c)).1)),0):=fun e c hc h0=>by unfold ve;rw[e,hc];simp only[if_true];rw[if_pos h0]
 have hcl:=xh w0 (l.map lD)
 generalize ld name AF n=D at*
 generalize ve name f n l=R at*
 refine aY [9] mx Tryz.func67 rfl rfl (by kernel_rfl) ?_;(refine @ab _ ?_;refine ao @Tryz.ntmps67 ?_)
 intro b b1
 refine aq (I5 w0 n l name _ hrise (by omega)) ?_
 generalize hI:bk l name=i at*
 (refine @ab _ ?_;refine au ?_)
 refine⟨fun hh=>?_,fun hh=>by rw[q1 hh];exact .refl _⟩
 have hil:=hlt hh
 refine⟨hil,fun c hc=>?_⟩
 (refine @ab _ ?_;refine aO @hg @hcs ?_)
 have hF:=hf c hc
 have q2':=q2 hh c hc
 have q3':=q3 hh c hc
 generalize (f (ay c)).1=m at*
 generalize (f (ay c)).2=e at*
 refine⟨hcs,aq (hF _ (by(refine @ab _ ?_;exact aK))) ?_⟩
 (refine @ab _ ?_;refine au ?_)
 intro b2
 refine⟨fun he=>by rw[q2' he];exact .refl _,fun he=>?_⟩
 rw[q3' (Classical.not_not.1 he)]
 refine bB (hcl _ (by rw[List.length_map];omega)) ?_
 rintro d S' ⟨l1,rfl,rfl⟩
 (refine @ab _ ?_;refine au ?_)
 refine⟨hil,hil,fun a ha=>?_⟩
 cases bq hc ha
 refine fQ [] [12] mx (by kernel_rfl) ?_
 (refine @ab _ ?_;refine au ?_)
 refine aT (tH w0 _) ?_
 (refine @ab _ ?_;refine au ?_)
 refine aT (hput (hsz hh) _) ?_
 (refine @ab _ ?_;refine au ?_)
 rw[List.map_set]
 exact .refl _
def sN(name key val:ByteArray)(n:N)(l:List C):(N×List C)×Int:=
 if gE key&&decide (val.size≤400)then ve name (fun t=>(ld key val t,0)) n l else((n,l),34)
def Oq(name key:ByteArray)(n:N)(l:List C):(N×List C)×Int:=
 ve name (fun t=>if(cF key t).isSome then(mg key t,0)else(t,33)) n l
theorem Zb(w0:W0)(k:Nat)(key val:ByteArray)(t:N)(b1 b2:Nat)(T:St)(ht:TB k t)(hk:k≤116)(hs:key.size≤16)(hv:val.size≤400)(h1:lk T.box b1=some [dS key])(h2:lk T.box b2=some [dS val]):
 aa Tryz.prog w0 68 [eT t,.v (.pointer (some ⟨b1,0,none⟩)),.v (.pointer (some ⟨b2,0,none⟩))] T (fun d S'=>d= .bN [eT (ld key val t),dI 0]∧S'=T):=by
 have hp:=fun S=>EM w0 ht hk hs hv S
 generalize ld key val t=p at*
 refine aY [] mx Tryz.func68 rfl rfl (by kernel_rfl) ?_;simp only[Tryz.ntmps68,List.length_cons,List.length_nil,Nat.reduceAdd,Nat.reduceSub,List.reduceReplicate,List.cons_append,List.nil_append];(refine @ab _ ?_;refine fa @Tryz.ntmps68 @h1 @h2 ?_)
 intro b b3
 refine aq (hp _) ?_
 (refine @ab _ ?_;exact re @h1 @h2)
theorem ZB(w0:W0)(k:Nat)(key:ByteArray)(t:N)(b1:Nat)(T:St)(ht:TB k t)(hk:k≤116)(h1:lk T.box b1=some [dS key]):
 aa Tryz.prog w0 72 [eT t,.v (.pointer (some ⟨b1,0,none⟩))] T (fun d S'=>d= .bN [eT (if(cF key t).isSome then(mg key t,(0:Int))else(t,33)).1,dI (if(cF key t).isSome then(mg key t,(0:Int))else(t,33)).2]∧S'=T):=by
 have hp:=fun S=>R4 w0 (key:=key) ht hk S
 generalize (cF key t).isSome=sm at*
 generalize mg key t=p at*
 refine aY [] mx Tryz.func72 rfl rfl (by kernel_rfl) ?_;simp only[Tryz.ntmps72,List.length_cons,List.length_nil,Nat.reduceAdd,Nat.reduceSub,List.reduceReplicate,List.cons_append,List.nil_append];(refine @ab _ ?_;refine aO @Tryz.ntmps72 @h1 ?_)
 intro b b3
 refine aq (hp _) ?_
 (refine @ab _ ?_;refine ao @h1 ?_)
 intro b4
 refine⟨fun h=>?_,fun h=>?_⟩
 all_goals rw[h];exact .refl _
theorem V5(w0:W0)(k:Nat)(name key val:ByteArray)(n:N)(l:List C)(S:St)(h:VI k n l)(hk:k≤116):aa Tryz.prog w0 27 [eV n l,dS name,dS key,dS val] S (fun d S'=>d= .bN [eV (sN name key val n l).1.1 (sN name key val n l).1.2,dI (sN name key val n l).2]∧S'=S):=by
 have q1:gE key=false→sN name key val n l=((n,l),34):=fun e=>by unfold sN;rw[e];rfl
 have q2:¬val.size≤400→sN name key val n l=((n,l),34):=fun e=>by unfold sN;rw[decide_eq_false e,Bool.and_false];rfl
 have q3:gE key=true→val.size≤400→sN name key val n l=ve name (fun t=>(ld key val t,0)) n l:=fun e f=>by unfold sN;rw[e,decide_eq_true f];rfl
 have hch:=fun g cs S=>FG w0 k name (fun t=>(ld key val t,0)) g cs n l S h hk
 generalize sN name key val n l=R at*
 generalize ve name (fun t=>(ld key val t,0)) n l=Q at*
 refine aY [] mx Tryz.func27 rfl rfl (by kernel_rfl) ?_;(refine @ab _ ?_;refine ao @Tryz.ntmps27 ?_)
 intro b b1 b2 b3
 refine aq (WC w0 key _) ?_
 (refine @ab _ ?_;refine au ?_)
 refine⟨fun e=>by rw[q1 e];exact .refl _,fun e=>⟨fun e2=>by rw[q2 (by omega)];exact .refl _,fun e2=>?_⟩⟩
 rw[q3 e (by omega)]
 refine aq (hch 68 [.pointer (some ⟨b1.n,0,none⟩),.pointer (some ⟨b2.n,0,none⟩)] _ (by kernel_rfl) rfl fun c hc T hT=>Zb w0 k key val (ay c) b1.n b2.n T (h.cell c (List.mem_of_getElem? hc)).2.1 hk (dp e).2 (by omega) (hT.box _ _ (by(refine @ab _ ?_;exact aK))) (hT.box _ _ (by(refine @ab _ ?_;exact aK)))) ?_
 (refine @ab _ ?_;exact aK)
theorem Qu(w0:W0)(k:Nat)(name key:ByteArray)(n:N)(l:List C)(S:St)(h:VI k n l)(hk:k≤116):aa Tryz.prog w0 31 [eV n l,dS name,dS key] S (fun d S'=>d= .bN [eV (Oq name key n l).1.1 (Oq name key n l).1.2,dI (Oq name key n l).2]∧S'=S):=by
 have hch:=fun g cs S=>FG w0 k name (fun t=>if(cF key t).isSome then(mg key t,0)else(t,33)) g cs n l S h hk
 unfold Oq
 generalize ve name (fun t=>if(cF key t).isSome then(mg key t,0)else(t,33)) n l=Q at*
 refine aY [] mx Tryz.func31 rfl rfl (by kernel_rfl) ?_;(refine @ab _ ?_;refine ao @Tryz.ntmps31 ?_)
 intro b b1 b2
 refine aq (hch 72 [.pointer (some ⟨b1.n,0,none⟩)] _ (by kernel_rfl) rfl fun c hc T hT=>ZB w0 k key (ay c) b1.n T (h.cell c (List.mem_of_getElem? hc)).2.1 hk (hT.box _ _ (by(refine @ab _ ?_;exact aK)))) ?_
 (refine @ab _ ?_;exact aK)
end Go.Proofs.YtpjenciplibdnaaGreatDoor
namespace Go.Proofs.YtpjenciplibdnaaGreatDoor
open Aml Go
open Aml Go
open Aml Go
open Aml Go
end Go.Proofs.YtpjenciplibdnaaGreatDoor
namespace Go.Proofs.YtpjenciplibdnaaGreatDoor
open Aml Go
theorem UQ{name:ByteArray}{l:List C}(h:dj l)(hn:dE l name=false):∃A B,l=A++B∧bk l name=A.length∧(∀a,a∈A→cI a.key name=true)∧∀b,b∈B→cI name b.key=true:=by
 obtain⟨A,B,hl,h1,h2⟩:=qw name h
 have hi:bk l name=A.length:=by rw[hl];exact pf h1 h2
 refine⟨A,B,hl,hi,h1,fun b hb=>?_⟩
 cases B with
 |nil=>cases hb
 |cons x B=>
  have hx:fh x.key name=false:=by
   unfold dE at hn
   rw[hi,hl,List.getElem?_append_right (Nat.le_refl _),Nat.sub_self]at hn
   exact hn
  have hxl:cI name x.key=true:=by
   rcases nC x.key name with q|q|q
   ·rw[h2 x List.mem_cons_self]at q;cases q
   ·exact absurd q (dc.1 hx)
   ·exact q
  rcases List.mem_cons.1 hb with rfl|hb
  ·exact hxl
  ·have hr:dj (x::B):=by rw[hl]at h;exact(List.pairwise_append.1 h).2.1
   exact fT hxl ((List.pairwise_cons.1 hr).1 b hb)
theorem xt{name:ByteArray}{l:List C}(h:dj l)(hn:dE l name=true):∃A b B,l=A++b::B∧b.key=name∧bk l name=A.length∧(∀a,a∈A→cI a.key name=true)∧∀b,b∈B→cI name b.key=true:=by
 obtain⟨A,B,hl,h1,h2⟩:=qw name h
 have hi:bk l name=A.length:=by rw[hl];exact pf h1 h2
 obtain⟨c,hc,hk⟩:=Dd hn
 rw[hi,hl,List.getElem?_append_right (Nat.le_refl _),Nat.sub_self]at hc
 cases B with
 |nil=>cases hc
 |cons x B=>
  obtain rfl:x=c:=by simpa using hc
  have hr:dj (x::B):=by rw[hl]at h;exact(List.pairwise_append.1 h).2.1
  exact⟨A,x,B,hl,hk,hi,h1,fun b hb=>by rw[←hk];exact(List.pairwise_cons.1 hr).1 b hb⟩
theorem xe{name val:ByteArray}{A B M:List C}(h1:∀a,a∈A→cI a.key name=true)(h2:∀b,b∈B→cI name b.key=true)(hM:∀m,m∈M→m.key=name):o0 name val (A++M++B)=A++ .mk name val [] []::B:=by
 unfold o0
 simp only[List.filter_append]
 rw[eW h1,jO (l:=M) (fun m hm=>by rw[hM m hm,cK]),jO (l:=B) (fun b hb=>fm (h2 b hb)),jO (l:=A) (fun a ha=>fm (h1 a ha)),jO (l:=M) (fun m hm=>by rw[hM m hm,cK]),eW h2]
 simp
theorem Pd{name:ByteArray}{A B M:List C}(h1:∀a,a∈A→cI a.key name=true)(h2:∀b,b∈B→cI name b.key=true)(hM:∀m,m∈M→m.key=name):Bu name (A++M++B)=A++B:=by
 unfold Bu
 simp only[List.filter_append]
 rw[eW (l:=A) (fun a ha=>by rw[dc.2 (bP (h1 a ha))];rfl),jO (l:=M) (fun m hm=>by rw[hM m hm,fE];rfl),eW (l:=B) (fun b hb=>by rw[dc.2 (bP (h2 b hb)).symm];rfl)]
 simp
theorem AG{name:ByteArray}{A B:List C}{m:C}(h:dj (A++B))(h1:∀a,a∈A→cI a.key name=true)(h2:∀b,b∈B→cI name b.key=true)(hm:m.key=name):dj (A++m::B):=by
 unfold dj at*
 rw[List.pairwise_append]at h ⊢
 refine⟨h.1,List.pairwise_cons.2 ⟨fun b hb=>by rw[hm];exact h2 b hb,h.2.1⟩,fun a ha b hb=>?_⟩
 rcases List.mem_cons.1 hb with rfl|hb
 ·rw[hm];exact h1 a ha
 ·exact h.2.2 a ha b hb
theorem map_lt{name:ByteArray}{A:List C}{f:ByteArray→ByteArray}(h:∀a,a∈A→cI a.key name=true):∀a,a∈A.map (cV f)→cI a.key name=true:=fun a ha=>by
 obtain⟨c,hc,rfl⟩:=List.mem_map.1 ha;exact h c hc
theorem xP{name:ByteArray}{A:List C}{f:ByteArray→ByteArray}(h:∀a,a∈A→cI name a.key=true):∀a,a∈A.map (cV f)→cI name a.key=true:=fun a ha=>by
 obtain⟨c,hc,rfl⟩:=List.mem_map.1 ha;exact h c hc
theorem fJ{k m:Nat}{n:N}{l:List C}(h:VI k n l)(hm:k≤m):VI m n l:=⟨lL h.dir hm,h.bW,fun c hc=>⟨(h.cell c hc).1,lL (h.cell c hc).2.1 hm,(h.cell c hc).2.2⟩,Nat.le_trans h.len hm,h.en⟩
theorem wA(name:ByteArray)(t:N):ay (af name t)=t:=rfl
theorem Np{k:Nat}{n:N}{l:List C}(h:VI k n l)(hk:k≤116)(name:ByteArray):VI (k+1) (mI name n l).1.1 (mI name n l).1.2:=by
 unfold mI
 cases hok:gE name with
 |false=>exact fJ h (by omega)
 |true=>
  cases hh:dE l name with
  |true=>exact fJ h (by omega)
  |false=>
   obtain⟨A,B,hl,hi,h1,h2⟩:=UQ h.bW hh
   obtain⟨hne,hsz⟩:=dp hok
   have hlen:=h.len
   have e:l.take (bk l name)++[af name mi]++l.drop (bk l name)=A++af name mi::B:=by rw[hi,hl];simp
   simp only[if_true,if_false,Bool.false_eq_true]
   rw[e]
   have hr:=h.bW
   have hce:=h.cell
   obtain⟨g,hgs,hen⟩:=h.en
   rw[hl]at hr hce hlen
   refine⟨tu h.dir hk hne hsz (by decide),AG hr h1 h2 rfl,fun c hc=>?_,by simp only[List.length_append,List.length_cons]at *;omega,?_⟩
   ·have old:∀c,c∈A++B→c=af c.key (ay c)∧TB (k+1) (ay c)∧gE c.key=true:=fun c hc=>⟨(hce c hc).1,lL (hce c hc).2.1 (by omega),(hce c hc).2.2⟩
    rcases List.mem_append.1 hc with hc|hc
    ·exact old c (List.mem_append_left _ hc)
    ·rcases List.mem_cons.1 hc with rfl|hc
     ·exact⟨rfl,RP _,hok⟩
     ·exact old c (List.mem_append_right _ hc)
   ·refine⟨vA g name AF,rm hgs rfl,?_⟩
    rw[(kF (val:=AF) hne hsz (by decide) h.dir.1).2,hen,hl]
    have:=xe (name:=name) (val:=AF) (A:=A.map (cV g)) (B:=B.map (cV g)) (M:=[]) (map_lt h1) (xP h2) (fun m hm=>by cases hm)
    rw[List.append_nil]at this
    rw[List.map_append,this,List.map_append,List.map_cons,lx fun a ha=>bP (h1 a ha),lx (A:=B) fun b hb=>(bP (h2 b hb)).symm,xW (c:=af name mi) (x:=name) rfl]
theorem Sd{k:Nat}{n:N}{l:List C}(h:VI k n l)(hk:k≤116)(name:ByteArray):VI (k+1) (we name n l).1.1 (we name n l).1.2:=by
 unfold we
 cases hh:dE l name with
 |false=>exact fJ h (by omega)
 |true=>
  obtain⟨A,b,B,hl,hb,hi,h1,h2⟩:=xt h.bW hh
  have hlen:=h.len
  have e:l.take (bk l name)++l.drop (bk l name+1)=A++B:=by rw[hi,hl];simp
  simp only[if_true]
  rw[e]
  have hr:=h.bW
  have hce:=h.cell
  obtain⟨g,hgs,hen⟩:=h.en
  rw[hl]at hr hce hlen
  refine⟨Cb h.dir hk,hr.sublist (List.Sublist.append_left (List.sublist_cons_self _ _) _),fun c hc=>?_,by simp only[List.length_append,List.length_cons]at *;omega,?_⟩
  ·have hm:c∈A++b::B:=(List.Sublist.append_left (List.sublist_cons_self _ _) _).subset hc
   exact⟨(hce c hm).1,lL (hce c hm).2.1 (by omega),(hce c hm).2.2⟩
  ·refine⟨g,hgs,?_⟩
   rw[(pC name h.dir.1).2,hen,hl]
   have:=Pd (name:=name) (A:=A.map (cV g)) (B:=B.map (cV g)) (M:=[cV g b]) (map_lt h1) (xP h2) (fun m hm=>by rw[List.mem_singleton]at hm;subst hm;exact hb)
   rw[List.map_append,List.map_append,List.map_cons,←this];simp
theorem Rq{k:Nat}{n:N}{l:List C}(h:VI k n l)(hk:k≤116)(name:ByteArray)(f:N→N×Int)(hf:∀t,TB k t→TB (k+1) (f t).1):VI (k+1) (ve name f n l).1.1 (ve name f n l).1.2:=by
 unfold ve
 cases hh:dE l name with
 |false=>exact fJ h (by omega)
 |true=>
  obtain⟨A,b,B,hl,hb,hi,h1,h2⟩:=xt h.bW hh
  have hlen:=h.len
  have hgb:l[bk l name]? =some b:=by rw[hi,hl];simp
  simp only[if_true,hgb]
  split
  ·have hr:=h.bW
   have hce:=h.cell
   obtain⟨g,hgs,hen⟩:=h.en
   have e:l.set (bk l name) (af b.key (f (ay b)).1)=A++af b.key (f (ay b)).1::B:=by rw[hi,hl];simp
   simp only
   rw[e]
   rw[hl]at hr hce hlen
   have hbc:=hce b (by simp)
   obtain⟨hne,hsz⟩:=dp hbc.2.2
   rw[hb]at hne hsz
   have hr2:dj (A++B):=hr.sublist (List.Sublist.append_left (List.sublist_cons_self _ _) _)
   refine⟨tu h.dir hk hne hsz (by decide),AG hr2 h1 h2 hb,fun c hc=>?_,by simp only[List.length_append,List.length_cons]at *;omega,?_⟩
   ·have old:∀c,c∈A++b::B→c=af c.key (ay c)∧TB (k+1) (ay c)∧gE c.key=true:=fun c hc=>⟨(hce c hc).1,lL (hce c hc).2.1 (by omega),(hce c hc).2.2⟩
    rcases List.mem_append.1 hc with hc|hc
    ·exact old c (List.mem_append_left _ hc)
    ·rcases List.mem_cons.1 hc with rfl|hc
     ·exact⟨rfl,hf _ hbc.2.1,hbc.2.2⟩
     ·exact old c (List.mem_append_right _ (List.mem_cons_of_mem _ hc))
   ·refine⟨vA g name AF,rm hgs rfl,?_⟩
    rw[(kF (val:=AF) hne hsz (by decide) h.dir.1).2,hen,hl]
    have:=xe (name:=name) (val:=AF) (A:=A.map (cV g)) (B:=B.map (cV g)) (M:=[cV g b]) (map_lt h1) (xP h2) (fun m hm=>by rw[List.mem_singleton]at hm;subst hm;exact hb)
    rw[List.map_append,List.map_cons,List.map_append,List.map_cons]
    have e2:List.map (cV g) A++cV g b::List.map (cV g) B=List.map (cV g) A++[cV g b]++List.map (cV g) B:=by simp
    rw[e2,this,lx fun a ha=>bP (h1 a ha),lx (A:=B) fun b hb=>(bP (h2 b hb)).symm,xW (c:=af b.key (f (ay b)).1) hb]
  ·exact fJ h (by omega)
end Go.Proofs.YtpjenciplibdnaaGreatDoor
namespace Go.Proofs.YtpjenciplibdnaaGreatDoor
open Aml Go
end Go.Proofs.YtpjenciplibdnaaGreatDoor
namespace Go.Proofs.YtpjenciplibdnaaGreatDoor
open Aml Go
structure Sv where
 op:Int
 name:ByteArray
 key:ByteArray
 byte:Int
 size:Int
def vaS(s:Sv):ByteArray:=strOfNums (List.replicate s.size.toNat s.byte)
theorem Ev(n:Nat)(x:Int):pn (List.replicate n (.v (.int .u8 x)))=true∧yX (List.replicate n (.v (.int .u8 x)))=List.replicate n x:=by
 induction n with
 |zero=>exact⟨rfl,rfl⟩
 |succ n ih=>
  rw[List.replicate_succ,List.replicate_succ]
  exact⟨ih.1,by show x::yX _=_;rw[ih.2]⟩
end Go.Proofs.YtpjenciplibdnaaGreatDoor
namespace Go.Proofs.YtpjenciplibdnaaGreatDoor
open Aml Go
end Go.Proofs.YtpjenciplibdnaaGreatDoor
namespace Go.Proofs.YtpjenciplibdnaaGreatDoor
open Aml Go
def Yb(s:Sv)(q:N×List C):(N×List C)×Int:=
 if s.op=0 then mI s.name q.1 q.2 else if s.op=1 then we s.name q.1 q.2 else if s.op=2 then sN s.name s.key (vaS s) q.1 q.2 else if s.op=3 then Oq s.name s.key q.1 q.2 else(q,0)
theorem Zj{s:Sv}{q:N×List C}(h:s.op=1):we s.name q.1 q.2=Yb s q:=by unfold Yb;rw[if_neg (by omega),if_pos h]
theorem Y6{s:Sv}{q:N×List C}(h:s.op=2):sN s.name s.key (vaS s) q.1 q.2=Yb s q:=by unfold Yb;rw[if_neg (by omega),if_neg (by omega),if_pos h]
end Go.Proofs.YtpjenciplibdnaaGreatDoor
namespace Go.Proofs.YtpjenciplibdnaaGreatDoor
open Aml Go Go.RowKit Go.ChangeShapes
def gW(W:World):Gh:=⟨fun b i=>W.cell? ⟨b,i,none⟩,fun _ _=>none,fun _=>none⟩
theorem DC(w0:W0)(h:w0.gh.sub (gW w0.w)):Rel w0 (gW w0.w) ⟨[],[]⟩ w0.w:=
 ⟨⟨jY.refl _ _,fun _ _ h=>(by cases h),h⟩,fun _ _ _ h=>h,by simp,by simp,fun _ _ _ h=>(by cases h),⟨0,fun _ _ _=>rfl⟩,fun _ _ h=>(by cases h),fun _=>none,fun _ _ h=>(by cases h),fun _ _ h=>(by cases h)⟩
def Rd(P:Program)(W:World)(t:TypeId){α:Type}(en:α→List DV)(sz:α→Nat)(ok:α→Prop):Prop:=
 ∀(H:Type) (enc:TypeId×Value→H) (n:Nat) (cs:List Value) (x:DataW H×List MemPlace),DataW.trod enc P W 0 (fun _=>true) true n t cs=some x→
  ∃a,ok a∧sz a≤Rows.uptoBulk x.1∧aj (gW W) (en a) cs∧∀u,u∈cs→u.oneCell'=true
section
variable {P:Program} {W:World}
theorem Rd.conv{t:TypeId}{α β:Type}{en:α→List DV}{sz:α→Nat}{ok:α→Prop}{en':β→List DV}{sz':β→Nat}{ok':β→Prop}(h:Rd P W t en sz ok)(f:α→β)(he:∀a,en a=en' (f a))(hs:∀a,sz' (f a)≤sz a)(ho:∀a,ok a→ok' (f a)):Rd P W t en' sz' ok':=
 fun H enc n cs x hx=>let⟨a,h1,h2,h3,h4⟩:=h H enc n cs x hx;⟨f a,ho a h1,Nat.le_trans (hs a) h2,by rw[←he];exact h3,h4⟩
theorem KS{t:TypeId}(k:IntKind)(ht:P.underlying t=some (.int k)):Rd P W t (fun n:Int=>[.v (.int k n)]) (fun _=>1) (fun n=>(Lit.int k n).wf=true):=by
 intro H enc n cs x hx
 obtain⟨m,rfl,rfl,hw⟩:=DataW.trod_int ht hx
 exact⟨m,hw,by simp[Rows.uptoBulk],aj.cons (.v _ rfl) (aj.nil _),by simp[Value.oneCell']⟩
theorem K0{t:TypeId}(ht:P.underlying t=some (.int .i64)):Rd P W t (fun n:Int=>[dI n]) (fun _=>1) (fun n=> -9223372036854775808≤n∧n≤9223372036854775807):=
 (KS .i64 ht).conv id (fun _=>rfl) (fun _=>Nat.le_refl _) fun _ h=>bounds_i64 h
theorem NH{t:TypeId}(ht:P.underlying t=some .string):Rd P W t (fun s:ByteArray=>[dS s]) (fun s=>s.size+1) (fun _=>True):=by
 intro H enc n cs x hx
 obtain⟨s,rfl,rfl,hs⟩:=DataW.trod_string ht hx
 exact⟨s,trivial,(show s.size+1≤s.data.toList.length+1 by rw[Array.length_toList];exact Nat.le_refl _),aj.cons (.v _ rfl) (aj.nil _),by simp[Value.oneCell']⟩
theorem wG{α:Type}{Q:Nat→α→Prop}:∀(n:Nat),(∀i,i<n→∃a,Q i a)→∃l:List α,l.length=n∧∀(i:Nat) (a:α),l[i]? =some a→Q i a
 |0,_=>⟨[],rfl,by simp⟩
 |n+1,h=>by
  obtain⟨l,h1,h2⟩:=wG n fun i hi=>h i (by omega)
  obtain⟨a,ha⟩:=h n (by omega)
  refine⟨l++[a],by simp[h1],fun i b hb=>?_⟩
  by_cases hi:i<n
  ·rw[List.getElem?_append_left (by omega)]at hb;exact h2 i b hb
  ·have hlt:i<(l++[a]).length:=(List.getElem?_eq_some_iff.1 hb).1
   have:i=n:=by simp at hlt;omega
   subst this
   rw[List.getElem?_append_right (by omega),h1]at hb
   simp at hb;subst hb;exact ha
theorem AH{H α:Type}{sz:α→Nat}:∀{l:List α} {es:List (DataW H)},l.length=es.length→(∀(i:Nat) (a:α) (e:DataW H),l[i]? =some a→es[i]? =some e→sz a≤Rows.uptoBulk e)→(l.map sz).sum≤Rows.uptoBulkAll es
 |[],[],_,_=>by simp[Rows.uptoBulkAll]
 |[],_::_,h,_=>by simp at h
 |_::_,[],h,_=>by simp at h
 |a::l,e::es,h,hs=>by
  have h1:=hs 0 a e rfl rfl
  have h2:=AH (l:=l) (es:=es) (by simpa using h) fun i a e x y=>hs (i+1) a e (by simpa using x) (by simpa using y)
  simp only[List.map_cons,List.sum_cons,Rows.uptoBulkAll]
  omega
theorem oF{a:Addr}{k:Nat}{cs:List Value}(h:W.cells? 0 a k=some cs):cs.length=k∧∀j,j<k→W.cell? (a.add j)=cs[j]? :=by
 unfold World.cells? at h
 rw[if_pos (Nat.zero_le _)]at h
 exact⟨by simpa using mapM_some_length h,fun j hj=>mapM_some_get h j j (by simp[hj])⟩
theorem G5{t e:TypeId}{α:Type}{en:α→List DV}{sz:α→Nat}{ok:α→Prop}(h:Rd P W e en sz ok)(ht:P.underlying t=some (.slice e)){k:Nat}(hk:P.cellsOf e=k)(hk0:0<k)(enE:α→DV)(mk:List Value→Value)
 (hmk:∀a cs,aj (gW W) (en a) cs→(∀u,u∈cs→u.oneCell'=true)→cs.length=k→aM (gW W) (enE a) (mk cs)∧(mk cs).cells.toList=cs):
 Rd P W t (fun l:List α=>[.sl k false (l.map enE)]) (fun l=>(l.map sz).sum+1) (fun l=>∀a,a∈l→ok a):=by
 intro H enc n cs x hx
 rcases DataW.trod_slice ht hx with⟨rfl,rfl⟩|⟨a,len,cap,elems,rest,n',rfl,rfl,rfl, -,hlc,hcm,hel,hget, -, -⟩
 ·exact⟨[],by simp,by simp[Rows.uptoBulk],aj.cons (.nil _ _ _ _ (by simp)) (aj.nil _),by simp[Value.oneCell']⟩
 ·have hq:∀i,i<len→∃p:α×List Value,ok p.1∧(∀y,elems[i]? =some y→sz p.1≤Rows.uptoBulk y.1)∧W.cells? 0 (a.add (i*k)) k=some p.2∧aj (gW W) (en p.1) p.2∧∀u,u∈p.2→u.oneCell'=true:=by
   intro i hi
   have h1:=hget i hi
   rw[hk]at h1
   have h2:elems[i]? =some elems[i]:=List.getElem?_eq_getElem (by omega)
   rw[h2,Option.bind_eq_some_iff]at h1
   obtain⟨ci,hc,htr⟩:=h1
   obtain⟨b,b1,b2,b3,b4⟩:=h H enc n' ci _ htr
   exact⟨(b,ci),b1,fun y hy=>by rw[h2]at hy;cases hy;exact b2,hc,b3,b4⟩
  obtain⟨ps,hpl,hps⟩:=wG len hq
  refine⟨ps.map (·.1),fun b hb=>?_,?_,?_,by simp[Value.oneCell']⟩
  ·obtain⟨p,hp,rfl⟩:=List.mem_map.1 hb
   obtain⟨i,hi⟩:=List.getElem?_of_mem hp
   exact(hps i p hi).1
  ·have:=AH (sz:=sz) (l:=ps.map (·.1)) (es:=elems.map (·.1)) (by simp[hpl,hel]) fun i b e x y=>by
    rw[List.getElem?_map,Option.map_eq_some_iff]at x y
    obtain⟨p,hp,rfl⟩:=x
    obtain⟨y,hy,rfl⟩:=y
    exact(hps i p hp).2.1 y hy
   simp only[Rows.uptoBulk]
   omega
  ·refine aj.cons ?_ (aj.nil _)
   by_cases h0:len=0
   ·subst h0
    have:ps=[]:=List.eq_nil_of_length_eq_zero hpl
    subst this
    exact .nil _ _ _ _ (by simp)
   ·have hspot:a.spot=none:=by
     obtain⟨p,hp⟩:∃p,ps[0]? =some p:=⟨_,List.getElem?_eq_getElem (by omega)⟩
     obtain⟨hl,hc⟩:=oF (hps 0 p hp).2.2.1
     have:=hc 0 (by omega)
     rw[List.getElem?_eq_getElem (by omega)]at this
     simp only[Nat.zero_mul,Addr.add,if_true]at this
     unfold World.cell? at this
     split at this
     ·split at this
      ·cases this
      ·rename_i hs;simpa using hs
     ·cases this
    obtain⟨b,o,sp⟩:=a
    simp only at hspot
    subst hspot
    have hus:(ps.map fun p=>mk p.2).length=len:=by simp[hpl]
    have hmk':∀(i:Nat) (p:α×List Value),ps[i]? =some p→aM (gW W) (enE p.1) (mk p.2)∧(mk p.2).cells.toList=p.2∧p.2.length=k:=fun i p hp=>by
     have hc:=(oF (hps i p hp).2.2.1).1
     have:=hmk p.1 p.2 (hps i p hp).2.2.2.1 (hps i p hp).2.2.2.2 hc
     exact⟨this.1,this.2,hc⟩
    have:=aM.sl (g:=gW W) k false ((ps.map (·.1)).map enE) b o cap (ps.map fun p=>mk p.2) (by simp) (by simp) (by rw[hus];exact hlc) hcm
     (fun i d u hd hu=>by
      simp only[List.map_map,List.getElem?_map,Option.map_eq_some_iff]at hd hu
      obtain⟨p,hp,rfl⟩:=hd
      obtain⟨q,hq,rfl⟩:=hu
      rw[hp]at hq;cases hq
      exact(hmk' i p hp).1)
     (fun i u hu=>by
      rw[List.getElem?_map,Option.map_eq_some_iff]at hu
      obtain⟨p,hp,rfl⟩:=hu
      have:=hmk' i p hp
      rw[←Array.length_toList,this.2.1,this.2.2])
     (fun u hu x hx=>by
      obtain⟨p,hp,rfl⟩:=List.mem_map.1 hu
      obtain⟨i,hi⟩:=List.getElem?_of_mem hp
      rw[(hmk' i p hi).2.1]at hx
      exact(hps i p hi).2.2.2.2 x hx)
     (fun i u j x hu hx=>by
      rw[List.getElem?_map,Option.map_eq_some_iff]at hu
      obtain⟨p,hp,rfl⟩:=hu
      have hm:=hmk' i p hp
      have hc:=(oF (hps i p hp).2.2.1).2
      rw[←Array.getElem?_toList,hm.2.1]at hx
      have hj:j<k:=by rw[←hm.2.2];exact(List.getElem?_eq_some_iff.1 hx).1
      have:=hc j hj
      rw[hx]at this
      show W.cell? ⟨b,o+i*k+j,none⟩=some x
      have e:(Addr.add ⟨b,o,none⟩ (i*k)).add j=⟨b,o+i*k+j,none⟩:=by
       unfold Addr.add
       split <;>split <;>simp_all
      rw[←e];exact this)
    rw[hus]at this
    exact this
theorem H4{t e:TypeId}{α:Type}{en:α→List DV}{sz:α→Nat}{ok:α→Prop}(h:Rd P W e en sz ok)(ht:P.underlying t=some (.slice e)){k:Nat}(hk:P.cellsOf e=k)(hk0:0<k):
 Rd P W t (fun l:List α=>[.sl k false (l.map fun a=> .agg (en a))]) (fun l=>(l.map sz).sum+1) (fun l=>∀a,a∈l→ok a):=
 G5 h ht hk hk0 (fun a=> .agg (en a)) (fun cs=> .agg cs.toArray) fun a cs hr h1 hl=>⟨.agg _ _ hr.len hr.at_ h1,rfl⟩
def XU(P:Program)(W:World)(total off:Nat)(fs:List Field){α:Type}(en:α→List DV)(sz:α→Nat)(ok:α→Prop):Prop:=
 ∀(H:Type) (enc:TypeId×Value→H) (n:Nat) (cs:List Value) (xs:List (DataW H×List MemPlace)),cs.length=total→xs.length=fs.length→
  (∀(i:Nat) (f:Field),fs[i]? =some f→DataW.trod enc P W 0 (fun _=>true) true n f.type ((cs.drop f.offset).take (P.cellsOf f.type))=xs[i]?)→
  ∃a,ok a∧sz a≤Rows.uptoBulkAll (xs.map (·.1))∧aj (gW W) (en a) (cs.drop off)∧∀u,u∈cs.drop off→u.oneCell'=true
theorem OD{total:Nat}:XU P W total total [] (fun _:Unit=>[]) (fun _=>0) (fun _=>True):=by
 intro H enc n cs xs hc hx hg
 refine⟨(),trivial,Nat.zero_le _,?_,?_⟩
 ·rw[List.drop_eq_nil_of_le (by omega)];exact aj.nil _
 ·rw[List.drop_eq_nil_of_le (by omega)];simp
theorem pH{total off k:Nat}{f:Field}{fs:List Field}{α β:Type}{en:α→List DV}{sz:α→Nat}{ok:α→Prop}{en':β→List DV}{sz':β→Nat}{ok':β→Prop}(h:Rd P W f.type en sz ok)(hf:f.offset=off)(hk:P.cellsOf f.type=k)(h':XU P W total (off+k) fs en' sz' ok'):
 XU P W total off (f::fs) (fun p:α×β=>en p.1++en' p.2) (fun p=>sz p.1+sz' p.2) (fun p=>ok p.1∧ok' p.2):=by
 intro H enc n cs xs hc hx hg
 cases xs with
 |nil=>simp at hx
 |cons x xs=>
  have h0:=hg 0 f rfl
  rw[hf,hk]at h0
  obtain⟨a,a1,a2,a3,a4⟩:=h H enc n _ x h0
  obtain⟨b,b1,b2,b3,b4⟩:=h' H enc n cs xs hc (by simpa using hx) fun i f hf=>by have:=hg (i+1) f (by simpa using hf);simpa using this
  have e:cs.drop off=(cs.drop off).take k++cs.drop (off+k):=by rw[←List.drop_drop,List.take_append_drop]
  refine⟨(a,b),⟨a1,b1⟩,?_,?_,?_⟩
  ·simp only[List.map_cons,Rows.uptoBulkAll];omega
  ·rw[e];exact a3.append b3
  ·intro u hu
   rw[e,List.mem_append]at hu
   exact hu.elim (a4 u) (b4 u)
theorem Hn{t:TypeId}{fs:Array Field}{α:Type}{en:α→List DV}{sz:α→Nat}{ok:α→Prop}(ht:P.underlying t=some (.struct fs)){total:Nat}(hc:P.cellsOf t=total){fl:List Field}(hfl:fs.toList=fl)(h:XU P W total 0 fl en sz ok):
 Rd P W t en (fun a=>sz a+1) ok:=by
 intro H enc n cs x hx
 subst hfl
 obtain⟨xs,n',rfl,rfl,h1,h2,h3⟩:=DataW.trod_struct ht hx
 obtain⟨a,a1,a2,a3,a4⟩:=h H enc n' cs xs (by rw[h1,hc]) (by simpa using h2) fun i f hf=>h3 i f (by simpa using hf)
 exact⟨a,a1,by simp only[Rows.uptoBulk];omega,by simpa using a3,by simpa using a4⟩
def Ya(P:Program)(W:World)(ts:List TypeId){α:Type}(en:α→List DV)(sz:α→Nat)(ok:α→Prop):Prop:=
 ∀(H:Type) (enc:TypeId×Value→H) (base:Nat) (vs:List Value) (ds:List (DataW H)) (p:List MemPlace),(∀(j:Nat) t v,ts[j]? =some t→vs[j]? =some v→Value.okWide P W .any base t v)→DataW.TrodAll enc P W 0 (fun _=>true) true ts vs ds p→
  ∃a,ok a∧sz a≤Rows.uptoBulkAll ds∧aj (gW W) (en a) vs
theorem P5:Ya P W [] (fun _:Unit=>[]) (fun _=>0) (fun _=>True):=by
 intro H enc base vs ds p hv h
 obtain⟨rfl,rfl,rfl⟩:=trodAll_nil h
 exact⟨(),trivial,Nat.zero_le _,aj.nil _⟩
def Ui(P:Program)(t:TypeId):Bool:=match P.underlying t with
 |some .bool|some .string|some (.int _)|some (.slice _)=>true
 |_=>false
theorem C3{t:TypeId}(ht:Ui P t=true){base:Nat}{v:Value}(h:Value.okWide P W .any base t v):v.cells= #[v]∧v.oneCell'=true:=by
 unfold Ui at ht
 unfold Value.okWide Cell.okWide Cell.ok at h
 split at ht
 ·rename_i hu;rw[hu]at h;cases v <;>simp_all [Value.cells,Value.oneCell']
 ·rename_i hu;rw[hu]at h;cases v <;>simp_all [Value.cells,Value.oneCell']
 ·rename_i hu;rw[hu]at h;cases v <;>simp_all [Value.cells,Value.oneCell']
 ·rename_i hu;rw[hu]at h;cases v <;>simp_all [Value.cells,Value.oneCell']
 ·cases ht
theorem Fw{t:TypeId}{ts:List TypeId}{α β:Type}{en:α→DV}{sz:α→Nat}{ok:α→Prop}{en':β→List DV}{sz':β→Nat}{ok':β→Prop}(h:Rd P W t (fun a=>[en a]) sz ok)(ht:Ui P t=true)(h':Ya P W ts en' sz' ok'):
 Ya P W (t::ts) (fun p:α×β=>en p.1::en' p.2) (fun p=>sz p.1+sz' p.2) (fun p=>ok p.1∧ok' p.2):=by
 intro H enc base vs ds p hv hA
 obtain⟨v,vs',d,ds',p1,q1,rfl,rfl,rfl,h1,h2⟩:=trodAll_cons hA
 obtain⟨b,b1,b2,b3⟩:=h' H enc base vs' ds' q1 (fun j t v x y=>hv (j+1) t v (by simpa using x) (by simpa using y)) h2
 obtain⟨n,hn⟩:=h1
 obtain⟨a,a1,a2,a3,a4⟩:=h H enc n _ _ hn
 obtain⟨hc,ho⟩:=C3 ht (hv 0 t v rfl rfl)
 rw[hc]at a3
 refine⟨(a,b),⟨a1,b1⟩,by simp only[Rows.uptoBulkAll];simp only at a2;omega,aj.cons ?_ b3⟩
 obtain⟨u,us,he,r1,r2⟩:=a3.bV
 simp only[List.cons.injEq]at he
 rw[he.1];exact r1
theorem n7{H:Type}{enc:TypeId×Value→H}(hl:laidOutB P=true){W':World}(hb:Below W.heap.size W W'){sp:Nat→Bool}:∀{ts:List TypeId} {vs:List Value} {ds:List (DataW H)} {ps:List MemPlace},(∀t,t∈ts→P.readableRec t=true∧t<P.types.size)→
 DataW.TrodAll enc P W 0 (fun _=>true) true ts vs ds ps→(∀p,p∈ps→p.block<W.heap.size∧sp p.block=true)→DataW.TrodAll enc P W' 0 sp true ts vs ds ps
 |[],vs,ds,ps,_,h,_=>by
  obtain⟨rfl,rfl,rfl⟩:=trodAll_nil h
  exact rfl
 |t::ts,vs,ds,ps,ht,h,hp=>by
  obtain⟨v,vs',d,ds',p1,q1,rfl,rfl,rfl,h1,h2⟩:=trodAll_cons h
  exact⟨p1,q1,WideElems.Trod_stays hl (ht t List.mem_cons_self).1 (ht t List.mem_cons_self).2 h1 (fun x hx=>hb.same (hp x (List.mem_append_left _ hx)).1) (fun x hx=>(hp x (List.mem_append_left _ hx)).2),
   n7 hl hb (fun t' ht'=>ht t' (List.mem_cons_of_mem _ ht')) h2 fun x hx=>hp x (List.mem_append_right _ hx),rfl⟩
theorem vJ{w0:W0}(hw0:w0.w=W)(hg0:w0.gh.sub (gW W)){H:Type}(enc:TypeId×Value→H){f:FuncId}{fn:Func}{s:ChangeSpec}{ts:List TypeId}{α:Type}{en:α→List DV}{sz:α→Nat}{ok:α→Prop}{tb:TypeId}(hr:Ya P W ts en sz ok)(hts:fn.params=ts.toArray)(hres:fn.resultTypes= #[tb])(htb:P.underlying tb=some .bool)(hvars:s.vars=[])
 (hl:laidOutB P=true) (hT:∀t,t∈ts→P.readableRec t=true∧t<P.types.size) (hspec:∀ds:List (DataW H),ds.length=ts.length→s.fn H ds={results:=[.lit (.bool true)],args:=ds})
 (hcall:∀a,ok a→sz a≤1048576→aa P w0 f (en a) ⟨[],[]⟩ fun d _=>d=dB true)
 (base:Nat) (args:Array Value) (ds gs:List (DataW H)) (before:List MemPlace) (hval:∀(j:Nat) t v,fn.params[j]? =some t→args[j]? =some v→Value.okWide P W .any base t v)
 (hW:DataW.Whole enc P fn.params.toList s.vars false W args.toList ds gs before) (hk:Rows.uptoBulkAll (ds++gs)≤1048576):
 Calls P f args W fun e W'=>∃v,e= .returned v∧s.post enc P fn false true false false W args v W':=by
 have hW':=hW
 obtain⟨p,q,hA,hV,rfl,hfz,hnd⟩:=hW
 rw[hvars]at hV
 have hgs:gs=[]∧q=[]:=by
  cases gs with
  |nil=>exact⟨rfl,hV⟩
  |cons g gs=>exact hV.elim
 obtain⟨rfl,rfl⟩:=hgs
 rw[hts]at hA
 simp only[List.append_nil]at hk
 obtain⟨a,a1,a2,a3⟩:=hr H enc base args.toList ds p (fun j t v x y=>hval j t v (by rw[hts];simpa using x) (by simpa using y)) (by simpa using hA)
 have hc:=hcall a a1 (Nat.le_trans a2 hk) (gW W) args W (by have:=DC w0 (by rw[hw0];exact hg0);rw[hw0]at this;exact this) a3
 refine hc.mono ?_
 rintro e W' ⟨r,g',d,S',rfl,hle,hR,hd,rfl⟩
 have hb:=hR.below.base.below
 unfold W0.heap at hb
 rw[hw0]at hb
 have hrv:r= .bool true:=vk hd
 subst hrv
 have hlen:ds.length=ts.length:=by
  have:∀{ts:List TypeId} {vs:List Value} {ds:List (DataW H)} {ps:List MemPlace},DataW.TrodAll enc P W 0 (fun _=>true) true ts vs ds ps→ds.length=ts.length:=by
   intro ts
   induction ts with
   |nil=>intro vs ds ps h;obtain⟨rfl,rfl,rfl⟩:=trodAll_nil h;rfl
   |cons t ts ih=>
    intro vs ds ps h
    obtain⟨v,vs',d,ds',p1,q1,rfl,rfl,rfl,h1,h2⟩:=trodAll_cons h
    simp[ih h2]
  exact this (by simpa using hA)
 have hsp:=hspec ds hlen
 have hold:∀x,x∈p→x.block<W.heap.size:=fun x hx=>hW'.lt x (by simpa using hx)
 have hres':∀(b:Nat) (sp:Nat→Bool) (hd:Bool),DataW.TrodAll enc P W' b sp hd fn.resultTypes.toList ((Value.bool true).resultList fn.resultTypes.size) (s.fn H (ds++[])).results []:=by
  intro b sp hd
  rw[List.append_nil,hsp,hres]
  exact trodAll_cons_mk (shut_bool htb _) trodAll_mk0
 have hargs':∀sp:Nat→Bool,(∀x,x∈p→sp x.block=true)→DataW.TrodAll enc P W' 0 sp true fn.params.toList args.toList (s.fn H (ds++[])).args p:=by
  intro sp hs
  rw[List.append_nil,hsp,hts]
  exact n7 hl hb hT (by simpa using hA) fun x hx=>⟨hold x hx,hs x hx⟩
 have hvars':∀sp:Nat→Bool,DataW.TrodVars enc P W' sp s.vars (s.fn H (ds++[])).vars []:=by
  intro sp
  rw[List.append_nil,hsp,hvars]
  exact rfl
 refine⟨.bool true,rfl,ds,[],p++[],[],p,[],hW',hres' _ _ _,hargs' _ (fun x hx=>by simpa using hold x hx),hvars' _,World.keptBut_mono (fun x hx=>⟨hx,.inr (by simpa using hx)⟩) (hb.frame _),fun _=>?_⟩
 refine⟨?_,_,_,([]++p)++[],⟨[]++p,[],trodAll_append (hargs' _ (fun _ _=>rfl)) (hres' _ _ _),hvars' _,rfl,?_,?_⟩,?_⟩
 ·exact ok_one hres rfl (okWide_bool_mk htb _)
 ·intro b off hp
  have hp:MemPlace.cell b off∈p:=by simpa using hp
  rw[hb.frozen (hold _ hp)]
  exact hfz b off (by simpa using hp)
 ·intro ha;cases ha
 ·intro x hx _
  simpa using hx
end
end Go.Proofs.YtpjenciplibdnaaGreatDoor
namespace Go.Proofs.YtpjenciplibdnaaGreatDoor
open Aml Go Go.RowKit Go.ChangeShapes
end Go.Proofs.YtpjenciplibdnaaGreatDoor
namespace Go.Proofs.YtpjenciplibdnaaGreatDoor
open Aml Go
@[go_sem] def Qn (c:C):DV:= .agg [dS c.key,dI (ay c).ak,dB (ay c).leaf,.sl 4 false ((ay c).l.map dC)]
@[go_sem] def eL (n:N) (l:List C):DV:= .agg [dI n.ak,dB n.leaf,.sl 4 false (n.l.map dC),.sl 4 false (l.map Qn)]
end Go.Proofs.YtpjenciplibdnaaGreatDoor
namespace Go.Proofs.YtpjenciplibdnaaGreatDoor
open Aml Go Go.RowKit Go.ChangeShapes
def zp(c:C):C:= .mk c.key c.data [] []
def gm(n:N):List C:=(de n).map zp
def qC(b:Bool)(c:C):List C:=(iU b c).map zp
theorem I1(n:N):gm n=n.l.flatMap (qC n.leaf):=by unfold gm;rw[ca,List.map_flatMap];rfl
theorem Rj{c:C}{k:N}(h:c.kid=[k]):qC false c=gm k:=by unfold qC;rw[bc h];rfl
theorem LD:∀{d:Nat} {n:N},Nd d n→(de n).length≤bd n
 |0,n,h=>by rw[cm h.1];exact bj n
 |d+1,n,h=>by
  rw[ca,h.1,aH]
  have:∀l:List C,(∀c,c∈l→c∈n.l)→(l.flatMap (iU false)).length≤kC l:=by
   intro l
   induction l with
   |nil=>intro _;exact Nat.zero_le _
   |cons c l ih=>
    intro hl
    obtain⟨_,k,hk,hnd⟩:=h.2.2 c (hl c List.mem_cons_self)
    have h1:=ih fun c hc=>hl c (List.mem_cons_of_mem _ hc)
    have h2:=LD hnd
    rw[List.flatMap_cons,List.length_append,bh,cA hk,bc hk];omega
  exact this n.l fun _ h=>h
theorem FE(b:Bool)(l:List C)(k:Nat):((l.take k).flatMap (qC b)).length≤(l.flatMap (qC b)).length:=by
 have:=congrArg (List.flatMap (qC b)) (List.take_append_drop k l)
 have:=congrArg List.length this
 simp only[List.flatMap_append,List.length_append]at this
 omega
theorem GF{b:Bool}{l:List C}{k:Nat}{c:C}(h:l[k]? =some c):(l.take (k+1)).flatMap (qC b)=(l.take k).flatMap (qC b)++qC b c:=by
 rw[List.take_add_one,h];simp
@[go_sem] def W6 (c:C):DV:= .agg [dS c.key,dS c.data,.sl 0 true [],.sl 0 true []]
theorem OA(c:C):Wk (W6 c) (dC (zp c)):=by
 rw[XD]
 exact .agg (.cons (.refl _) (.cons (.refl _) (.cons (.nil _ _ _) (.cons (.nil _ _ _) .nil))))
theorem M1(w0:W0):∀(d:Nat) (n:N) (S:St),Nd d n→bd n≤131072→aa Tryz.prog w0 22 [eN n] S (fun e S'=>e= .sl 4 false ((gm n).map dC)∧S'=S):=by
 intro d
 induction d with
 |zero=>
  intro n S hn ht
  have hlf:=hn.1
  have hl:=bj n
  have hm8:maxLen=9223372036854775807:=rfl
  refine aY [2] mx Tryz.func22 rfl rfl (by kernel_rfl) ?_;(refine @ab _ ?_;refine aO @Tryz.ntmps22 @hlf ?_)
  intro b
  refine j3 3 4 rfl (by omega) fun lp=>?_
  refine fQ [] [] mx (by kernel_rfl) ?_
  (refine @ab _ ?_;refine au ?_)
  refine aA [] n.l.length [1,3,4] (fun k=>[(3,.acc lp.n k),(4,dI k)]) (fun k=>⟨(b.n,[dI n.ak,dB true,.sl 4 false (n.l.map dC)])::S.box,(lp.n,.arr 4 ((n.l.take k).map W6))::S.acc⟩) (fun _=>True) mx (by kernel_rfl) ?_ ?_
  ·(refine @ab _ ?_;exact aK)
  ·intro k hk _
   have hml:(n.l.take k).length=k:=by rw[List.length_take];omega
   (refine @ab _ ?_;refine ao @hml ?_)
   refine⟨fun hlt=>⟨hlt,fun c hc=>⟨hlt,fun c2 hc2=>?_⟩⟩,fun hge=>?_⟩
   ·rw[hc]at hc2
    cases hc2
    have ht1:n.l.take (k+1)=n.l.take k++[c]:=by rw[List.take_add_one,hc];rfl
    refine⟨by omega,by omega,hlt,by rw[ba (by omega) (by omega)];omega,?_⟩
    rw[ht1,List.map_append];exact .refl _
   ·rw[List.take_of_length_le (by omega)]
    have he:(gm n).map dC=n.l.map fun c=>dC (zp c):=by unfold gm;rw[cm hlf,List.map_map];rfl
    rw[he]
    exact(Wk.sl (gk.map OA n.l))
 |succ d ih=>
  intro n S hn ht
  have hlf:=hn.1
  have hl:=bj n
  have hq:=I1 n
  have hle:=LD hn
  have hel:(gm n).length=(de n).length:=by unfold gm;rw[List.length_map]
  rw[hlf]at hq
  have hm8:maxLen=9223372036854775807:=rfl
  refine aY [2] mx Tryz.func22 rfl rfl (by kernel_rfl) ?_;(refine @ab _ ?_;refine aO @Tryz.ntmps22 @hlf ?_)
  intro b
  refine j3 3 4 rfl (by omega) fun lp=>?_
  refine fQ [] [] mx (by kernel_rfl) ?_
  (refine @ab _ ?_;refine au ?_)
  refine aA [] n.l.length [1,3,4] (fun k=>[(3,.acc lp.n ((n.l.take k).flatMap (qC false)).length),(4,dI k)]) (fun k=>⟨(b.n,[dI n.ak,dB false,.sl 4 false (n.l.map dC)])::S.box,(lp.n,.arr 4 (((n.l.take k).flatMap (qC false)).map dC))::S.acc⟩) (fun _=>True) mx (by kernel_rfl) ?_ ?_
  ·(refine @ab _ ?_;refine au ?_)
   exact⟨.refl _,.refl _⟩
  ·intro k hk _
   have h1:=FE false n.l k
   have h2:=FE false n.l (k+1)
   rw[←hq]at h1 h2
   (refine @ab _ ?_;refine au ?_)
   refine⟨fun hlt=>⟨hlt,fun c hc=>?_⟩,fun hge=>?_⟩
   ·obtain⟨hs,kid,hkid,hnd⟩:=hn.2.2 c (List.mem_of_getElem? hc)
    have htk:=dH (List.mem_of_getElem? hc) hkid
    have hkl:((n.l.take (k+1)).flatMap (qC false))=(n.l.take k).flatMap (qC false)++gm kid:=by rw[GF hc,Rj hkid]
    have hkn:=congrArg List.length hkl
    rw[List.length_append]at hkn
    rw[hkid]
    refine⟨by simp,fun kid2 hkid2=>?_⟩
    cases hkid2
    refine aq (ih kid _ hnd (by omega)) ?_
    (refine @ab _ ?_;refine au ?_)
    refine⟨by omega,by omega,hlt,⟨.eq (by rw[hkn]),by rw[ba (by omega) (by omega)];omega⟩,?_⟩
    rw[hkl,List.map_append]
    exact .refl _
   ·rw[List.take_of_length_le (by omega),hq]
    exact .refl _
end Go.Proofs.YtpjenciplibdnaaGreatDoor
namespace Go.Proofs.YtpjenciplibdnaaGreatDoor
open Aml Go
def PZ(n:N):Prop:=n.l=[]→n.ak=0
theorem Ry:PZ mi:=fun _=>rfl
theorem UC{key val:ByteArray}{n:N}(h:gV n)(h0:key≠aZ)(h1:key.size≤16)(h2:val.size≤400):PZ (ld key val n):=fun e=>by
 have:=(kF (val:=val) h0 h1 h2 h).2
 rw[ca,e,List.flatMap_nil]at this
 have:=congrArg List.length this
 unfold o0 at this
 simp at this
theorem UJ{key:ByteArray}{n:N}(h:gV n)(hz:PZ n):PZ (mg key n):=fun e=>by
 cases hf:(cF key n).isSome with
 |true=>rw[wh h hf e];rfl
 |false=>
  have:mg key n=n:=by unfold mg;rw[if_neg (by rw[hf];simp)]
  rw[this]at e ⊢
  exact hz e
theorem EI{l:List C}(h:dj l){i j:Nat}{a b:C}(hij:i<j)(ha:l[i]? =some a)(hb:l[j]? =some b):cI a.key b.key=true:=by
 obtain⟨h1,rfl⟩:=List.getElem?_eq_some_iff.1 ha
 obtain⟨h2,rfl⟩:=List.getElem?_eq_some_iff.1 hb
 exact List.pairwise_iff_getElem.1 h i j h1 h2 hij
def Wv(c:C):Prop:=c.data.size≤400∧(c.ai≠[]→16<c.data.size)
theorem Zp(w0:W0)(c:C)(S:St)(h:Wv c):aa Tryz.prog w0 272 [fM c] S (fun d S'=>d=dB false∧S'=S):=by
 obtain⟨h1,h2⟩:=h
 refine aY [] mx Tryz.func272 rfl rfl (by kernel_rfl) ?_;(refine @ab _ ?_;refine ao @Tryz.ntmps272 ?_)
 intro b
 refine⟨fun h3=>absurd h3 (by omega),fun _ h3=>aq (zc w0 _ _) ?_⟩
 ·(refine @ab _ ?_;refine au ?_)
  have:c.ai≠[]:=fun e=>by rw[e]at h3;simp at h3
  have:=h2 this
  unfold need
  rw[if_pos (by omega)]
  omega
theorem Zu(w0:W0)(l:List C)(S:St)(h:∀c,c∈l→Wv c)(hl:l.length≤1048576):aa Tryz.prog w0 275 [.sl 2 false (l.map fM),.v (.func (.func 272) #[] #[])] S (fun d S'=>d=dI (-1)∧S'=S):=by
 refine aY [] mx Tryz.func275 rfl rfl (by kernel_rfl) ?_;(refine @ab _ ?_;refine ao @Tryz.ntmps275 ?_)
 refine aA [] l.length [0,1,7,8] (fun k=>[(8,dI k)]) (fun _=>S) (fun _=>True) mx (by kernel_rfl) ?_ ?_
 ·(refine @ab _ ?_;exact aK)
 ·intro k hk _
  (refine @ab _ ?_;refine au ?_)
  refine fun hlt=>⟨hlt,fun c hc=>aq (Zp w0 c _ (h c (List.mem_of_getElem? hc))) ?_⟩
  (refine @ab _ ?_;refine au ?_)
  exact⟨hlt,aW k (by omega)⟩
theorem Vw(w0:W0)(l:List C)(S:St)(h:∀c,c∈l→Wv c)(hl:l.length≤1048576):aa Tryz.prog w0 271 [.sl 2 false (l.map fM),.v (.func (.func 272) #[] #[])] S (fun d S'=>d=dB false∧S'=S):=by
 refine aY [] mx Tryz.func271 rfl rfl (by kernel_rfl) ?_;(refine @ab _ ?_;refine ao @Tryz.ntmps271 ?_)
 refine aq (Zu w0 l _ h hl) ?_
 (refine @ab _ ?_;refine au ?_)
 omega
structure UF(b:Bool)(l:List C)(lo hi:ByteArray):Prop where
 bW:dj l
 size:∀c,c∈l→c.key.size≤16
 first:∀(i:Nat) c,l[i]? =some c→(c.key=aZ↔i=0∧b=false)
 low:∀(i:Nat) c,l[i]? =some c→¬(i=0∧b=false)→mq lo c.key=true
 high:hi≠aZ→∀c,c∈l→cI c.key hi=true
theorem UK{a:ByteArray}(h:cI a aZ=true):False:=by
 have:=im.1 (od a)
 rw[h]at this;cases this
theorem ri:∀{d:Nat} {n:N} {lo hi:ByteArray},Good d n→(∀x,x∈de n→mq lo x.key=true)→(hi≠aZ→∀x,x∈de n→cI x.key hi=true)→UF n.leaf n.l lo hi
 |0,n,lo,hi,h,h1,h2=>by
  rw[h.1]
  rw[cm h.1]at h1 h2
  exact⟨h.2.1,fun c hc=>(h.2.2 c hc).2.1,fun i c hc=>⟨fun e=>absurd e (h.2.2 c (List.mem_of_getElem? hc)).1,fun e=>by cases e.2⟩,fun i c hc _=>h1 c (List.mem_of_getElem? hc),fun e c hc=>h2 e c hc⟩
 |d+1,n,lo,hi,h,h1,h2=>by
  obtain⟨hl,hne,hB⟩:=h
  rw[hl]
  have hr:dj n.l:=hB.pw.imp fun h=>h.1
  have hin:∀c,c∈n.l→∀x,x∈iU false c→x∈de n:=fun c hc x hx=>by rw[ca,hl];exact List.mem_flatMap.2 ⟨c,hc,hx⟩
  have hlt:∀(i:Nat) c,n.l[i]? =some c→0<i→∃x,x∈de n∧cI x.key c.key=true:=fun i c hc hi=>by
   obtain⟨j,rfl⟩:∃j,i=j+1:=⟨i-1,by omega⟩
   obtain⟨hi2,rfl⟩:=List.getElem?_eq_some_iff.1 hc
   have hj:n.l[j]? =some n.l[j]:=List.getElem?_eq_getElem (by omega)
   obtain⟨x,hx⟩:=lK (hB.cell _ (List.mem_of_getElem? hj))
   exact⟨x,hin _ (List.mem_of_getElem? hj) x hx,(List.pairwise_iff_getElem.1 hB.pw j (j+1) (by omega) hi2 (by omega)).2 x hx⟩
  refine⟨hr,fun c hc=>(hB.cell c hc).1.1,fun i c hc=>⟨fun e=>⟨?_,rfl⟩,fun e=>?_⟩,fun i c hc hi=>?_,fun e c hc=>?_⟩
  ·refine Nat.eq_zero_of_not_pos fun hp=>?_
   obtain⟨x,_,hx⟩:=hlt i c hc hp
   rw[e]at hx
   exact UK hx
  ·have:=hB.k0
   rw[e.1]at hc
   cases hx:n.l with
   |nil=>rw[hx]at hc;cases hc
   |cons a l=>rw[hx]at hc this;cases hc;exact this
  ·obtain⟨x,hx,hxc⟩:=hlt i c hc (Nat.pos_of_ne_zero fun e=>hi ⟨e,rfl⟩)
   exact rf (lY (h1 x hx) hxc)
  ·have hcG:=hB.cell c hc
   obtain⟨x,hx⟩:=lK hcG
   exact lY (hcG.2.1 x hx) (h2 e x (hin c hc x hx))
theorem MR{n:N}(h:Good 0 n):∀c,c∈n.l→Wv c:=fun c hc=>by
 obtain⟨_,_,h3,h4,_⟩:=h.2.2 c hc
 exact⟨h3,h4⟩
theorem WT(w0:W0)(n:N)(lo hi:ByteArray)(S:St)(hlf:n.leaf=true)(hk:UF true n.l lo hi)(hv:∀c,c∈n.l→Wv c)(hl:n.l.length≤1048576):aa Tryz.prog w0 263 [eT n,.agg [dS lo,dS hi]] S (fun d S'=>d=dB true∧S'=S):=by
 have hany:=fun S=>Vw w0 n.l S hv hl
 rw[bT hlf]
 refine aY [6] mx Tryz.func263 rfl rfl (by kernel_rfl) ?_;(refine @ab _ ?_;refine ao @Tryz.ntmps263 ?_)
 intro b b1
 refine⟨fun h=>absurd h (by omega),fun _=>?_⟩
 refine aA [6] n.l.length [2,3,46,47,48] (fun k=>[(48,dI k)]) (fun k=>⟨(b1.n,[dS lo,dS hi])::(b.n,[dI n.ak,dB true,.sl 1 false (n.l.map fun c=>dS c.key),.sl 2 false (n.l.map fM),.sl 5 false []])::S.box,S.acc⟩) (fun _=>True) mx (by kernel_rfl) ?_ ?_
 ·(refine @ab _ ?_;exact aK)
 ·intro k hk' _
  (refine @ab _ ?_;refine au ?_)
  refine⟨fun hlt=>⟨hlt,fun a ha=>?_⟩,fun _=>aq (hany _) ?_⟩
  ·have hm:=List.mem_of_getElem? ha
   have f1:fh a.key {data:= #[]}=false:=dc.2 fun e=>(by have:=((hk.first k a ha).1 e).2;cases this)
   have f3:cI a.key lo=false:=im.1 (hk.low k a ha fun e=>by cases e.2)
   have f2:((a.key.size:Int)>16)=False:=eq_false (by have:=hk.size a hm;omega)
   have f4:fh hi {data:= #[]}=false→cI a.key hi=true:=fun e=>hk.high (dc.1 e) a hm
   have f5:=aW k (by omega)
   have f4':fh hi {data:= #[]}=false→cI a.key hi=false→False:=fun e h=>by rw[f4 e]at h;cases h
   rcases Nat.eq_zero_or_pos k with h0|h0
   ·have z1:((k:Int)=0)=True:=eq_true (by omega)
    have z2:((k:Int)>0)=False:=eq_false (by omega)
    refine PL [] mx (by kernel_rfl) ?_
    (refine @ab _ ?_;refine Zx @f1 @f2 @f3 @f5 @z1 @z2 @hlt ?_)
    exact f4'
   ·skip
    have z1:((k:Int)=0)=False:=eq_false (by omega)
    have z2:((k:Int)>0)=True:=eq_true (by omega)
    have z3:IntKind.i64.wrap ((k:Int)-1)=((k-1:Nat):Int):=by rw[ba (by omega) (by omega)];omega
    have z4:∀c,n.l[k-1]? =some c→mq a.key c.key=false:=fun c hc=>s6.2 (EI hk.bW (i:=k-1) (j:=k) (by omega) hc ha)
    have z5:∀c,n.l[k-1]? =some c→mq a.key c.key=true→False:=fun c hc h=>by rw[z4 c hc]at h;cases h
    refine PL [] mx (by kernel_rfl) ?_
    (refine @ab _ ?_;refine Q0 @f1 @f2 @f3 @f5 @z1 @z2 @z3 @hlt ?_)
    exact⟨by omega,fun c hc=>⟨z5 c hc,fun _=>f4'⟩⟩
  ·(refine @ab _ ?_;exact aK)
theorem XK(w0:W0)(n:N)(lo hi:ByteArray)(S:St)(hlf:n.leaf=false)(hk:UF false n.l lo hi)(hone:∀c,c∈n.l→∃k,c.kid=[k])(hl:n.l.length≤1048576):aa Tryz.prog w0 263 [eT n,.agg [dS lo,dS hi]] S (fun d S'=>d=dB true∧S'=S):=by
 have hany:=fun S=>Vw w0 [] S (fun c hc=>by cases hc) (by simp)
 rw[eF hlf hone]
 unfold yZ
 have hdk:=iP n.l
 generalize dK n.l=K at*
 refine aY [6] mx Tryz.func263 rfl rfl (by kernel_rfl) ?_;(refine @ab _ ?_;refine aO @Tryz.ntmps263 @hdk ?_)
 intro b b1
 refine⟨fun h=>absurd h (by omega),fun _=>?_⟩
 refine aA [6] n.l.length [2,3,46,47,48] (fun k=>[(48,dI k)]) (fun k=>⟨(b1.n,[dS lo,dS hi])::(b.n,[dI n.ak,dB false,.sl 1 false (n.l.map fun c=>dS c.key),.sl 2 false [],.sl 5 false K])::S.box,S.acc⟩) (fun _=>True) mx (by kernel_rfl) ?_ ?_
 ·(refine @ab _ ?_;exact aK)
 ·intro k hk' _
  (refine @ab _ ?_;refine au ?_)
  refine⟨fun hlt=>⟨hlt,fun a ha=>?_⟩,fun _=>aq (hany _) ?_⟩
  ·have hm:=List.mem_of_getElem? ha
   have f2:((a.key.size:Int)>16)=False:=eq_false (by have:=hk.size a hm;omega)
   have f4:fh hi {data:= #[]}=false→cI a.key hi=true:=fun e=>hk.high (dc.1 e) a hm
   have f5:=aW k (by omega)
   have f4':fh hi {data:= #[]}=false→cI a.key hi=false→False:=fun e h=>by rw[f4 e]at h;cases h
   rcases Nat.eq_zero_or_pos k with h0|h0
   ·have z1:((k:Int)=0)=True:=eq_true (by omega)
    have z2:((k:Int)>0)=False:=eq_false (by omega)
    have f1:fh a.key {data:= #[]}=true:=cR.2 ((hk.first k a ha).2 ⟨h0,rfl⟩)
    refine PL [] mx (by kernel_rfl) ?_
    (refine @ab _ ?_;refine Co @f1 @f2 @f5 @z1 @z2 @hlt ?_)
    exact f4'
   ·have f1:fh a.key {data:= #[]}=false:=dc.2 fun e=>absurd ((hk.first k a ha).1 e).1 (by omega)
    have f3:cI a.key lo=false:=im.1 (hk.low k a ha fun e=>absurd e.1 (by omega))
    have z1:((k:Int)=0)=False:=eq_false (by omega)
    have z2:((k:Int)>0)=True:=eq_true (by omega)
    have z3:IntKind.i64.wrap ((k:Int)-1)=((k-1:Nat):Int):=by rw[ba (by omega) (by omega)];omega
    have z4:∀c,n.l[k-1]? =some c→mq a.key c.key=false:=fun c hc=>s6.2 (EI hk.bW (i:=k-1) (j:=k) (by omega) hc ha)
    have z5:∀c,n.l[k-1]? =some c→mq a.key c.key=true→False:=fun c hc h=>by rw[z4 c hc]at h;cases h
    refine PL [] mx (by kernel_rfl) ?_
    (refine @ab _ ?_;refine Q0 @f1 @f2 @f3 @f5 @z1 @z2 @z3 @hlt ?_)
    exact⟨by omega,fun c hc=>⟨z5 c hc,fun _=>f4'⟩⟩
  ·(refine @ab _ ?_;exact aK)
end Go.Proofs.YtpjenciplibdnaaGreatDoor
