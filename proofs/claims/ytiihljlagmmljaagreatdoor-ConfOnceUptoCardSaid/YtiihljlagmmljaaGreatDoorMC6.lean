/-
  Part 6 of the proof that the last text ends: from 'A text that is being built (strings.Builder): what its methods do, with all that stays' to 'A text that is being built: its methods, walked once for whatever program bears them'. By an AI agent.
-/
import Derived.Shelf.Strings.BuilderRune
set_option linter.unusedVariables false
set_option linter.unusedSimpArgs false
set_option maxRecDepth 100000
set_option maxHeartbeats 16000000
namespace Aml
open Go Go.RowKit
structure qM(w w':World)(v v':Value):Prop where
 os:w'.os=w.os
 tape:w'.tape=w.tape
 output:w'.output=w.output
 size:w.heap.size≤w'.heap.size
 drawn:w.drawn≤w'.drawn
 block:∀k,k<w.heap.size→v.ownBlock≠some k→w'.heap[k]? =w.heap[k]?
 place:v'.ownBlock=v.ownBlock∨∃r,v'.ownBlock=some r∧w.heap.size≤r
theorem qM.alloc{w w':World}{v v':Value}{o:Obj}(h:qM (w.alloc o) w' v v'):qM w w' v v' where
 os:=h.os
 tape:=h.tape
 output:=h.output
 size:=Nat.le_trans (by simp) h.size
 drawn:=h.drawn
 block:=fun k hk hne=>(h.block k (Nat.lt_of_lt_of_le hk (by simp)) hne).trans (heap_alloc_old w o hk)
 place:=h.place.imp id fun⟨r,a,b⟩=>⟨r,a,Nat.le_trans (by simp) b⟩
theorem qM.refl(w:World)(v:Value):qM w w v v:=⟨rfl,rfl,rfl,Nat.le_refl _,Nat.le_refl _,fun _ _ _=>rfl,.inl rfl⟩
theorem Iq(w:World)(g n c n' c':Nat)(cs:Array Value):qM w (w.setRow g cs) (.slice (some ⟨g,0,none⟩) n c) (.slice (some ⟨g,0,none⟩) n' c'):=
 ⟨rfl,rfl,rfl,by simp,Nat.le_refl _,fun k _ hk=>setRow_other w g k _ (fun e=>hk (by simp[Value.ownBlock,e])),.inl rfl⟩
theorem zN(w:World)(v:Value)(n c:Nat)(o:Obj):qM w (w.drew.alloc o) v (.slice (some ⟨w.heap.size,0,none⟩) n c):=
 ⟨rfl,rfl,rfl,by simp,Nat.le_succ _,fun k hk _=>heap_alloc_old w.drew o hk,.inr ⟨_,rfl,Nat.le_refl _⟩⟩
section
variable {P:Program}
theorem Ey(w:World)(t u ty e:TypeId)(i:TypeInfo)(ht:P.underlying t=some (.slice e))(hu:P.underlying u=some .string)(hi:P.info? e=some i)(hz:i.zero=some (.int .u8 0))(hsize:i.size=1)(hby:i.bytes=1)
 (v:Value) (n:Nat) (xs:List Value) (hown:w.ownsRowF 0 e 1 v n xs) (s:ByteArray) (hlen:n+s.size≤140737488355328):
 ∃v' w',(Builtin.append_ #[t,u] ty #[v,.string s]).run P w= .ok v' w'∧w'.ownsRowF 0 e 1 v' (n+s.size) (xs++Lib.strCells s)∧qM w w' v v':=by
 have h63:n+s.size≤maxLen:=by unfold maxLen;omega
 have hz1:(Value.int IntKind.u8 0).cells.size=1:=rfl;rcases hown.2 with⟨rfl,rfl⟩|⟨g,cap,cur,fz,rfl,hbg,hg,hfz,hnc,hcm,hcs,htake⟩
 ·have hx:xs=[]:=List.eq_nil_of_length_eq_zero (by simpa using hown.1);subst hx;by_cases hm:s.size=0
  ·have hn:Lib.strCells s=[]:=List.eq_nil_of_length_eq_zero (by rw[Lib.strCells_length];exact hm);have hf:=Lib.run_firstCells_string (P:=P) w 1 s;rw[hm]at hf;refine⟨.slice none 0 0,w,?_,by rw[hm,hn];exact World.ownsRowF_nil w 0 e 1,qM.refl w _⟩;simp[Builtin.append_,run_underlying ht,run_underlying hu,Go.sizeOf,typeInfo,hi,hsize,Builtin.lenOf,hm,hf]
  ·have hr:=run_append_nil_string (P:=P) w t u ty e i (.int .u8 0) ht hu hi hz s (by omega) (by omega) (by rw[hby];omega)
   have e1:(s.data.map fun b=>Value.int .u8 b.toNat)=(Lib.strCells s).toArray:=by
    apply Array.ext';simp[Lib.strCells]
   rw[e1]at hr;have hge:=grownCap_ge w s.size 0 e;have hcm:=grownCap_le_maxLen w s.size 0 e (by omega);refine⟨_,_,hr,?_,zN w _ _ _ _⟩;rw[Nat.zero_add,List.nil_append];refine⟨by rw[Lib.strCells_length];omega,.inr ⟨w.heap.size,_,_,(0,0),rfl,Nat.zero_le _,heap_alloc_new w.drew _,Nat.zero_le _,hge,hcm,?_,?_⟩⟩
   ·simp only[Array.size_append,List.size_toArray,size_zeroCells,hz1,Lib.strCells_length];omega
   ·simp only[Array.toList_append,Nat.mul_one,←Lib.strCells_length];exact List.take_left
 ·have hxl:xs.length=n:=by simpa using hown.1
  have hll:(xs++Lib.strCells s).length=(n+s.size)*1:=by rw[List.length_append,hxl,Lib.strCells_length,Nat.mul_one]
  by_cases hroom:n+s.size≤cap
  ·have hcs':cur.size=cap:=by simpa using hcs
   have hr:=Lib.run_append_room_stringF (P:=P) w t u ty e i ht hu hi hsize g n cap cur fz hg (by simpa using hfz) s hroom (by omega);refine⟨_,_,hr,⟨hll,.inr ⟨g,cap,_,fz,rfl,hbg,setRow_heap w g cur _ e _ hg,by omega,hroom,hcm,?_,?_⟩⟩,Iq w g _ _ _ _ _⟩
   ·simp only[List.size_toArray,List.length_append,List.length_take,List.length_drop,Array.length_toList,Lib.strCells_length];omega
   ·have ht':cur.toList.take n=xs:=by simpa using htake
    rw[ht',←hll];exact List.take_left
  ·have holds:∀j u,xs[j]? =some u→w.cell? ((⟨g,0,none⟩:Addr).add j)=some u:=hown.cells (g:=g) rfl;have hr:=Lib.run_append_grow_string (P:=P) w t u ty e i (.int .u8 0) ht hu hi hz ⟨g,0,none⟩ n cap xs (by rw[hsize];simpa using hxl) holds s (by omega) (by omega) (by rw[hby];exact growslice_fits (by omega) (by omega));have hge:=grownCap_ge w (n+s.size) cap e;have hcm2:=grownCap_le_maxLen w (n+s.size) cap e h63;refine⟨_,_,hr,⟨hll,.inr ⟨w.heap.size,_,_,(0,0),rfl,Nat.zero_le _,heap_alloc_new w.drew _,Nat.zero_le _,hge,hcm2,?_,?_⟩⟩,zN w _ _ _ _⟩
   ·simp only[Array.size_append,List.size_toArray,size_zeroCells,hz1,hxl,Lib.strCells_length];omega
   ·simp only[Array.toList_append,List.append_assoc];rw[←List.append_assoc,←hll];exact List.take_left
theorem vO{w:World}{ops:Array Oper}{rest:List Oper}{o:Oper}{a:Act}{Q:Exit→Act→World→Prop}(hgd:o.guard=none)(sl x:Operand)(t u:TypeId)(ho:o.op= .call {callee:= .builtin .append,args:= #[sl,x],argTypes:= #[t,u]})
 (e:TypeId) (i:TypeInfo) (ht:P.underlying t=some (.slice e)) (hu:P.underlying u=some .string) (hi:P.info? e=some i) (hz:i.zero=some (.int .u8 0)) (hsize:i.size=1) (hby:i.bytes=1)
 (v:Value) (n:Nat) (xs:List Value) (hs:a.eval sl=v) (hown:w.ownsRowF 0 e 1 v n xs) (s:ByteArray) (hx:a.eval x= .string s) (hlen:n+s.size≤140737488355328)
 (h:∀v' w',w'.ownsRowF 0 e 1 v' (n+s.size) (xs++Lib.strCells s)→qM w w' v v'→wpList P ops Q rest (a.put o.dst v') w'):wpList P ops Q (o::rest) a w:=by
 refine wpList_plain hgd fun K hK=>?_;obtain⟨v',w',hr,h2,h3⟩:=Ey (P:=P) w t u o.type e i ht hu hi hz hsize hby v n xs hown s hlen;unfold Oper.wp execOp;simp only[ho,resolve,invoke,builtin,Sem.run_bind,Sem.run_pure,Result.andThen_ok,List.map_toArray,List.map_cons,List.map_nil,hs,hx,hr];exact hK _ _ (h v' w' h2 h3)
end
structure Cx(T e b:Nat)(v:Value)(xs:List Value)(w w':World):Prop where
 os:w'.os=w.os
 tape:w'.tape=w.tape
 output:w'.output=w.output
 size:w.heap.size≤w'.heap.size
 drawn:w.drawn≤w'.drawn
 block:∀k,k<w.heap.size→k≠b→v.ownBlock≠some k→w'.heap[k]? =w.heap[k]?
 at_:∃p v',w'.heap[b]? =some (.cells #[p,v'] T (0,0))∧(p= .pointer none∨p= .pointer (some ⟨b,0,none⟩))∧w'.ownsRowF 0 e 1 v' xs.length xs∧v'.ownBlock≠some b∧(v'.ownBlock=v.ownBlock∨∃r,v'.ownBlock=some r∧w.heap.size≤r)
structure A5(T e b:Nat)(p v:Value)(xs:List Value)(w:World):Prop where
 at_:w.heap[b]? =some (.cells #[p,v] T (0,0))
 own:p= .pointer none∨p= .pointer (some ⟨b,0,none⟩)
 row:w.ownsRowF 0 e 1 v xs.length xs
 ne:v.ownBlock≠some b
theorem A5.lt{T e b:Nat}{p v:Value}{xs:List Value}{w:World}(h:A5 T e b p v xs w):b<w.heap.size:=(Array.getElem?_eq_some_iff.1 h.at_).1
theorem Cx.put{T e b:Nat}{p v v' q:Value}{xs ys:List Value}{w w1 w2:World}(h:A5 T e b p v xs w)(hq:q= .pointer none∨q= .pointer (some ⟨b,0,none⟩))(h1:w1.heap[b]? =some (.cells #[q,v] T (0,0)))(hf:∀k,k≠b→w1.heap[k]? =w.heap[k]?)(hz:w.heap.size≤w1.heap.size)(ho:w1.os=w.os∧w1.tape=w.tape∧w1.output=w.output∧w.drawn≤w1.drawn)
 (hs:qM w1 w2 v v') (hr:w2.ownsRowF 0 e 1 v' ys.length ys):Cx T e b v ys w (w2.setCell ⟨b,1,none⟩ v'):=by
 have hlt:=h.lt;have hb2:w2.heap[b]? =some (.cells #[q,v] T (0,0)):=by rw[hs.block b (by omega) h.ne];exact h1
 have hne:v'.ownBlock≠some b:=by
  rcases hs.place with hp|⟨r,hp,hr⟩
  ·rw[hp];exact h.ne
  ·rw[hp];rintro e;cases e;omega
 refine⟨hs.os.trans ho.1,hs.tape.trans ho.2.1,hs.output.trans ho.2.2.1,?_,Nat.le_trans ho.2.2.2 hs.drawn,fun k hk hkb hkv=>?_,q,v',?_,hq,?_,hne,?_⟩
 ·have:=hs.size;simp only[World.setCell,Array.size_modify];omega
 ·rw[Below.heap_setCell _ _ _ _ (fun e=>hkb e),hs.block k (by omega) hkv,hf k hkb]
 ·simp[World.setCell,Array.getElem?_modify,hb2]
 ·exact hr.kept (row:=some b) ⟨rfl,rfl,rfl,by simp[World.setCell],fun k _ hk=>Below.heap_setCell _ _ _ _ (fun e=>hk (by simp[e]))⟩ (Or.inr hne)
 ·rcases hs.place with hp|⟨r,hp,hr⟩
  ·exact .inl hp
  ·exact .inr ⟨r,hp,by omega⟩
end Aml
namespace Aml
open Go Go.RowKit Go.Shelf Go.Proofs
set_option maxHeartbeats 4000000
variable {P:Program} {ρ:Ren}
theorem GW(L:Lays.n240 P ρ)(X:Builder.X72 P ρ){e b:Nat}{p v:Value}{xs:List Value}{w:World}(h:A5 (ρ.t 72) e b p v xs w):
 Calls P (ρ.f 240) #[.pointer (some ⟨b,0,none⟩)] w fun x w'=>x= .returned (.tuple #[])∧w'.heap[b]? =some (.cells #[.pointer (some ⟨b,0,none⟩),v] (ρ.t 72) (0,0))∧(∀k,k≠b→w'.heap[k]? =w.heap[k]?)∧w.heap.size≤w'.heap.size∧w'.os=w.os∧w'.tape=w.tape∧w'.output=w.output∧w.drawn≤w'.drawn:=by
 have hat:=h.at_;rcases h.own with rfl|rfl
 ·refine(Any.Builder_copyCheck_fresh L X b w (by rw[Lib.cell_of_heap hat];rfl) (by simp[World.shape?,hat]) (Lib.frozen_of_heap hat 0)).mono ?_;rintro x w' ⟨rfl,rfl⟩;exact⟨rfl,by simp[World.setCell,Array.getElem?_modify,hat],fun k hk=>Below.heap_setCell _ _ _ _ (fun e=>hk e),by simp[World.setCell],rfl,rfl,rfl,Nat.le_refl _⟩
 ·refine(Any.Builder_copyCheck_used L X b w (by rw[Lib.cell_of_heap hat];rfl)).mono ?_;rintro x w' ⟨rfl,rfl⟩;exact⟨rfl,hat,fun _ _=>rfl,Nat.le_refl _,rfl,rfl,rfl,Nat.le_refl _⟩
theorem Fa{w w':World}{b:Nat}{e:TypeId}{v:Value}{n:Nat}{xs:List Value}(h:w.ownsRowF 0 e 1 v n xs)(hne:v.ownBlock≠some b)(hs:∀k,k≠b→w'.heap[k]? =w.heap[k]?):w'.ownsRowF 0 e 1 v n xs:=by
 refine⟨h.1,?_⟩;rcases h.2 with h|⟨g,cap,cur,fz,rfl,h1,h2,h3⟩
 ·exact .inl h
 ·exact .inr ⟨g,cap,cur,fz,rfl,h1,(hs g (fun e=>hne (by simp[Value.ownBlock,e]))).trans h2,h3⟩
theorem qB{w:World}{e:TypeId}{v:Value}{n:Nat}{xs:List Value}(h:w.ownsRowF 0 e 1 v n xs):∃a c,v= .slice a n c:=by
 rcases h.2 with⟨hv,h0⟩|⟨g,cap,cur,fz,hv,_⟩
 ·exact⟨none,0,by rw[hv,h0]⟩
 ·exact⟨_,_,hv⟩
theorem JV(L:Lays.n166 P ρ)(X:Builder.Extra P ρ){b:Nat}{p v:Value}{xs:List Value}{w:World}(h:A5 (ρ.t 72) (ρ.t 5) b p v xs w)(s:ByteArray)(hlen:xs.length+s.size≤140737488355328):
 Calls P (ρ.f 166) #[.pointer (some ⟨b,0,none⟩),.string s] w fun x w'=>x= .returned (.tuple #[.int .i64 s.size,.nilIface])∧Cx (ρ.t 72) (ρ.t 5) b v (xs++Lib.strCells s) w w':=by
 obtain⟨i0,hi,hz0,hz1,hz2⟩:=info_parts X.infoByte;have mixed:=L.mixed;have t72:=L.t72;have a72:=L.a72;have z72:=L.z72;have v72:=L.v72;have u72:=run_underlying L.t72;have t70:=L.t70;have a70:=L.a70;have z70:=L.z70;have v70:=L.v70;have u70:=run_underlying L.t70;have t37:=L.t37;have a37:=L.a37;have z37:=L.z37;have v37:=L.v37;have u37:=run_underlying L.t37;have t3:=L.t3;have a3:=L.a3;have z3:=L.z3;have v3:=L.v3;have u3:=run_underlying L.t3;have t9:=L.t9;have a9:=L.a9;have z9:=L.z9;have v9:=L.v9;have u9:=run_underlying L.t9;have t4:=L.t4;have a4:=L.a4;have z4:=L.z4;have v4:=L.v4;have u4:=run_underlying L.t4;have t164:=L.t164;have a164:=L.a164;have z164:=L.z164;have v164:=L.v164;have u164:=run_underlying L.t164;have t5:=X.t5;have a5:=X.a5;have z5:=X.z5;have v5:=X.v5;have u5:=run_underlying X.t5;have e240:∀args w,(callFunc (ρ.f 240) args).run P w= .ok (.enter (ρ.f 240) args) w:=enters_of L.f240 (by kernel_rfl) rfl;obtain⟨ao,cap,rfl⟩:=qB h.row
 go_enter L.f166,Body.n166_ntmps ρ
 go_wp2_with (go_at_fn (ρ.f 240);refine(GW {L with} X.toX72 h).mono ?_)
 rintro x w1 ⟨rfl,hb1,hf,hz,ho⟩;have c0:w1.cell? ⟨b,0,none⟩=some (.pointer (some ⟨b,0,none⟩)):=by rw[Lib.cell_of_heap hb1];rfl
 have c1:w1.cell? ⟨b,1,none⟩=some (.slice ao xs.length cap):=by rw[Lib.cell_of_heap hb1];rfl
 have hrow:=Fa h.row h.ne hf
 go_wp2_with (at_builtin;refine vO rfl _ _ (ρ.t 37) (ρ.t 9) rfl (ρ.t 5) i0 L.t37 L.t9 hi hz0 hz1 hz2 _ _ _ rfl hrow s rfl ?c4 ?_)
 case c4=>omega
 intro v' w2 hr hs
 have hb2:w2.heap[b]? =some (.cells #[.pointer (some ⟨b,0,none⟩),.slice ao xs.length cap] (ρ.t 72) (0,0)):=by
  rw[hs.block b (by have:=h.lt;omega) h.ne];exact hb1
 have d0:w2.cell? ⟨b,0,none⟩=some (.pointer (some ⟨b,0,none⟩)):=by rw[Lib.cell_of_heap hb2];rfl
 have d1:w2.cell? ⟨b,1,none⟩=some (.slice ao xs.length cap):=by rw[Lib.cell_of_heap hb2];rfl
 have f1:w2.frozen? ⟨b,1,none⟩=false:=Lib.frozen_of_heap hb2 1;obtain⟨ao',cap',rfl⟩:=qB hr
 go_wp2
 go_ret2
 exact⟨rfl,Cx.put h (.inr rfl) hb1 hf hz ho hs (by simpa[Lib.strCells_length]using hr)⟩
theorem Cs(L:Lays.n169 P ρ)(X:Builder.Extra P ρ){b:Nat}{p v:Value}{l:List UInt8}{w:World}(h:A5 (ρ.t 72) (ρ.t 5) b p v (Lib.byteCells l) w)(h0:l≠[]):
 Calls P (ρ.f 169) #[.pointer (some ⟨b,0,none⟩)] w fun x w'=>x= .returned (.string ⟨l.toArray⟩)∧Cx (ρ.t 72) (ρ.t 5) b v (Lib.byteCells l) w w':=by
 have hrow:=h.row;rw[Lib.byteCells_length]at hrow;have hl0:l.length≠0:=by simpa using h0
 obtain⟨g,cap,cur,fz,rfl,hbg,hg,hfz,hnc,hcm,hcs,htake⟩:∃g cap cur fz,v= .slice (some ⟨g,0,none⟩) l.length cap∧0≤g∧w.heap[g]? =some (.cells cur (ρ.t 5) fz)∧fz.2≤l.length*1∧l.length≤cap∧cap≤maxLen∧cur.size=cap*1∧cur.toList.take (l.length*1)=Lib.byteCells l:=by
  rcases hrow.2 with⟨_,hz⟩|⟨g,cap,cur,fz,hv,r⟩
  ·exact absurd hz hl0
  ·exact⟨g,cap,cur,fz,hv,r⟩
 have hgb:g≠b:=fun e=>h.ne (by simp[Value.ownBlock,e])
 have c1:w.drew.cell? ⟨b,1,none⟩=some (.slice (some ⟨g,0,none⟩) l.length cap):=by
  have:w.drew.heap[b]? =_:=h.at_;rw[Lib.cell_of_heap this];rfl
 have hSD:(Builtin.unsafeSliceData_ #[(ρ.t 37)] (ρ.t 127) #[.slice (some ⟨g,0,none⟩) l.length cap]).run P w.drew= .ok (.pointer (some ⟨g,0,none⟩)) w.drew:=
  Lib.run_unsafeSliceData_row _ _ _ _ _ _ (by omega)
 have hUS:(Builtin.unsafeString_ #[(ρ.t 127),(ρ.t 3)] (ρ.t 9) #[.pointer (some ⟨g,0,none⟩),.int .i64 l.length]).run P w.drew= .ok (.string ⟨l.toArray⟩) (w.drew.freeze ⟨g,0,none⟩ l.length):=by
  refine Lib.run_unsafeString_row w.drew (ρ.t 127) (ρ.t 3) (ρ.t 9) (ρ.t 5) L.t127 X.cellsByte g cur.size (by have hg':w.drew.heap[g]? =some (.cells cur (ρ.t 5) fz):=hg;simp[World.shape?,hg']) l h0 (by omega) (by unfold maxLen at hcm;omega) ?_;intro j x hx;have:=hrow.cells (g:=g) rfl j (.int .u8 x.toNat) (by simp[Lib.byteCells,hx]);exact this
 have hfin:Cx (ρ.t 72) (ρ.t 5) b (.slice (some ⟨g,0,none⟩) l.length cap) (Lib.byteCells l) w (w.drew.freeze ⟨g,0,none⟩ l.length):=by
  unfold World.freeze;rw[if_neg hl0];refine⟨rfl,rfl,rfl,by simp,Nat.le_succ _,fun k hk hkb hkv=>?_,p,_,?_,h.own,?_,h.ne,.inl rfl⟩
  ·simp only[Array.getElem?_modify];rw[if_neg (fun e=>hkv (by simp[Value.ownBlock,e]))];rfl
  ·simp only[Array.getElem?_modify];rw[if_neg hgb];exact h.at_
  ·rw[Lib.byteCells_length];refine⟨hrow.1,?_⟩;obtain⟨lo,hi⟩:=fz;refine .inr ⟨g,_,cur,(if lo==hi then(0,0+l.length)else(min lo 0,max hi (0+l.length))),rfl,hbg,?_,?_,hnc,hcm,hcs,htake⟩
   ·have hg':w.drew.heap[g]? =some (.cells cur (ρ.t 5) (lo,hi)):=hg;simp[Array.getElem?_modify,hg']
   ·simp only at hfz;split <;>simp <;>omega
 have mixed:=L.mixed;have t72:=L.t72;have a72:=L.a72;have z72:=L.z72;have v72:=L.v72;have u72:=run_underlying L.t72;have t70:=L.t70;have a70:=L.a70;have z70:=L.z70;have v70:=L.v70;have u70:=run_underlying L.t70;have t37:=L.t37;have a37:=L.a37;have z37:=L.z37;have v37:=L.v37;have u37:=run_underlying L.t37;have t127:=L.t127;have a127:=L.a127;have z127:=L.z127;have v127:=L.v127;have u127:=run_underlying L.t127;have t3:=L.t3;have a3:=L.a3;have z3:=L.z3;have v3:=L.v3;have u3:=run_underlying L.t3;have t9:=L.t9;have a9:=L.a9;have z9:=L.z9;have v9:=L.v9;have u9:=run_underlying L.t9;have t5:=X.t5;have a5:=X.a5;have z5:=X.z5;have v5:=X.v5;have u5:=run_underlying X.t5
 go_enter L.f169,Body.n169_ntmps ρ
 go_wp2
 go_region_o
 all_goals (go_wp2;go_ret;exact⟨rfl,hfin⟩)
theorem wR(L:Lays.n169 P ρ)(X:Builder.Extra P ρ){b:Nat}{p:Value}{w:World}(h:A5 (ρ.t 72) (ρ.t 5) b p (.slice none 0 0) [] w):
 Calls P (ρ.f 169) #[.pointer (some ⟨b,0,none⟩)] w fun x w'=>x= .returned (.string ⟨#[]⟩)∧Cx (ρ.t 72) (ρ.t 5) b (.slice none 0 0) [] w w':=by
 have hUS:=Any.unsafeString_none L X;have hat:=h.at_;have hlt:=h.lt
 have c1:w.drew.cell? ⟨b,1,none⟩=some (.slice none 0 0):=by
  have:w.drew.heap[b]? =_:=h.at_;rw[Lib.cell_of_heap this];rfl
 have hSD:(Builtin.unsafeSliceData_ #[(ρ.t 37)] (ρ.t 127) #[.slice none 0 0]).run P w.drew= .ok (.pointer none) w.drew:=rfl;have mixed:=L.mixed;have t72:=L.t72;have a72:=L.a72;have z72:=L.z72;have v72:=L.v72;have u72:=run_underlying L.t72;have t70:=L.t70;have a70:=L.a70;have z70:=L.z70;have v70:=L.v70;have u70:=run_underlying L.t70;have t37:=L.t37;have a37:=L.a37;have z37:=L.z37;have v37:=L.v37;have u37:=run_underlying L.t37;have t127:=L.t127;have a127:=L.a127;have z127:=L.z127;have v127:=L.v127;have u127:=run_underlying L.t127;have t3:=L.t3;have a3:=L.a3;have z3:=L.z3;have v3:=L.v3;have u3:=run_underlying L.t3;have t9:=L.t9;have a9:=L.a9;have z9:=L.z9;have v9:=L.v9;have u9:=run_underlying L.t9;have t5:=X.t5;have a5:=X.a5;have z5:=X.z5;have v5:=X.v5;have u5:=run_underlying X.t5
 go_enter L.f169,Body.n169_ntmps ρ
 go_wp2
 go_region_o
 all_goals (go_wp2;go_ret;refine⟨rfl,⟨rfl,rfl,rfl,Nat.le_refl _,Nat.le_succ _,fun _ _ _ _=>rfl,p,_,h.at_,h.own,h.row,h.ne,.inl rfl⟩⟩)
theorem xa(L:Lays.n169 P ρ)(X:Builder.Extra P ρ){b:Nat}{p:Value}{w:World}{g cap:Nat}(hc0:cap≠0)(h:A5 (ρ.t 72) (ρ.t 5) b p (.slice (some ⟨g,0,none⟩) 0 cap) [] w):
 Calls P (ρ.f 169) #[.pointer (some ⟨b,0,none⟩)] w fun x w'=>x= .returned (.string ⟨#[]⟩)∧Cx (ρ.t 72) (ρ.t 5) b (.slice (some ⟨g,0,none⟩) 0 cap) [] w w':=by
 have hUS:=Any.unsafeString_none L X;have hat:=h.at_;have hlt:=h.lt
 have c1:w.drew.cell? ⟨b,1,none⟩=some (.slice (some ⟨g,0,none⟩) 0 cap):=by
  have:w.drew.heap[b]? =_:=h.at_;rw[Lib.cell_of_heap this];rfl
 have hSD:(Builtin.unsafeSliceData_ #[(ρ.t 37)] (ρ.t 127) #[.slice (some ⟨g,0,none⟩) 0 cap]).run P w.drew= .ok (.pointer (some ⟨g,0,none⟩)) w.drew:=
  Lib.run_unsafeSliceData_row _ _ _ _ _ _ hc0
 clear hc0;have mixed:=L.mixed;have t72:=L.t72;have a72:=L.a72;have z72:=L.z72;have v72:=L.v72;have u72:=run_underlying L.t72;have t70:=L.t70;have a70:=L.a70;have z70:=L.z70;have v70:=L.v70;have u70:=run_underlying L.t70;have t37:=L.t37;have a37:=L.a37;have z37:=L.z37;have v37:=L.v37;have u37:=run_underlying L.t37;have t127:=L.t127;have a127:=L.a127;have z127:=L.z127;have v127:=L.v127;have u127:=run_underlying L.t127;have t3:=L.t3;have a3:=L.a3;have z3:=L.z3;have v3:=L.v3;have u3:=run_underlying L.t3;have t9:=L.t9;have a9:=L.a9;have z9:=L.z9;have v9:=L.v9;have u9:=run_underlying L.t9;have t5:=X.t5;have a5:=X.a5;have z5:=X.z5;have v5:=X.v5;have u5:=run_underlying X.t5
 go_enter L.f169,Body.n169_ntmps ρ
 go_wp2
 go_region_o
 all_goals (go_wp2;go_ret;refine⟨rfl,⟨rfl,rfl,rfl,Nat.le_refl _,Nat.le_succ _,fun _ _ _ _=>rfl,p,_,h.at_,h.own,h.row,h.ne,.inl rfl⟩⟩)
theorem GV{w:World}{e g:Nat}{cur:Array Value}{fz:Nat×Nat}{v:Value}{n:Nat}{xs:List Value}(h:w.ownsRowF 0 e 1 v n xs)(hg:w.heap[g]? =some (.cells cur e fz))(o:Obj):(w.drew.alloc o).ownsRowF 0 e 1 v n xs:=
 (show w.drew.ownsRowF 0 e 1 v n xs from h).alloc o
theorem yx(L:Lays.n169 P ρ)(X:Builder.Extra P ρ){b:Nat}{p:Value}{w:World}{g:Nat}{cur:Array Value}{fz:Nat×Nat}(hg:w.heap[g]? =some (.cells cur (ρ.t 5) fz))(h:A5 (ρ.t 72) (ρ.t 5) b p (.slice (some ⟨g,0,none⟩) 0 0) [] w):
 Calls P (ρ.f 169) #[.pointer (some ⟨b,0,none⟩)] w fun x w'=>x= .returned (.string ⟨#[]⟩)∧Cx (ρ.t 72) (ρ.t 5) b (.slice (some ⟨g,0,none⟩) 0 0) [] w w':=by
 have hUS:=Any.unsafeString_none L X;have hat:=h.at_;have hlt:=h.lt
 have c1:w.drew.cell? ⟨b,1,none⟩=some (.slice (some ⟨g,0,none⟩) 0 0):=by
  have:w.drew.heap[b]? =_:=h.at_;rw[Lib.cell_of_heap this];rfl
 have hSD:(Builtin.unsafeSliceData_ #[(ρ.t 37)] (ρ.t 127) #[.slice (some ⟨g,0,none⟩) 0 0]).run P w.drew= .ok (.pointer (some ⟨w.drew.heap.size,0,none⟩)) (w.drew.alloc (.view ⟨g,0,none⟩ (ρ.t 5))):=
  Lib.run_unsafeSliceData_zero w.drew _ _ (ρ.t 5) L.t127 ⟨g,0,none⟩ 0 ((ρ.t 5),cur.size) (by have hg':w.drew.heap[g]? =some (.cells cur (ρ.t 5) fz):=hg;simp[World.shape?,hg'])
 have c2:(w.drew.alloc (.view ⟨g,0,none⟩ (ρ.t 5))).cell? ⟨b,1,none⟩=some (.slice (some ⟨g,0,none⟩) 0 0):=by
  have:(w.drew.alloc (.view ⟨g,0,none⟩ (ρ.t 5))).heap[b]? =_:=(Lib.alloc_old w.drew _ b hlt).trans h.at_;rw[Lib.cell_of_heap this];rfl
 have c3:(w.alloc (.view ⟨g,0,none⟩ (ρ.t 5))).drew.cell? ⟨b,1,none⟩=some (.slice (some ⟨g,0,none⟩) 0 0):=c2;have c0:w.cell? ⟨b,1,none⟩=some (.slice (some ⟨g,0,none⟩) 0 0):=c1;have mixed:=L.mixed;have t72:=L.t72;have a72:=L.a72;have z72:=L.z72;have v72:=L.v72;have u72:=run_underlying L.t72;have t70:=L.t70;have a70:=L.a70;have z70:=L.z70;have v70:=L.v70;have u70:=run_underlying L.t70;have t37:=L.t37;have a37:=L.a37;have z37:=L.z37;have v37:=L.v37;have u37:=run_underlying L.t37;have t127:=L.t127;have a127:=L.a127;have z127:=L.z127;have v127:=L.v127;have u127:=run_underlying L.t127;have t3:=L.t3;have a3:=L.a3;have z3:=L.z3;have v3:=L.v3;have u3:=run_underlying L.t3;have t9:=L.t9;have a9:=L.a9;have z9:=L.z9;have v9:=L.v9;have u9:=run_underlying L.t9;have t5:=X.t5;have a5:=X.a5;have z5:=X.z5;have v5:=X.v5;have u5:=run_underlying X.t5
 go_enter L.f169,Body.n169_ntmps ρ
 go_wp2
 go_region_o
 all_goals (go_wp2;go_ret;refine⟨rfl,⟨rfl,rfl,rfl,by simp,Nat.le_succ _,fun k hk _ _=>heap_alloc_old w _ hk,p,_,(heap_alloc_old w _ hlt).trans hat,h.own,GV h.row hg _,h.ne,.inl rfl⟩⟩)
theorem CF(L:Lays.n169 P ρ)(X:Builder.Extra P ρ){b:Nat}{p v:Value}{l:List UInt8}{w:World}(h:A5 (ρ.t 72) (ρ.t 5) b p v (Lib.byteCells l) w):
 Calls P (ρ.f 169) #[.pointer (some ⟨b,0,none⟩)] w fun x w'=>x= .returned (.string ⟨l.toArray⟩)∧Cx (ρ.t 72) (ρ.t 5) b v (Lib.byteCells l) w w':=by
 cases l with
 |cons x r=>exact Cs L X h (by simp)
 |nil=>
  have h':A5 (ρ.t 72) (ρ.t 5) b p v [] w:=h;rcases h'.row.2 with⟨rfl,_⟩|⟨g,cap,cur,fz,rfl,_,hg,_⟩
  ·exact wR L X h'
  ·by_cases hc0:cap=0
   ·subst hc0;exact yx L X hg h'
   ·exact xa L X hc0 h'
end Aml
