/-
  Part 6 of the proof that the last text ends: from 'A text that is being built (strings.Builder): what its methods do, with all that stays' to 'A text that is being built: its methods, walked once for whatever program bears them'. By an AI agent.
-/
import Derived.Shelf.Strings.BuilderRune
set_option linter.unusedVariables false
set_option linter.unusedSimpArgs false
set_option maxRecDepth 100000
set_option maxHeartbeats 16000000
namespace Aml
open Go Go.RowKit
structure L8(w w':World)(v v':Value):Prop where
 os:w'.os=w.os
 tape:w'.tape=w.tape
 output:w'.output=w.output
 size:w.heap.size≤w'.heap.size
 drawn:w.drawn≤w'.drawn
 block:∀k,k<w.heap.size→v.ownBlock≠some k→w'.heap[k]? =w.heap[k]?
 place:v'.ownBlock=v.ownBlock∨∃r,v'.ownBlock=some r∧w.heap.size≤r
theorem L8.alloc{w w':World}{v v':Value}{o:Obj}(h:L8 (w.alloc o) w' v v'):L8 w w' v v' where
 os:=h.os
 tape:=h.tape
 output:=h.output
 size:=Nat.le_trans (by simp) h.size
 drawn:=h.drawn
 block:=fun k hk hne=>(h.block k (Nat.lt_of_lt_of_le hk (by simp)) hne).trans (heap_alloc_old w o hk)
 place:=h.place.imp id fun⟨r,a,b⟩=>⟨r,a,Nat.le_trans (by simp) b⟩
theorem L8.refl(w:World)(v:Value):L8 w w v v:=⟨rfl,rfl,rfl,Nat.le_refl _,Nat.le_refl _,fun _ _ _=>rfl,.inl rfl⟩
section
variable {P:Program}
end
structure SbP(T e b:Nat)(v:Value)(xs:List Value)(w w':World):Prop where
 os:w'.os=w.os
 tape:w'.tape=w.tape
 output:w'.output=w.output
 size:w.heap.size≤w'.heap.size
 drawn:w.drawn≤w'.drawn
 block:∀k,k<w.heap.size→k≠b→v.ownBlock≠some k→w'.heap[k]? =w.heap[k]?
 at_:∃p v',w'.heap[b]? =some (.cells #[p,v'] T (0,0))∧(p= .pointer none∨p= .pointer (some ⟨b,0,none⟩))∧w'.ownsRowF 0 e 1 v' xs.length xs∧v'.ownBlock≠some b∧(v'.ownBlock=v.ownBlock∨∃r,v'.ownBlock=some r∧w.heap.size≤r)
structure Yo(T e b:Nat)(p v:Value)(xs:List Value)(w:World):Prop where
 at_:w.heap[b]? =some (.cells #[p,v] T (0,0))
 own:p= .pointer none∨p= .pointer (some ⟨b,0,none⟩)
 row:w.ownsRowF 0 e 1 v xs.length xs
 ne:v.ownBlock≠some b
theorem Yo.lt{T e b:Nat}{p v:Value}{xs:List Value}{w:World}(h:Yo T e b p v xs w):b<w.heap.size:=(Array.getElem?_eq_some_iff.1 h.at_).1
theorem SbP.put{T e b:Nat}{p v v' q:Value}{xs ys:List Value}{w w1 w2:World}(h:Yo T e b p v xs w)(hq:q= .pointer none∨q= .pointer (some ⟨b,0,none⟩))(h1:w1.heap[b]? =some (.cells #[q,v] T (0,0)))(hf:∀k,k≠b→w1.heap[k]? =w.heap[k]?)(hz:w.heap.size≤w1.heap.size)(ho:w1.os=w.os∧w1.tape=w.tape∧w1.output=w.output∧w.drawn≤w1.drawn)
 (hs:L8 w1 w2 v v') (hr:w2.ownsRowF 0 e 1 v' ys.length ys):SbP T e b v ys w (w2.setCell ⟨b,1,none⟩ v'):=by
 have hlt:=h.lt;have hb2:w2.heap[b]? =some (.cells #[q,v] T (0,0)):=by rw[hs.block b (by omega) h.ne];exact h1
 have hne:v'.ownBlock≠some b:=by
  rcases hs.place with hp|⟨r,hp,hr⟩
  ·rw[hp];exact h.ne
  ·rw[hp];rintro e;cases e;omega
 refine⟨hs.os.trans ho.1,hs.tape.trans ho.2.1,hs.output.trans ho.2.2.1,?_,Nat.le_trans ho.2.2.2 hs.drawn,fun k hk hkb hkv=>?_,q,v',?_,hq,?_,hne,?_⟩
 ·have:=hs.size;simp only[World.setCell,Array.size_modify];omega
 ·rw[Below.heap_setCell _ _ _ _ (fun e=>hkb e),hs.block k (by omega) hkv,hf k hkb]
 ·simp[World.setCell,Array.getElem?_modify,hb2]
 ·exact hr.kept (row:=some b) ⟨rfl,rfl,rfl,by simp[World.setCell],fun k _ hk=>Below.heap_setCell _ _ _ _ (fun e=>hk (by simp[e]))⟩ (Or.inr hne)
 ·rcases hs.place with hp|⟨r,hp,hr⟩
  ·exact .inl hp
  ·exact .inr ⟨r,hp,by omega⟩
end Aml
namespace Aml
open Go Go.RowKit Go.Shelf Go.Proofs
set_option maxHeartbeats 4000000
variable {P:Program} {ρ:Ren}
end Aml
