/-
  Part 1 of the proof that the last text ends: from 'A small logic over the library's walk: abstract values, the relation to the machine's values, a store of exclusive objects, and the rules for control' to 'Append'. By an AI agent.
-/
import Derived.WalkKit
import Derived.OrdersIn
import Derived.ControlIn
import Derived.TacticsIn
import Derived.RangeFuncRecord
import Derived.RangeFuncIn
import Derived.Sort.Grow
set_option linter.unusedVariables false
set_option linter.unusedSimpArgs false
set_option maxRecDepth 100000
set_option maxHeartbeats 16000000
theorem aac:type_of% @List.getElem?_eq_getElem:=@List.getElem?_eq_getElem
theorem aad:type_of% @List.getElem?_eq_some_iff:=@List.getElem?_eq_some_iff
theorem aaf:type_of% @List.mem_of_getElem?:=@List.mem_of_getElem?
theorem aak:type_of% @Bool.and_eq_true:=@Bool.and_eq_true
theorem aaq:type_of% @Array.getElem?_eq_some_iff:=@Array.getElem?_eq_some_iff
theorem aar:type_of% @Nat.le_refl:=@Nat.le_refl
theorem aat:type_of% @List.mem_cons_of_mem:=@List.mem_cons_of_mem
theorem aau:type_of% @List.mem_singleton:=@List.mem_singleton
theorem aay:type_of% @Option.map_eq_some_iff:=@Option.map_eq_some_iff
theorem aaD:type_of% @List.mem_append:=@List.mem_append
theorem aaE:type_of% @List.getElem?_map:=@List.getElem?_map
theorem aaI:type_of% @Array.getD_eq_getD_getElem?:=@Array.getD_eq_getD_getElem?
theorem aaJ:type_of% @List.mem_cons:=@List.mem_cons
theorem aaK:type_of% @List.length_append:=@List.length_append
theorem aaQ:type_of% @List.mem_cons_self:=@List.mem_cons_self
theorem aaS:type_of% @List.getElem?_eq_none:=@List.getElem?_eq_none
theorem aaT:type_of% @List.mem_map:=@List.mem_map
theorem aaV:type_of% @List.nodup_cons:=@List.nodup_cons
theorem aaW:type_of% @List.length_cons:=@List.length_cons
theorem aaZ:type_of% @List.map_append:=@List.map_append
theorem aa0:type_of% @List.eq_nil_of_length_eq_zero:=@List.eq_nil_of_length_eq_zero
theorem aa6:type_of% @Nat.zero_le:=@Nat.zero_le
theorem aa8:type_of% @List.all_eq_true:=@List.all_eq_true
theorem aa9:type_of% @Array.getElem?_setIfInBounds:=@Array.getElem?_setIfInBounds
theorem abe:type_of% @Classical.not_not:=@Classical.not_not
theorem abf:type_of% @List.take_of_length_le:=@List.take_of_length_le
theorem abg:type_of% @Option.some.injEq:=@Option.some.injEq
theorem abj:type_of% @List.getD_eq_getElem?_getD:=@List.getD_eq_getElem?_getD
theorem abl:type_of% @List.getElem?_append_right:=@List.getElem?_append_right
theorem abp:type_of% @Nat.le_succ:=@Nat.le_succ
theorem abr:type_of% @Option.ne_none_iff_exists':=@Option.ne_none_iff_exists'
theorem abv:type_of% @List.mem_iff_getElem?:=@List.mem_iff_getElem?
theorem abx:type_of% @Ne.symm:=@Ne.symm
theorem abz:type_of% @Nat.lt_or_ge:=@Nat.lt_or_ge
theorem abB:type_of% @List.map_cons:=@List.map_cons
theorem abE:type_of% @List.getElem?_append_left:=@List.getElem?_append_left
theorem abF:type_of% @Classical.byContradiction:=@Classical.byContradiction
theorem abG:type_of% @Array.getElem?_eq_none:=@Array.getElem?_eq_none
theorem abH:type_of% @Option.map_some:=@Option.map_some
theorem abI:type_of% @List.length_map:=@List.length_map
theorem abL:type_of% @List.mem_map_of_mem:=@List.mem_map_of_mem
theorem abO:type_of% @List.mem_filter:=@List.mem_filter
theorem abQ:type_of% @Bool.false_eq_true:=@Bool.false_eq_true
theorem abR:type_of% @Option.some.inj:=@Option.some.inj
theorem abU:type_of% @Bool.not_eq_true':=@Bool.not_eq_true'
theorem abY:type_of% @List.take_add_one:=@List.take_add_one
theorem abZ:type_of% @List.getElem?_set_self:=@List.getElem?_set_self
theorem ab2:type_of% @List.length_take:=@List.length_take
theorem ab5:type_of% @List.getElem?_set_ne:=@List.getElem?_set_ne
theorem ab6:type_of% @List.getElem?_replicate:=@List.getElem?_replicate
theorem ab8:type_of% @List.length_nil:=@List.length_nil
theorem ab9:type_of% @Nat.mul_le_mul_right:=@Nat.mul_le_mul_right
theorem aca:type_of% @List.not_mem_nil:=@List.not_mem_nil
theorem acb:type_of% @List.mem_of_mem_drop:=@List.mem_of_mem_drop
theorem ace:type_of% @List.mem_range:=@List.mem_range
theorem acj:type_of% @List.lt_irrefl:=@List.lt_irrefl
theorem ack:type_of% @Nat.le_trans:=@Nat.le_trans
theorem acm:type_of% @List.getElem?_drop:=@List.getElem?_drop
theorem acn:type_of% @Prod.mk.injEq:=@Prod.mk.injEq
theorem aco:type_of% @List.append_nil:=@List.append_nil
theorem acp:type_of% @List.mem_append_left:=@List.mem_append_left
theorem acq:type_of% @List.length_drop:=@List.length_drop
theorem acr:type_of% @List.getElem?_take:=@List.getElem?_take
theorem acs:type_of% @Array.length_toList:=@Array.length_toList
theorem acu:type_of% @List.append_assoc:=@List.append_assoc
theorem acv:type_of% @Array.getElem?_toList:=@Array.getElem?_toList
theorem acw:type_of% @Nat.add_assoc:=@Nat.add_assoc
theorem acx:type_of% @Bool.or_eq_true:=@Bool.or_eq_true
theorem acy:type_of% @List.ext_getElem?:=@List.ext_getElem?
theorem acz:type_of% @List.length_filter_le:=@List.length_filter_le
theorem acA:type_of% @Nat.succ_mul:=@Nat.succ_mul
theorem acB:type_of% @List.getElem?_range:=@List.getElem?_range
theorem acC:type_of% @List.mem_of_mem_take:=@List.mem_of_mem_take
theorem acD:type_of% @List.pairwise_cons:=@List.pairwise_cons
theorem acE:type_of% @Nat.zero_add:=@Nat.zero_add
theorem acF:type_of% @Option.isSome_iff_exists:=@Option.isSome_iff_exists
theorem acG:type_of% @List.cons_append:=@List.cons_append
theorem acH:type_of% @List.getElem_mem:=@List.getElem_mem
theorem acI:type_of% @Int.toNat_natCast:=@Int.toNat_natCast
theorem acJ:type_of% @Option.bind_eq_some_iff:=@Option.bind_eq_some_iff
theorem acK:type_of% @List.filter_append:=@List.filter_append
theorem acL:type_of% @Option.getD_some:=@Option.getD_some
theorem acM:type_of% @Array.getElem?_eq_getElem:=@Array.getElem?_eq_getElem
theorem acN:type_of% @List.mem_or_eq_of_mem_set:=@List.mem_or_eq_of_mem_set
theorem acO:type_of% @List.toList_toArray:=@List.toList_toArray
theorem acP:type_of% @List.drop_drop:=@List.drop_drop
theorem acQ:type_of% @List.length_singleton:=@List.length_singleton
theorem acR:type_of% @List.nil_append:=@List.nil_append
theorem acS:type_of% @Nat.lt_of_lt_of_le:=@Nat.lt_of_lt_of_le
theorem acT:type_of% @List.nodup_nil:=@List.nodup_nil
theorem acU:type_of% @Nat.lt_trichotomy:=@Nat.lt_trichotomy
theorem acV:type_of% @List.nodup_append:=@List.nodup_append
theorem acW:type_of% @List.length_pos_iff:=@List.length_pos_iff
theorem acX:type_of% @Array.toList_append:=@Array.toList_append
theorem acY:type_of% @List.pairwise_iff_getElem:=@List.pairwise_iff_getElem
theorem acZ:type_of% @List.length_set:=@List.length_set
theorem ac0:type_of% @List.mem_append_right:=@List.mem_append_right
theorem ac1:type_of% @Array.getElem?_modify:=@Array.getElem?_modify
theorem ac2:type_of% @Nat.add_comm:=@Nat.add_comm
theorem ac3:type_of% @Classical.em:=@Classical.em
theorem ac4:type_of% @Option.toList_some:=@Option.toList_some
theorem ac5:type_of% @Bool.true_and:=@Bool.true_and
theorem ac6:type_of% @List.sum_cons:=@List.sum_cons
theorem ac7:type_of% @List.drop_zero:=@List.drop_zero
theorem ac8:type_of% @List.length_eq_zero_iff:=@List.length_eq_zero_iff
theorem ac9:type_of% @List.foldl_append:=@List.foldl_append
theorem ada:type_of% @BitVec.getLsbD_ushiftRight:=@BitVec.getLsbD_ushiftRight
theorem adb:type_of% @Nat.mod_eq_of_lt:=@Nat.mod_eq_of_lt
theorem ade:type_of% @Nat.testBit_eq_decide_div_mod_eq:=@Nat.testBit_eq_decide_div_mod_eq
theorem adf:type_of% @List.take_append_drop:=@List.take_append_drop
theorem adg:type_of% @List.find?_eq_none:=@List.find?_eq_none
theorem adh:type_of% @Go.Sort.heap_grow_old:=@Go.Sort.heap_grow_old
theorem adi:type_of% @List.getElem?_eq_none_iff:=@List.getElem?_eq_none_iff
theorem adj:type_of% @Nat.add_zero:=@Nat.add_zero
theorem adk:type_of% @Array.eq_empty_of_size_eq_zero:=@Array.eq_empty_of_size_eq_zero
theorem adl:type_of% @List.pairwise_append:=@List.pairwise_append
theorem adm:type_of% @List.range_succ:=@List.range_succ
theorem adn:type_of% @Bool.false_or:=@Bool.false_or
theorem ado:type_of% @List.all_cons:=@List.all_cons
theorem adp:type_of% @List.map_congr_left:=@List.map_congr_left
theorem adq:type_of% @List.mergeSort_perm:=@List.mergeSort_perm
theorem adr:type_of% @Iff.rfl:=@Iff.rfl
theorem ads:type_of% @Bool.not_eq_true:=@Bool.not_eq_true
theorem adt:type_of% @Nat.mul_one:=@Nat.mul_one
theorem adu:type_of% @List.map_map:=@List.map_map
theorem adv:type_of% @List.map_set:=@List.map_set
theorem adw:type_of% @List.map_singleton:=@List.map_singleton
theorem adx:type_of% @Nat.pow_succ:=@Nat.pow_succ
theorem ady:type_of% @Nat.lt_of_le_of_lt:=@Nat.lt_of_le_of_lt
theorem adz:type_of% @List.cons.injEq:=@List.cons.injEq
theorem adA:type_of% @Nat.min_eq_left:=@Nat.min_eq_left
theorem adB:type_of% @Nat.two_pow_pos:=@Nat.two_pow_pos
theorem adC:type_of% @List.getElem?_set:=@List.getElem?_set
theorem adD:type_of% @Nat.eq_of_testBit_eq:=@Nat.eq_of_testBit_eq
theorem adE:type_of% @BitVec.ofInt_natCast:=@BitVec.ofInt_natCast
theorem adF:type_of% @List.mem_iff_getElem:=@List.mem_iff_getElem
theorem adG:type_of% @Nat.add_mul:=@Nat.add_mul
theorem adH:type_of% @List.eq_of_mem_replicate:=@List.eq_of_mem_replicate
theorem adI:type_of% @Array.setIfInBounds_comm:=@Array.setIfInBounds_comm
theorem adJ:type_of% @Array.getElem?_replicate:=@Array.getElem?_replicate
theorem adK:type_of% @BitVec.xor_assoc:=@BitVec.xor_assoc
theorem adL:type_of% @Int.eq_ofNat_of_zero_le:=@Int.eq_ofNat_of_zero_le
theorem adM:type_of% @List.getElem?_cons_succ:=@List.getElem?_cons_succ
theorem adN:type_of% @List.pairwise_singleton:=@List.pairwise_singleton
theorem adO:type_of% @List.lt_trans:=@List.lt_trans
theorem adP:type_of% @Option.isSome_none:=@Option.isSome_none
theorem adQ:type_of% @Option.isSome_some:=@Option.isSome_some
theorem adR:type_of% @Array.any_eq_true':=@Array.any_eq_true'
theorem adS:type_of% @BitVec.toNat_ofNat:=@BitVec.toNat_ofNat
theorem adT:type_of% @List.map_replicate:=@List.map_replicate
theorem adU:type_of% @Int.le_refl:=@Int.le_refl
theorem adV:type_of% @List.flatMap_cons:=@List.flatMap_cons
theorem adW:type_of% @List.size_toArray:=@List.size_toArray
theorem adX:type_of% @List.find?_append:=@List.find?_append
theorem adY:type_of% @List.findIdx_cons:=@List.findIdx_cons
theorem adZ:type_of% @List.pairwise_map:=@List.pairwise_map
theorem ad0:type_of% @Nat.sub_self:=@Nat.sub_self
namespace Aml
open Go Go.RowKit
inductive DV where
 |v (u:Value)
 |sl (s:Nat) (full:Bool) (xs:List DV)
 |agg (ds:List DV)
 |cW (ds:List DV)
 |jM (t:TypeId) (d:DV)
 |acc (l n:Nat)
 |ip (ds:List DV)
 |ap (l n s i o:Nat)
 |mp (l:Nat)
 |it (l:Nat)
 |any
 deriving Inhabited
def ud:DV:= .cW []
def eW:DV→Bool
 | .any=>false
 | .cW _=>false
 |_=>true
def cd:DV→List DV
 | .agg ds=>ds
 |d=>[d]
structure Gh where
 aY:Nat→Nat→Option Value
 acc:Nat→Nat→Option Value
 obj:Nat→Option Obj
 nf:List Deferred
structure Gh.le(g h:Gh):Prop where
 aY:∀b i u,g.aY b i=some u→h.aY b i=some u
 acc:∀l n u,g.acc l n=some u→h.acc l n=some u
 obj:h.obj=g.obj
 nf:h.nf=g.nf
theorem Gh.le.refl(g:Gh):g.le g:=⟨fun _ _ _ h=>h,fun _ _ _ h=>h,rfl,rfl⟩
theorem Gh.le.trans{a b c:Gh}(h:a.le b)(k:b.le c):a.le c:=⟨fun _ _ _ x=>k.aY _ _ _ (h.aY _ _ _ x),fun _ _ _ x=>k.acc _ _ _ (h.acc _ _ _ x),k.obj.trans h.obj,k.nf.trans h.nf⟩
structure Gh.sub(g h:Gh):Prop where
 aY:∀b i u,g.aY b i=some u→h.aY b i=some u
 acc:∀l n u,g.acc l n=some u→h.acc l n=some u
 obj:∀k o,g.obj k=some o→h.obj k=some o
theorem Gh.sub.refl(g:Gh):g.sub g:=⟨fun _ _ _ h=>h,fun _ _ _ h=>h,fun _ _ h=>h⟩
theorem Gh.sub.le{a b c:Gh}(h:a.sub b)(k:b.le c):a.sub c:=⟨fun _ _ _ x=>k.aY _ _ _ (h.aY _ _ _ x),fun _ _ _ x=>k.acc _ _ _ (h.acc _ _ _ x),fun _ _ x=>by rw[k.obj];exact h.obj _ _ x⟩
inductive KK where
 |int (k:IntKind)
 |str
 |st (ks:List IntKind)
def aB:List IntKind→List Value→Bool
 |[],[]=>true
 |k::ks,.int k' _::us=>decide (k'=k)&&aB ks us
 |_,_=>false
def isKey:KK→Value→Bool
 | .int k,.int k' _=>decide (k'=k)
 | .str,.string _=>true
 | .st ks,.agg us=>aB ks us.toList
 |_,_=>false
inductive XO where
 |mp (kk:KK) (es:List (Value×DV×Nat)) (clk:Nat)
 |it (m since:Nat) (seen:List Nat) (last:Nat)
 |si (s:ByteArray) (pos:Nat)
 |ni
inductive Ob where
 |arr (s:Nat) (xs:List DV)
 |tl (s:Nat) (xs:List DV)
 |xo (f:XO)
 |sb (T e:TypeId) (bs:List UInt8) (pin:Option Nat)
def Ob.len:Ob→Nat
 | .arr _ xs=>xs.length
 | .tl _ xs=>xs.length
 | .xo _=>0
 | .sb ..=>0
structure St where
 box:List (Nat×List DV)
 acc:List (Nat×Ob)
structure W0 where
 w:World
 gh:Gh
 pq:DV→St→Prop
abbrev W0.heap(w0:W0):=w0.w.heap
instance:Coe World W0:=⟨fun w=>⟨w,⟨fun _ _=>none,fun _ _=>none,fun _=>none,[]⟩,fun _ _=>False⟩⟩
def nc:Obj→Bool
 | .cells ..=>false
 | .map ..=>false
 | .mapIter ..=>false
 | .stringIter ..=>false
 |_=>true
structure jh(B:Nat)(w w':World):Prop where
 os:w'.os=w.os
 tape:w'.tape=w.tape
 output:w'.output=w.output
 size:w.heap.size≤w'.heap.size
 block:∀k,k<B→w'.heap[k]? =w.heap[k]?
 drawn:w.drawn≤w'.drawn
theorem jh.refl(B:Nat)(w:World):jh B w w:=⟨rfl,rfl,rfl,aar _,fun _ _=>rfl,aar _⟩
theorem jh.below{B:Nat}{w w':World}(h:jh B w w'):Below B w w':=⟨h.os,h.tape,h.output,h.size,h.block⟩
theorem jh.of{B:Nat}{w w':World}(h:Below B w w')(k:w.drawn≤w'.drawn):jh B w w':=⟨h.os,h.tape,h.output,h.size,h.block,k⟩
theorem jh.trans{B:Nat}{a b c:World}(h:jh B a b)(k:jh B b c):jh B a c:= .of (h.below.trans k.below) (ack h.drawn k.drawn)
theorem jh.mono{B B':Nat}{w w':World}(h:jh B w w')(hB:B'≤B):jh B' w w':= .of (h.below.mono hB) h.drawn
theorem jh.alloc{B:Nat}{w w':World}(h:jh B w w')(hB:B≤w'.heap.size)(o:Obj):jh B w (w'.alloc o):= .of (h.below.alloc hB o) h.drawn
theorem jh.drew{B:Nat}{w w':World}(h:jh B w w'):jh B w w'.drew:= .of h.below.drew (ack h.drawn (abp _))
structure dv(w0:W0)(g:Gh)(w:World):Prop where
 base:jh w0.heap.size w0.w w
 obj:∀k o,g.obj k=some o→w.heap[k]? =some o∧nc o=true
 fx:w0.gh.sub g
theorem dv.size{w0:W0}{w:World}{g:Gh}(h:dv w0 g w):w0.heap.size≤w.heap.size:=h.base.size
theorem dv.le{w0:W0}{w:World}{g g':Gh}(h:dv w0 g w)(k:g.le g'):dv w0 g' w:=⟨h.base,k.obj▸h.obj,h.fx.le k⟩
theorem dv.step{w0:W0}{w w':World}{g:Gh}(h:dv w0 g w)(k:jh w0.heap.size w w')(b:Nat)(hn:∀o,w.heap[b]? =some o→nc o=false)(hs:∀i,i<w.heap.size→i≠b→w'.heap[i]? =w.heap[i]?):dv w0 g w':=
 ⟨h.base.trans k,fun i o ho=>by
  obtain⟨h1,h2⟩:=h.obj i o ho;refine⟨(hs i (aaq.1 h1).1 ?_).trans h1,h2⟩;rintro rfl;rw[hn o h1]at h2;exact absurd h2 (by simp),h.fx⟩
theorem dv.grow{w0:W0}{w w':World}{g:Gh}(h:dv w0 g w)(k:jh w.heap.size w w'):dv w0 g w':=
 ⟨h.base.trans (k.mono h.base.size),fun i o ho=>by
  obtain⟨h1,h2⟩:=h.obj i o ho;exact⟨(k.block i (aaq.1 h1).1).trans h1,h2⟩,h.fx⟩
theorem dv.Ay{w0:W0}{w w':World}{g:Gh}(h:dv w0 g w)(k:Below w.heap.size w w')(h0:w0.w.drawn=0):dv w0 g w':=
 ⟨.of (h.base.below.trans (k.mono h.base.size)) (by rw[h0];exact aa6 _),fun i o ho=>by
  obtain⟨h1,h2⟩:=h.obj i o ho;exact⟨(k.block i (aaq.1 h1).1).trans h1,h2⟩,h.fx⟩
theorem mf{w:World}{b:Nat}{cs:Array Value}{e:TypeId}{f:Nat×Nat}(h:w.heap[b]? =some (.cells cs e f)):∀o,w.heap[b]? =some o→nc o=false:=by
 intro o ho;rw[h]at ho;cases ho;rfl
inductive aG(g:Gh):DV→Value→Prop
 |v (u:Value) (h:u.oneCell'=true):aG g (.v u) u
 |nil (s:Nat) (f:Bool) (o:Option Addr) (c:Nat) (hc:f=true→c=0):aG g (.sl s f []) (.slice o 0 c)
 |sl (s:Nat) (f:Bool) (xs:List DV) (b o c:Nat) (us:List Value) (hl:xs.length=us.length) (hf:f=true→c=us.length) (hc:us.length≤c) (hm:c≤maxLen)
  (hr:∀(i:Nat) (d:DV) (u:Value),xs[i]? =some d→us[i]? =some u→aG g d u) (hz:∀(i:Nat) (u:Value),us[i]? =some u→u.cells.size=s) (h1:∀(u:Value),u∈us→∀x,x∈u.cells.toList→x.oneCell'=true)
  (hi:∀(i:Nat) (u:Value) (j:Nat) (x:Value),us[i]? =some u→u.cells[j]? =some x→g.aY b (o+i*s+j)=some x):aG g (.sl s f xs) (.slice (some ⟨b,o,none⟩) us.length c)
 |agg (ds:List DV) (us:List Value) (hl:ds.length=us.length) (hr:∀(i:Nat) (d:DV) (u:Value),ds[i]? =some d→us[i]? =some u→aG g d u) (h1:∀u,u∈us→u.oneCell'=true):aG g (.agg ds) (.agg us.toArray)
 |cW (ds:List DV) (us:List Value) (hl:ds.length=us.length) (hr:∀(i:Nat) (d:DV) (u:Value),ds[i]? =some d→us[i]? =some u→aG g d u):aG g (.cW ds) (.tuple us.toArray)
 |jM (t:TypeId) (d:DV) (u:Value) (h:aG g d u):aG g (.jM t d) (.iface t u)
 |acc (l n:Nat) (o:Option Addr) (c:Nat) (h:g.acc l n=some (.slice o n c)):aG g (.acc l n) (.slice o n c)
 |ip (ds:List DV) (b o:Nat) (us:List Value) (hl:ds.length=us.length) (hr:∀(i:Nat) (d:DV) (u:Value),ds[i]? =some d→us[i]? =some u→aG g d u) (h1:∀u,u∈us→u.oneCell'=true)
  (hi:∀(j:Nat) (x:Value),us[j]? =some x→g.aY b (o+j)=some x):aG g (.ip ds) (.pointer (some ⟨b,o,none⟩))
 |ap (l n s i o b q c:Nat) (h:g.acc l n=some (.slice (some ⟨b,q,none⟩) n c)):aG g (.ap l n s i o) (.pointer (some ⟨b,q+i*s+o,none⟩))
 |mp (l b:Nat) (h:g.acc l 0=some (.slice (some ⟨b,0,none⟩) 0 0)):aG g (.mp l) (.map (some b))
 |it (l b:Nat) (h:g.acc l 0=some (.slice (some ⟨b,0,none⟩) 0 0)):aG g (.it l) (.pointer (some ⟨b,0,none⟩))
 |any (u:Value):aG g .any u
theorem aG.mono{g h:Gh}(k:g.le h){d:DV}{u:Value}(r:aG g d u):aG h d u:=by
 induction r with
 |v u h=>exact .v u h
 |nil s f o c hc=>exact .nil s f o c hc
 |sl s f xs b o c us hl hf hc hm hr hz h1 hi ih=>exact .sl s f xs b o c us hl hf hc hm ih hz h1 fun i u j x h1 h2=>k.aY _ _ _ (hi i u j x h1 h2)
 |agg ds us hl hr h1 ih=>exact .agg ds us hl ih h1
 |cW ds us hl hr ih=>exact .cW ds us hl ih
 |jM t d u _ ih=>exact .jM t d u ih
 |acc l n o c h=>exact .acc l n o c (k.acc _ _ _ h)
 |ip ds b o us hl hr h1 hi ih=>exact .ip ds b o us hl ih h1 fun j x h=>k.aY _ _ _ (hi j x h)
 |ap l n s i o b q c h=>exact .ap l n s i o b q c (k.acc _ _ _ h)
 |mp l b h=>exact .mp l b (k.acc _ _ _ h)
 |it l b h=>exact .it l b (k.acc _ _ _ h)
 |any u=>exact .any u
theorem gu(g:Gh):aG g ud undef:=aG.cW (g:=g) [] [] rfl (by intro i d u h;simp at h)
structure af(g:Gh)(ds:List DV)(us:List Value):Prop where
 len:ds.length=us.length
 at_:∀(i:Nat) (d:DV) (u:Value),ds[i]? =some d→us[i]? =some u→aG g d u
theorem af.mono{g h:Gh}(k:g.le h){ds:List DV}{us:List Value}(r:af g ds us):af h ds us:=⟨r.len,fun i d u h1 h2=>(r.at_ i d u h1 h2).mono k⟩
theorem af.nil(g:Gh):af g [] []:=⟨rfl,fun i d u h=>by simp at h⟩
theorem af.cons{g:Gh}{d:DV}{u:Value}{ds:List DV}{us:List Value}(h:aG g d u)(r:af g ds us):af g (d::ds) (u::us):=
 ⟨by simp[r.len],fun i e x h1 h2=>by
  cases i with
  |zero=>simp at h1 h2;subst h1;subst h2;exact h
  |succ i=>simp at h1 h2;exact r.at_ i e x h1 h2⟩
theorem af.dJ{g:Gh}{d:DV}{ds:List DV}{us:List Value}(r:af g (d::ds) us):∃u us',us=u::us'∧aG g d u∧af g ds us':=by
 cases us with
 |nil=>have:=r.len;simp at this
 |cons u us=>exact⟨u,us,rfl,r.at_ 0 d u (by simp) (by simp),by have:=r.len;simpa using this,fun i e x h1 h2=>r.at_ (i+1) e x (by simpa using h1) (by simpa using h2)⟩
theorem af.append{g:Gh}{ds es:List DV}{us vs:List Value}(r:af g ds us)(q:af g es vs):af g (ds++es) (us++vs):=by
 refine⟨by simp[r.len,q.len],fun i d u h1 h2=>?_⟩;by_cases h:i<ds.length
 ·rw[abE h]at h1;rw[abE (by rw[←r.len];exact h)]at h2;exact r.at_ i d u h1 h2
 ·rw[abl (by omega)]at h1;rw[abl (by rw[←r.len];omega),←r.len]at h2;exact q.at_ _ d u h1 h2
theorem af.set{g:Gh}{ds:List DV}{us:List Value}(r:af g ds us)(i:Nat){d:DV}{u:Value}(h:aG g d u):af g (ds.set i d) (us.set i u):=by
 refine⟨by simp[r.len],fun j e x h1 h2=>?_⟩;rw[adC]at h1 h2;split at h1
 ·rename_i hij;split at h1
  ·rw[if_pos hij]at h2;split at h2
   ·simp only[abg]at h1 h2;subst h1;subst h2;exact h
   ·cases h2
  ·cases h1
 ·rename_i hij;rw[if_neg hij]at h2;exact r.at_ j e x h1 h2
theorem af.getD{g:Gh}{ds:List DV}{us:List Value}(r:af g ds us)(i:Nat):aG g (ds.getD i ud) (us.getD i undef):=by
 simp only[abj];by_cases h:i<ds.length
 ·have h':i<us.length:=by rw[←r.len];exact h
  simp only[aac h,aac h',acL];exact r.at_ i _ _ (aac h) (aac h')
 ·rw[aaS (by omega),aaS (by rw[←r.len];omega)];exact gu g
theorem af.take{g:Gh}{ds:List DV}{us:List Value}(r:af g ds us)(n:Nat):af g (ds.take n) (us.take n):=
 ⟨by simp[r.len],fun i d u h1 h2=>by
  rw[acr]at h1 h2;split at h1
  ·rename_i h;rw[if_pos h]at h2;exact r.at_ i d u h1 h2
  ·cases h1⟩
theorem af.drop{g:Gh}{ds:List DV}{us:List Value}(r:af g ds us)(n:Nat):af g (ds.drop n) (us.drop n):=
 ⟨by simp[r.len],fun i d u h1 h2=>by rw[acm]at h1 h2;exact r.at_ _ d u h1 h2⟩
theorem af.replicate(g:Gh)(n:Nat):af g (List.replicate n ud) (List.replicate n undef):=
 ⟨by simp,fun i d u h1 h2=>by
  rw[ab6]at h1 h2;split at h1
  ·rename_i h;rw[if_pos h]at h2;simp only[abg]at h1 h2;subst h1;subst h2;exact gu g
  ·cases h1⟩
theorem aG.cells{g:Gh}{d:DV}{u:Value}(r:aG g d u)(hd:eW d=true):af g (cd d) u.cells.toList:=by
 cases r with
 |agg ds us hl hr h1=>exact⟨by simpa[cd,Value.cells]using hl,by simpa[cd,Value.cells]using hr⟩
 |v u h=>
  have e:u.cells= #[u]:=by cases u <;>simp_all [Value.cells,Value.oneCell']
  rw[e];exact af.cons (.v u h) (af.nil g)
 |nil s f o c hc=>exact af.cons (.nil s f o c hc) (af.nil g)
 |sl s f xs b o c us hl hf hc hm hr hz h1 hi=>exact af.cons (.sl s f xs b o c us hl hf hc hm hr hz h1 hi) (af.nil g)
 |cW ds us hl hr=>cases hd
 |jM t d u h=>exact af.cons (.jM t d u h) (af.nil g)
 |acc l n o c h=>exact af.cons (.acc l n o c h) (af.nil g)
 |ip ds b o us hl hr h1 hi=>exact af.cons (.ip ds b o us hl hr h1 hi) (af.nil g)
 |ap l n s i o b q c h=>exact af.cons (.ap l n s i o b q c h) (af.nil g)
 |mp l b h=>exact af.cons (.mp l b h) (af.nil g)
 |it l b h=>exact af.cons (.it l b h) (af.nil g)
 |any u=>cases hd
theorem aG.one{g:Gh}{d:DV}{u:Value}(r:aG g d u)(hd:eW d=true):∀x,x∈u.cells.toList→x.oneCell'=true:=by
 cases r with
 |agg ds us hl hr h1=>simpa[Value.cells]using h1
 |cW ds us hl hr=>cases hd
 |any u=>cases hd
 |v u h=>
  intro x hx;have e:u.cells= #[u]:=by cases u <;>simp_all [Value.cells,Value.oneCell']
  rw[e]at hx;simp at hx;rw[hx];exact h
 |nil s f o c hc=>intro x hx;simp[Value.cells]at hx;rw[hx];rfl
 |sl s f xs b o c us hl hf hc hm hr hz h1 hi=>intro x hx;simp[Value.cells]at hx;rw[hx];rfl
 |jM t d u h=>intro x hx;simp[Value.cells]at hx;rw[hx];rfl
 |acc l n o c h=>intro x hx;simp[Value.cells]at hx;rw[hx];rfl
 |ip ds b o us hl hr h1 hi=>intro x hx;simp[Value.cells]at hx;rw[hx];rfl
 |ap l n s i o b q c h=>intro x hx;simp[Value.cells]at hx;rw[hx];rfl
 |mp l b h=>intro x hx;simp[Value.cells]at hx;rw[hx];rfl
 |it l b h=>intro x hx;simp[Value.cells]at hx;rw[hx];rfl
inductive Key where
 |b (n:Nat)
 |a (n:Nat)
 deriving DecidableEq
def lk{α:Type}:List (Nat×α)→Nat→Option α
 |[],_=>none
 |(k,x)::t,n=>if k=n then some x else lk t n
def up{α:Type}:List (Nat×α)→Nat→α→List (Nat×α)
 |[],_,_=>[]
 |(k,x)::t,n,y=>if k=n then(k,y)::t else(k,x)::up t n y
theorem bV{α:Type}{l:List (Nat×α)}{n:Nat}{x:α}(h:lk l n=some x):(n,x)∈l:=by
 induction l with
 |nil=>cases h
 |cons p t ih=>
  obtain⟨k,y⟩:=p;simp only[lk]at h;split at h
  ·rename_i e;subst e;simp at h;subst h;exact aaQ
  ·exact aat _ (ih h)
theorem mv{α:Type}(l:List (Nat×α))(n:Nat)(y:α):(up l n y).map (·.1)=l.map (·.1):=by
 induction l with
 |nil=>rfl
 |cons p t ih=>obtain⟨k,x⟩:=p;simp only[up];split <;>simp_all
theorem fy{α:Type}{l:List (Nat×α)}{n:Nat}{y:α}(hn:(l.map (·.1)).Nodup){p:Nat×α}(h:p∈up l n y):(p=(n,y))∨(p∈l∧p.1≠n):=by
 induction l with
 |nil=>cases h
 |cons q t ih=>
  obtain⟨k,x⟩:=q;simp only[abB,aaV]at hn;simp only[up]at h;split at h
  ·rename_i e;subst e;rcases aaJ.1 h with rfl|h
   ·exact .inl rfl
   ·refine .inr ⟨aat _ h,fun e=>hn.1 ?_⟩;rw[←e];exact abL h
  ·rename_i e;rcases aaJ.1 h with rfl|h
   ·exact .inr ⟨aaQ,e⟩
   ·rcases ih hn.2 h with h|h
    ·exact .inl h
    ·exact .inr ⟨aat _ h.1,h.2⟩
structure iA(g:Gh)(es:List (Value×DV×Nat))(es':List MapEntry):Prop where
 len:es.length=es'.length
 at_:∀(i:Nat) e e',es[i]? =some e→es'[i]? =some e'→e'.key=e.1∧aG g e.2.1 e'.val∧e'.born=e.2.2
structure fc(kk:KK)(es:List (Value×DV×Nat))(clk:Nat):Prop where
 key:∀e,e∈es→isKey kk e.1=true
 nd:(es.map (·.1)).Nodup
 bn:(es.map (·.2.2)).Nodup
 lt:∀e,e∈es→e.2.2<clk
def AB(g:Gh)(f:XO)(o:Obj):Prop:=match f with
 | .mp kk es clk=>∃es':List MapEntry,o= .map es'.toArray clk∧iA g es es'∧fc kk es clk
 | .it m since seen last=>∃bm,o= .mapIter (some bm) since seen.toArray last∧g.acc m 0=some (.slice (some ⟨bm,0,none⟩) 0 0)
 | .si s pos=>o= .stringIter s pos
 | .ni=>o= .mapIter none 0 #[] 0
theorem iA.mono{g h:Gh}(k:g.le h){es:List (Value×DV×Nat)}{es':List MapEntry}(r:iA g es es'):iA h es es':=⟨r.len,fun i e e' h1 h2=>let⟨a,b,c⟩:=r.at_ i e e' h1 h2;⟨a,b.mono k,c⟩⟩
theorem AB.mono{g h:Gh}(k:g.le h){f:XO}{o:Obj}(r:AB g f o):AB h f o:=by
 cases f with
 |mp kk es clk=>obtain⟨es',e,m,q⟩:=r;exact⟨es',e,m.mono k,q⟩
 |it m since seen last=>obtain⟨bm,e,ha⟩:=r;exact⟨bm,e,k.acc _ _ _ ha⟩
 |si s pos=>exact r
 |ni=>exact r
theorem AB.nc{g:Gh}{f:XO}{o:Obj}(r:AB g f o):nc o=false:=by
 cases f with
 |mp kk es clk=>obtain⟨es',rfl,_⟩:=r;rfl
 |it m since seen last=>obtain⟨bm,rfl,_⟩:=r;rfl
 |si s pos=>cases r;rfl
 |ni=>cases r;rfl
def YY(ow:Nat→Option Key)(B:Nat)(g:Gh)(w:World)(l:Nat)(T e:TypeId)(bs:List UInt8):Prop:=
 ∃b p v,g.acc l 0=some (.slice (some ⟨b,0,none⟩) 0 0)∧ow b=some (.a l)∧B≤b∧(∀i,g.aY b i=none)∧w.heap[b]? =some (.cells #[p,v] T (0,0))∧(p= .pointer none∨p= .pointer (some ⟨b,0,none⟩))∧
  ((v= .slice none 0 0∧bs=[])∨∃r c cs z,v= .slice (some ⟨r,0,none⟩) bs.length c∧r≠b∧ow r=some (.a l)∧B≤r∧(∀i,g.aY r i=none)∧w.heap[r]? =some (.cells cs e z)∧z.2≤bs.length∧bs.length≤c∧c≤maxLen∧cs.size=c∧cs.toList.take bs.length=bs.map fun x=>Value.int .u8 x.toNat)
def ir(ow:Nat→Option Key)(B:Nat)(g:Gh)(w:World)(l:Nat):Ob→Prop
 | .arr s xs=>0<s∧((xs=[]∧∃o,g.acc l 0=some (.slice o 0 0))∨
   ∃b c cs e,g.acc l xs.length=some (.slice (some ⟨b,0,none⟩) xs.length c)∧ow b=some (.a l)∧B≤b∧(∀i,g.aY b i=none)∧w.heap[b]? =some (.cells cs e (0,0))∧cs.size=c*s∧xs.length≤c∧c≤maxLen∧(∀x,x∈cs.toList→x.oneCell'=true)∧
    ∃us:List Value,af g xs us∧(∀(i:Nat) (u:Value),us[i]? =some u→u.cells.size=s)∧(∀(u:Value),u∈us→∀x,x∈u.cells.toList→x.oneCell'=true)∧(∀(i:Nat) (u:Value) (j:Nat) (x:Value),us[i]? =some u→u.cells[j]? =some x→cs[i*s+j]? =some x))
 | .tl s xs=>0<s∧((∃u,g.acc l xs.length=some u∧aG g (.sl s true xs) u)∨
   ∃b c cs e,g.acc l xs.length=some (.slice (some ⟨b,0,none⟩) xs.length c)∧ow b=some (.a l)∧B≤b∧(∀i,xs.length*s≤i→g.aY b i=none)∧w.heap[b]? =some (.cells cs e (0,0))∧cs.size=c*s∧xs.length≤c∧c≤maxLen∧
    aG g (.sl s false xs) (.slice (some ⟨b,0,none⟩) xs.length c))
 | .xo f=>∃b o,g.acc l 0=some (.slice (some ⟨b,0,none⟩) 0 0)∧ow b=some (.a l)∧B≤b∧(∀i,g.aY b i=none)∧w.heap[b]? =some o∧AB g f o
 | .sb T e bs pin=>YY ow B g w l T e bs∧∀k,pin=some k→g.acc l 0=some (.slice (some ⟨k,0,none⟩) 0 0)
structure Rel(w0:W0)(g:Gh)(S:St)(w:World):Prop where
 below:dv w0 g w
 aY:∀b i u,g.aY b i=some u→w.cell? ⟨b,i,none⟩=some u
 nb:(S.box.map (·.1)).Nodup
 na:(S.acc.map (·.1)).Nodup
 eU:∀l n u,g.acc l n=some u→∃o c,u= .slice o n c∧(n=0∨∃b q,o=some ⟨b,q,none⟩)
 fresh:∃m,∀l n,m≤l→g.acc l n=none
 top:∀l o,(l,o)∈S.acc→∀k,o.len<k→g.acc l k=none
 own:∃ow:Nat→Option Key,
  (∀b ds,(b,ds)∈S.box→ow b=some (.b b)∧w0.heap.size≤b∧(∀i,g.aY b i=none)∧∃us e,w.heap[b]? =some (.cells us e (0,0))∧af g ds us.toList∧∀u,u∈us.toList→u.oneCell'=true)∧
  (∀l o,(l,o)∈S.acc→ir ow w0.heap.size g w l o)
def Gh.aj(g:Gh)(ob:Nat→Option Obj):Gh:={g with obj:=ob}
theorem aG.of{g h:Gh}(ki:∀b i u,g.aY b i=some u→h.aY b i=some u)(ka:∀l n u,g.acc l n=some u→h.acc l n=some u){d:DV}{u:Value}(r:aG g d u):aG h d u:=by
 induction r with
 |v u h=>exact .v u h
 |nil s f o c hc=>exact .nil s f o c hc
 |sl s f xs b o c us hl hf hc hm hr hz h1 hi ih=>exact .sl s f xs b o c us hl hf hc hm ih hz h1 fun i u j x h1 h2=>ki _ _ _ (hi i u j x h1 h2)
 |agg ds us hl hr h1 ih=>exact .agg ds us hl ih h1
 |cW ds us hl hr ih=>exact .cW ds us hl ih
 |jM t d u _ ih=>exact .jM t d u ih
 |acc l n o c h=>exact .acc l n o c (ka _ _ _ h)
 |ip ds b o us hl hr h1 hi ih=>exact .ip ds b o us hl ih h1 fun j x h=>ki _ _ _ (hi j x h)
 |ap l n s i o b q c h=>exact .ap l n s i o b q c (ka _ _ _ h)
 |mp l b h=>exact .mp l b (ka _ _ _ h)
 |it l b h=>exact .it l b (ka _ _ _ h)
 |any u=>exact .any u
theorem aG.aj{g:Gh}{ob:Nat→Option Obj}{d:DV}{u:Value}(r:aG g d u):aG (g.aj ob) d u:=aG.of (g:=g) (h:=g.aj ob) (fun _ _ _ h=>h) (fun _ _ _ h=>h) r
theorem af.aj{g:Gh}{ob:Nat→Option Obj}{ds:List DV}{us:List Value}(r:af g ds us):af (g.aj ob) ds us:=⟨r.len,fun i d u h1 h2=>(r.at_ i d u h1 h2).aj⟩
theorem af.sub{g h:Gh}(k:g.sub h){ds:List DV}{us:List Value}(r:af g ds us):af h ds us:=⟨r.len,fun i d u h1 h2=>(r.at_ i d u h1 h2).of k.aY k.acc⟩
theorem iA.aj{g:Gh}{ob:Nat→Option Obj}{es:List (Value×DV×Nat)}{es':List MapEntry}(r:iA g es es'):iA (g.aj ob) es es':=⟨r.len,fun i e e' h1 h2=>let⟨a,b,c⟩:=r.at_ i e e' h1 h2;⟨a,b.aj,c⟩⟩
theorem AB.aj{g:Gh}{ob:Nat→Option Obj}{f:XO}{o:Obj}(r:AB g f o):AB (g.aj ob) f o:=by
 cases f with
 |mp kk es clk=>obtain⟨es',e,m,q⟩:=r;exact⟨es',e,m.aj,q⟩
 |it m since seen last=>exact r
 |si s pos=>exact r
 |ni=>exact r
theorem ir.aj{ow:Nat→Option Key}{B:Nat}{g:Gh}{w:World}{l:Nat}{o:Ob}{ob:Nat→Option Obj}(h:ir ow B g w l o):ir ow B (g.aj ob) w l o:=by
 cases o with
 |arr s xs=>
  obtain⟨hs,⟨he,o,ha⟩|⟨b,c,cs,e,h1,h2,h3,h4,h5,h6,h7,h8,hA,us,h9,h10,h11,h12⟩⟩:=h
  ·exact⟨hs,.inl ⟨he,o,ha⟩⟩
  ·exact⟨hs,.inr ⟨b,c,cs,e,h1,h2,h3,h4,h5,h6,h7,h8,hA,us,h9.aj,h10,h11,h12⟩⟩
 |tl s xs=>
  obtain⟨hs,⟨u,ha,r⟩|⟨b,c,cs,e,h1,h2,h3,h4,h5,h6,h7,h8,h9⟩⟩:=h
  ·exact⟨hs,.inl ⟨u,ha,r.aj⟩⟩
  ·exact⟨hs,.inr ⟨b,c,cs,e,h1,h2,h3,h4,h5,h6,h7,h8,h9.aj⟩⟩
 |xo f=>
  obtain⟨b,o,h1,h2,h3,h4,h5,h6⟩:=h;exact⟨b,o,h1,h2,h3,h4,h5,h6.aj⟩
 |sb T e bs pin=>exact h
theorem Rel.aj{w0 w0':W0}{g:Gh}{S:St}{w:World}(h:Rel w0 g S w){ob:Nat→Option Obj}(he:w0'.w=w0.w)(hob:∀k o,ob k=some o→w.heap[k]? =some o∧nc o=true)(hq:w0'.gh.sub (g.aj ob)):Rel w0' (g.aj ob) S w:=by
 obtain⟨ow,o1,o2⟩:=h.own;have hh:w0'.heap=w0.heap:=by unfold W0.heap;rw[he]
 refine⟨⟨by rw[hh,he];exact h.below.base,hob,hq⟩,h.aY,h.nb,h.na,h.eU,h.fresh,h.top,ow,fun b ds hb=>?_,fun l o hl=>by rw[hh];exact(o2 l o hl).aj⟩;obtain⟨q1,q2,q3,us,e,q4,q5,q6⟩:=o1 b ds hb;exact⟨q1,by rw[hh];exact q2,q3,us,e,q4,q5.aj,q6⟩
def uZ(w:World)(k:Nat):Option Obj:=match w.heap[k]? with
 |some o=>if nc o=true then some o else none
 |none=>none
theorem ur{w:World}{k:Nat}{o:Obj}(h:uZ w k=some o):w.heap[k]? =some o∧nc o=true:=by
 unfold uZ at h;split at h
 ·rename_i o' ho;split at h
  ·rename_i hn;cases h;exact⟨ho,hn⟩
  ·cases h
 ·cases h
theorem mu{w:World}{k:Nat}{o:Obj}(h:w.heap[k]? =some o)(hn:nc o=true):uZ w k=some o:=by
 unfold uZ;rw[h];simp[hn]
theorem Rel.Y5{w0:W0}{g:Gh}{S:St}{w:World}(h:Rel w0 g S w):Rel w0 (g.aj (uZ w)) S w:=
 h.aj rfl (fun _ _ h=>ur h) ⟨h.below.fx.aY,h.below.fx.acc,fun k o hk=>by
  have:=h.below.obj k o (h.below.fx.obj k o hk);exact mu this.1 this.2⟩
theorem pd{g g':Gh}{w:World}(k:(g.aj (uZ w)).le g'):g.le (g'.aj g.obj):=⟨k.aY,k.acc,rfl,k.nf⟩
theorem Rel.back{w0:W0}{g g':Gh}{S S':St}{w w':World}(h:Rel w0 g S w)(k:(g.aj (uZ w)).le g')(h':Rel w0 g' S' w'):Rel w0 (g'.aj g.obj) S' w':=by
 have hk:g'.obj=uZ w:=k.obj;refine h'.aj rfl (fun i o ho=>?_) ⟨h'.below.fx.aY,h'.below.fx.acc,h.below.fx.obj⟩;obtain⟨h1,h2⟩:=h.below.obj i o ho;exact h'.below.obj i o (by rw[hk];exact mu h1 h2)
theorem DZ{w0:W0}{g g':Gh}{S':St}{w w':World}(k:(g.aj (uZ w)).le g')(h':Rel w0 g' S' w'):∀(i:Nat) (o:Obj),w.heap[i]? =some o→nc o=true→w'.heap[i]? =some o:=fun i o h1 h2=>by
 have hk:g'.obj=uZ w:=k.obj;exact(h'.below.obj i o (by rw[hk];exact mu h1 h2)).1
def Dk(w0:W0)(g:Gh)(a:Act)(w:World):Prop:=
 ∃ms,a.defers=ms++g.nf∧ms.Nodup∧∀d,d∈ms→∃D,d={target:= .collected D,args:= #[]}∧w.heap[D]? =some (.deferred (some []))∧g.obj D=none∧w0.heap.size≤D
theorem Dk.nil{w0:W0}{g:Gh}{a:Act}{w:World}(h:a.defers=g.nf):Dk w0 g a w:=⟨[],h,.nil,fun d hd=>by cases hd⟩
theorem Dk.cC{w0:W0}{g:Gh}{a a':Act}{w w':World}(h:Dk w0 g a w)(hd:a'.defers=a.defers)(hk:∀(i:Nat) (o:Obj),w.heap[i]? =some o→nc o=true→w'.heap[i]? =some o):Dk w0 g a' w':=by
 obtain⟨ms,e,hn,h⟩:=h;refine⟨ms,hd.trans e,hn,fun d hd=>?_⟩;obtain⟨D,e,h1,h2⟩:=h d hd;exact⟨D,e,hk _ _ h1 rfl,h2⟩
theorem Gh.le.dk{g g':Gh}(k:g.le g'){w0:W0}{a:Act}{w:World}(h:Dk w0 g a w):Dk w0 g' a w:=by
 unfold Dk;rw[k.obj,k.nf];exact h
theorem Gh.le.kd{g g':Gh}(k:g.le g'){w0:W0}{a:Act}{w:World}(h:Dk w0 g' a w):Dk w0 g a w:=by
 unfold Dk at h;rw[k.obj,k.nf]at h;exact h
def Gh.aF(g:Gh)(ds:List Deferred):Gh:={g with nf:=ds}
theorem aG.aF{g:Gh}{ds:List Deferred}{d:DV}{u:Value}(r:aG g d u):aG (g.aF ds) d u:=aG.of (g:=g) (h:=g.aF ds) (fun _ _ _ h=>h) (fun _ _ _ h=>h) r
theorem af.aF{g:Gh}{ds:List Deferred}{xs:List DV}{us:List Value}(r:af g xs us):af (g.aF ds) xs us:=⟨r.len,fun i d u h1 h2=>(r.at_ i d u h1 h2).aF⟩
theorem AB.aF{g:Gh}{ds:List Deferred}{f:XO}{o:Obj}(r:AB g f o):AB (g.aF ds) f o:=by
 cases f with
 |mp kk es clk=>
  obtain⟨es',e,m,q⟩:=r;exact⟨es',e,⟨m.len,fun i x x' h1 h2=>let⟨a,b,c⟩:=m.at_ i x x' h1 h2;⟨a,b.aF,c⟩⟩,q⟩
 |it m since seen last=>exact r
 |si s pos=>exact r
 |ni=>exact r
theorem ir.aF{ow:Nat→Option Key}{B:Nat}{g:Gh}{w:World}{l:Nat}{o:Ob}{ds:List Deferred}(h:ir ow B g w l o):ir ow B (g.aF ds) w l o:=by
 cases o with
 |arr s xs=>
  obtain⟨hs,⟨he,o,ha⟩|⟨b,c,cs,e,h1,h2,h3,h4,h5,h6,h7,h8,hA,us,h9,h10,h11,h12⟩⟩:=h
  ·exact⟨hs,.inl ⟨he,o,ha⟩⟩
  ·exact⟨hs,.inr ⟨b,c,cs,e,h1,h2,h3,h4,h5,h6,h7,h8,hA,us,h9.aF,h10,h11,h12⟩⟩
 |tl s xs=>
  obtain⟨hs,⟨u,ha,r⟩|⟨b,c,cs,e,h1,h2,h3,h4,h5,h6,h7,h8,h9⟩⟩:=h
  ·exact⟨hs,.inl ⟨u,ha,r.aF⟩⟩
  ·exact⟨hs,.inr ⟨b,c,cs,e,h1,h2,h3,h4,h5,h6,h7,h8,h9.aF⟩⟩
 |xo f=>
  obtain⟨b,o,h1,h2,h3,h4,h5,h6⟩:=h;exact⟨b,o,h1,h2,h3,h4,h5,h6.aF⟩
 |sb T e bs pin=>exact h
theorem Rel.aF{w0 w0':W0}{g:Gh}{S:St}{w:World}(h:Rel w0 g S w)(ds:List Deferred)(he:w0'.w=w0.w)(hq:w0'.gh.sub g):Rel w0' (g.aF ds) S w:=by
 obtain⟨ow,o1,o2⟩:=h.own;have hh:w0'.heap=w0.heap:=by unfold W0.heap;rw[he]
 refine⟨⟨by rw[hh,he];exact h.below.base,h.below.obj,hq.aY,hq.acc,hq.obj⟩,h.aY,h.nb,h.na,h.eU,h.fresh,h.top,ow,fun b xs hb=>?_,fun l o hl=>by rw[hh];exact(o2 l o hl).aF⟩;obtain⟨q1,q2,q3,us,e,q4,q5,q6⟩:=o1 b xs hb;exact⟨q1,by rw[hh];exact q2,q3,us,e,q4,q5.aF,q6⟩
end Aml
namespace Aml
open Go Go.RowKit
def U0:Value→DV
 | .slice none 0 0=> .sl 0 true []
 | .agg _=> .any
 | .tuple _=> .any
 |u=> .v u
def cv:Value→DV
 | .agg cs=>if cs.toList.all (fun u=>u.oneCell')then .agg (cs.toList.map U0)else .any
 | .tuple _=> .any
 |u=>U0 u
theorem C6(g:Gh)(u:Value):aG g (U0 u) u:=by
 unfold U0;split
 ·exact .nil _ _ _ _ (fun _=>rfl)
 ·exact .any _
 ·exact .any _
 ·rename_i h1 h2 h3;refine .v _ ?_;cases u <;>simp_all [Value.oneCell']
theorem K8(g:Gh)(us:List Value):af g (us.map U0) us:=by
 induction us with
 |nil=>exact af.nil g
 |cons u us ih=>exact af.cons (C6 g u) ih
theorem l8(g:Gh)(u:Value):aG g (cv u) u:=by
 unfold cv;split
 ·rename_i cs;split
  ·rename_i h;have:=aG.agg (g:=g) (cs.toList.map U0) cs.toList (by simp) (K8 g cs.toList).at_ (fun u hu=>aa8.1 h u hu);simpa using this
  ·exact .any _
 ·exact .any _
 ·exact C6 g _
def ev(fr:List DV):Operand→DV
 | .tmp t=>fr.getD t ud
 | .const u=>cv u
 | .global n=> .v (.pointer (some ⟨n,0,none⟩))
 | .func f=> .v (.func (.func f) #[] #[])
def pt(fr:List DV):Option Tmp→DV→List DV
 |some t,d=>fr.set t d
 |none,_=>fr
theorem eA{g:Gh}{fr:List DV}{a:Act}(h:af g fr a.tmps.toList)(x:Operand):aG g (ev fr x) (a.eval x):=by
 cases x with
 |tmp t=>
  have:=h.getD t;simpa[ev,Act.eval]using this
 |const u=>exact l8 g u
 |global n=>exact .v _ rfl
 |func f=>exact .v _ rfl
theorem bu{g:Gh}{fr:List DV}{a:Act}(h:af g fr a.tmps.toList)(t:Option Tmp){d:DV}{u:Value}(r:aG g d u):af g (pt fr t d) (a.put t u).tmps.toList:=by
 cases t with
 |none=>exact h
 |some t=>simpa[pt,Act.put]using h.set t r
theorem put_defers(a:Act)(t:Option Tmp)(u:Value):(a.put t u).defers=a.defers:=by cases t <;>rfl
theorem mj{g:Gh}{b:Bool}{u:Value}(r:aG g (.v (.bool b)) u):u= .bool b:=by cases r;rfl
def ji:Code→Bool
 | .rangeFunc ..=>false
 | .seq a b=>ji a&&ji b
 | .cond _ a b=>ji a&&ji b
 | .block _ c=>ji c
 | .loop c=>ji c
 | .scope c=>ji c
 |_=>true
def fz(ro:Option Nat):Fence:={Fence.wide with round:=ro}
theorem gi{P:Program}{ro:Option Nat}{n:Nat}{f:FuncId}{args:Array Value}{w:World}{R:Ending→World→Prop}:CallsIn (fz ro) n P f args w R↔Calls P f args w R:=
 (callsIn_wide (n:=n):CallsIn Fence.wide n P f args w R↔_)
def uC(P:Program)(c:Code)(Q:Exit→Act→World→Prop)(a:Act)(w:World):Prop:=∀ro,(ro=none∨ji c=true)→c.wpIn (fz ro) 0 P Q a w
section
variable {P:Program} {Q Q':Exit→Act→World→Prop} {a:Act} {w:World}
theorem bg{c:Code}(h:uC P c Q a w)(hq:∀e a w,Q e a w→Q' e a w):uC P c Q' a w:=fun ro hr=>wpIn_mono (h ro hr) hq
theorem oH(h:Q .normal a w):uC P .skip Q a w:=fun _ _=>wpIn_skip h
theorem rE(h:Q .ret a w):uC P .ret Q a w:=fun _ _=>wpIn_ret h
theorem sG{n:Nat}(h:Q (.exit n) a w):uC P (.exit n) Q a w:=fun _ _=>wpIn_exit h
theorem lC{x y:Code}(h:uC P x (Exit.then (uC P y Q) Q) a w):uC P (.seq x y) Q a w:=fun ro hr=>by
 have hx:ro=none∨ji x=true:=hr.imp id fun h=>by simp only[ji,aak]at h;exact h.1
 have hy:ro=none∨ji y=true:=hr.imp id fun h=>by simp only[ji,aak]at h;exact h.2
 exact wpIn_seq (wpIn_mono (h ro hx) fun e a w q=>by cases e <;>first|exact q ro hy|exact q)
theorem ky{n:Nat}{c:Code}(h:uC P c (Exit.inBlock n Q) a w):uC P (.block n c) Q a w:=fun ro hr=>wpIn_block (h ro hr)
theorem dY{c:Operand}{x y:Code}{t:Bool}(hc:a.eval c= .bool t)(ht:t=true→uC P x Q a w)(hf:t=false→uC P y Q a w):uC P (.cond c x y) Q a w:=fun ro hr=>
 wpIn_cond_split hc (fun e=>ht e ro (hr.imp id fun h=>by simp only[ji,aak]at h;exact h.1)) (fun e=>hf e ro (hr.imp id fun h=>by simp only[ji,aak]at h;exact h.2))
theorem fR{id:Nat}{l:List Oper}(h:∀ro,wpListIn (fz ro) 0 P l.toArray Q l a w):uC P (.region id l.toArray false) Q a w:=fun ro _=>wpIn_region_lit (h ro)
theorem cD{id:Nat}{ops:Array Oper}(hm:P.follows .mixedOrders=true)(h:∀ro,wpAnyIn (fz ro) 0 P .any ops Q ops.size (Array.replicate ops.size false) a {w with drawn:=w.drawn+1}):uC P (.region id ops true) Q a w:=
 fun ro _=>wpIn_region_any hm (h ro)
theorem lD{c:Code}(J:Nat→Act→World→Prop){m:Nat}(h0:J m a w)
 (round:∀m a w,J m a w→uC P c (Exit.then (fun a' w'=>∃m',m'<m∧J m' a' w') Q) a w):uC P (.loop c) Q a w:=by
 intro ro hrf b k cs hro hb hr
 have key:∀n a w,J n a w→∃e a' w',Q e a' w'∧ArrivesIn (Machine.fenced P (fz ro)) P (lone (b.atR a (.code c:: .inLoop c::k)) cs w) b k cs e a' w':=by
  intro n
  induction n using Nat.strongRecOn with
  |_ n ih=>
   intro a w hI;obtain⟨e,a₁,w₁,hq,harr⟩:=round n a w hI ro hrf b (.inLoop c::k) cs hro hb hr
   cases e with
   |normal=>
    obtain⟨m',hlt,hI₁⟩:=hq;obtain⟨e₂,a₂,w₂,hq₂,harr₂⟩:=ih m' hlt a₁ w₁ hI₁;exact⟨e₂,a₂,w₂,hq₂,.of_steps (StepsIn.trans harr (.one (fenced_calm hb hr rfl) stepR_inLoop)) harr₂⟩
   |exit id=>exact⟨_,a₁,w₁,hq,.pass (x:= .inLoop c) rfl (fun _ _=> .inl (by simp)) harr⟩
   |goto l=>exact⟨_,a₁,w₁,hq,.pass (x:= .inLoop c) rfl (fun _ _=> .inl (by simp)) harr⟩
   |ret=>exact⟨_,a₁,w₁,hq,.pass (x:= .inLoop c) rfl (fun _ _=> .inl (by simp)) harr⟩
   |panic ch=>exact⟨_,a₁,w₁,hq,.pass (x:= .inLoop c) rfl (fun _ _=> .inl (by simp)) harr⟩
   |outgrown=>exact⟨_,a₁,w₁,hq,.pass (x:= .inLoop c) rfl (fun _ _=> .inl (by simp)) harr⟩
 obtain⟨e,a',w',hq,harr⟩:=key m a w h0;exact⟨e,a',w',hq,.of_steps (.one (fenced_calm hb hr rfl) stepR_loop) harr⟩
end
section
variable (P:Program) (w0:W0)
def Qp(g:Gh)(Q:Exit→List DV→St→Prop)(e:Exit)(fr:List DV)(S:St):Prop:=match e with
 | .panic ch=>∃v d,ch=[{v,recovered:=false}]∧aG g d v∧w0.pq d S
 | .normal=>Q .normal fr S
 | .exit n=>Q (.exit n) fr S
 | .goto n=>Q (.goto n) fr S
 | .ret=>Q .ret fr S
 | .outgrown=>Q .outgrown fr S
def Good(g:Gh)(Q:Exit→List DV→St→Prop)(e:Exit)(a:Act)(w:World):Prop:=
 Dk w0 g a w∧∃g' fr S,g.le g'∧Rel w0 g' S w∧af g' fr a.tmps.toList∧Qp w0 g' Q e fr S
def Ends(g:Gh)(K:DV→St→Prop)(e:Ending)(w:World):Prop:=
 (∃r g' d S',e= .returned r∧g.le g'∧Rel w0 g' S' w∧aG g' d r∧K d S')∨
 (∃v g' d S',e= .panicked [{v,recovered:=false}]∧g.le g'∧Rel w0 g' S' w∧aG g' d v∧w0.pq d S')
def fV(c:Code)(fr:List DV)(S:St)(Q:Exit→List DV→St→Prop):Prop:=
 ∀g a w,Rel w0 g S w→af g fr a.tmps.toList→Dk w0 g a w→uC P c (Good w0 g Q) a w
def ab(f:FuncId)(args:List DV)(S:St)(K:DV→St→Prop):Prop:=
 ∀g (vs:Array Value) w,Rel w0 g S w→af g args vs.toList→Calls P f vs w (Ends w0 g K)
def iv(next:List DV→St→Prop)(Q:Exit→List DV→St→Prop):Exit→List DV→St→Prop
 | .normal,fr,S=>next fr S
 |e,fr,S=>Q e fr S
def gH(id:Nat)(Q:Exit→List DV→St→Prop):Exit→List DV→St→Prop
 | .exit id',fr,S=>if id'=id then Q .normal fr S else Q (.exit id') fr S
 |e,fr,S=>Q e fr S
variable {P} {w0}
theorem Good.mono{g:Gh}{Q Q':Exit→List DV→St→Prop}(h:∀e fr S,Q e fr S→Q' e fr S){e:Exit}{a:Act}{w:World}(hg:Good w0 g Q e a w):Good w0 g Q' e a w:=
 let⟨hd,g',fr,S,h1,h2,h3,h4⟩:=hg
 ⟨hd,g',fr,S,h1,h2,h3,by cases e <;>first|exact h4|exact h _ _ _ h4⟩
theorem Good.of_le{g g':Gh}(k:g.le g'){Q:Exit→List DV→St→Prop}{e:Exit}{a:Act}{w:World}(hg:Good w0 g' Q e a w):Good w0 g Q e a w:=
 let⟨hd,g'',fr,S,h1,h2,h3,h4⟩:=hg
 ⟨k.kd hd,g'',fr,S,k.trans h1,h2,h3,h4⟩
theorem Ends.imp{g0 g:Gh}{K K':DV→St→Prop}{e:Ending}{w:World}(h:Ends w0 g K e w)(l:g0.le g)(hk:∀r g' d S',g.le g'→Rel w0 g' S' w→aG g' d r→K d S'→∃g'' d' S'',g0.le g''∧Rel w0 g'' S'' w∧aG g'' d' r∧K' d' S''):Ends w0 g0 K' e w:=by
 rcases h with⟨r,g',d,S',e,a,b,c,x⟩|⟨v,g',d,S',e,a,b,c,x⟩
 ·obtain⟨g'',d',S'',q⟩:=hk r g' d S' a b c x;exact .inl ⟨r,g'',d',S'',e,q⟩
 ·exact .inr ⟨v,g',d,S',e,l.trans a,b,c,x⟩
theorem Ends.mono{g0 g:Gh}{K K':DV→St→Prop}{e:Ending}{w:World}(h:Ends w0 g K e w)(l:g0.le g)(hk:∀d S',K d S'→K' d S'):Ends w0 g0 K' e w:=
 h.imp l fun r g' d S' a b c x=>⟨g',d,S',l.trans a,b,c,hk _ _ x⟩
theorem ab.mono{f:FuncId}{args:List DV}{S:St}{K K':DV→St→Prop}(h:ab P w0 f args S K)(hk:∀d S',K d S'→K' d S'):ab P w0 f args S K':=
 fun g vs w h1 h2=>(h g vs w h1 h2).mono fun e w' k=>k.mono (.refl g) hk
theorem fV.mono{c:Code}{fr:List DV}{S:St}{Q Q':Exit→List DV→St→Prop}(h:fV P w0 c fr S Q)(hq:∀e fr S,Q e fr S→Q' e fr S):fV P w0 c fr S Q':=
 fun g a w h1 h2 h3=>bg (h g a w h1 h2 h3) fun e a w k=>k.mono hq
theorem HH{fr:List DV}{S:St}{Q:Exit→List DV→St→Prop}(h:Q .normal fr S):fV P w0 .skip fr S Q:=
 fun g a w h1 h2 h3=>oH ⟨h3,g,fr,S,.refl g,h1,h2,h⟩
theorem Po{fr:List DV}{S:St}{Q:Exit→List DV→St→Prop}(h:Q .ret fr S):fV P w0 .ret fr S Q:=
 fun g a w h1 h2 h3=>rE ⟨h3,g,fr,S,.refl g,h1,h2,h⟩
theorem HP{n:Nat}{fr:List DV}{S:St}{Q:Exit→List DV→St→Prop}(h:Q (.exit n) fr S):fV P w0 (.exit n) fr S Q:=
 fun g a w h1 h2 h3=>sG ⟨h3,g,fr,S,.refl g,h1,h2,h⟩
theorem PF{x y:Code}{fr:List DV}{S:St}{Q:Exit→List DV→St→Prop}(h:fV P w0 x fr S (iv (fun fr S=>fV P w0 y fr S Q) Q)):fV P w0 (.seq x y) fr S Q:=by
 intro g a w h1 h2 h3;refine lC (bg (h g a w h1 h2 h3) ?_);intro e a' w' hg;obtain⟨hd,g',fr',S',k1,k2,k3,k4⟩:=hg
 cases e with
 |normal=>exact bg (k4 g' a' w' k2 k3 (k1.dk hd)) fun _ _ _ k=>k.of_le k1
 |exit n=>exact⟨hd,g',fr',S',k1,k2,k3,k4⟩
 |goto n=>exact⟨hd,g',fr',S',k1,k2,k3,k4⟩
 |ret=>exact⟨hd,g',fr',S',k1,k2,k3,k4⟩
 |panic ch=>exact⟨hd,g',fr',S',k1,k2,k3,k4⟩
 |outgrown=>exact⟨hd,g',fr',S',k1,k2,k3,k4⟩
theorem Ge{n:Nat}{c:Code}{fr:List DV}{S:St}{Q:Exit→List DV→St→Prop}(h:fV P w0 c fr S (gH n Q)):fV P w0 (.block n c) fr S Q:=by
 intro g a w h1 h2 h3;refine ky (bg (h g a w h1 h2 h3) ?_);intro e a' w' hg;obtain⟨hd,g',fr',S',k1,k2,k3,k4⟩:=hg
 cases e with
 |normal=>exact⟨hd,g',fr',S',k1,k2,k3,k4⟩
 |exit m=>
  simp only[Exit.inBlock];simp only[Qp,gH]at k4;split
  ·rename_i e;rw[if_pos e]at k4;exact⟨hd,g',fr',S',k1,k2,k3,k4⟩
  ·rename_i e;rw[if_neg e]at k4;exact⟨hd,g',fr',S',k1,k2,k3,k4⟩
 |goto n=>exact⟨hd,g',fr',S',k1,k2,k3,k4⟩
 |ret=>exact⟨hd,g',fr',S',k1,k2,k3,k4⟩
 |panic ch=>exact⟨hd,g',fr',S',k1,k2,k3,k4⟩
 |outgrown=>exact⟨hd,g',fr',S',k1,k2,k3,k4⟩
def dq(d:DV)(A B:Prop):Prop:=match d with
 | .v (.bool b)=>(b=true→A)∧(b=false→B)
 |_=>False
theorem LA{c:Operand}{x y:Code}{fr:List DV}{S:St}{Q:Exit→List DV→St→Prop}(h:dq (ev fr c) (fV P w0 x fr S Q) (fV P w0 y fr S Q)):fV P w0 (.cond c x y) fr S Q:=by
 intro g a w h1 h2 h3;have hr:=eA h2 c;unfold dq at h;split at h
 ·rename_i b he;rw[he]at hr;have hv:a.eval c= .bool b:=mj hr;exact dY hv (fun hb=>h.1 hb g a w h1 h2 h3) (fun hb=>h.2 hb g a w h1 h2 h3)
 ·exact h.elim
def ak(P:Program)(w0:W0)(o:Oper)(ρD:Operand→DV)(S:St)(K:DV→St→Prop):Prop:=
 ∀g w (ρ:Operand→Value),Rel w0 g S w→(∀x,x∈o.op.operands.toList→aG g (ρD x) (ρ x))→(∀u,ρ (.const u)=u)→
  match(execOp ρ o).run P w with
  | .ok (.value u) w'=>∃g' d S',g.le g'∧Rel w0 g' S' w'∧aG g' d u∧K d S'
  | .ok .skip w'=>∃g' S',g.le g'∧Rel w0 g' S' w'∧K ud S'
  | .ok (.enter f args) w'=>Calls P f args w' (Ends w0 g K)
  | .ok (.round l f tmps assign body) w'=>∀ro,RoundIn (fz ro) 0 P l f tmps assign body w' (Ends w0 g K)
  | .halt (.panic v) w'=>(∀c,o.op≠ .defer c)∧∃g' d S',g.le g'∧Rel w0 g' S' w'∧aG g' d v∧w0.pq d S'
  |_=>False
theorem FL{o:Oper}{ρ:Operand→Value}{w:World}{c:Call}(ho:o.op= .defer c):(∀x w',(execOp ρ o).run P w≠ .ok (.value x) w')∧(∀w',(execOp ρ o).run P w≠ .ok .skip w')∧(∀f x w',(execOp ρ o).run P w≠ .ok (.enter f x) w')∧(∀l f t x y w',(execOp ρ o).run P w≠ .ok (.round l f t x y) w'):=by
 have:∃s:Sem Deferred,execOp ρ o=(do let d ←s;pure (.defer d)):=by
  unfold execOp;rw[ho];exact⟨_,rfl⟩
 obtain⟨s,hs⟩:=this;rw[hs];simp only[Sem.run_bind,Sem.run_pure];cases s.run P w <;>simp[Result.andThen]
theorem Ends.back{g g0:Gh}{K:DV→St→Prop}{S0:St}{e:Ending}{w w':World}(h1:Rel w0 g S0 w)(h:Ends w0 (g.aj (uZ w)) K e w'):Ends w0 g K e w':=by
 rcases h with⟨r,g',d,S',e,a,b,c,x⟩|⟨v,g',d,S',e,a,b,c,x⟩
 ·exact .inl ⟨r,_,d,S',e,pd a,h1.back a b,c.aj,x⟩
 ·exact .inr ⟨v,_,d,S',e,pd a,h1.back a b,c.aj,x⟩
theorem il{ro:Option Nat}{o:Oper}{ρD:Operand→DV}{S:St}{K:DV→St→Prop}(h:ak P w0 o ρD S K){g:Gh}{a:Act}{w:World}(h1:Rel w0 g S w)(hr:∀x,x∈o.op.operands.toList→aG g (ρD x) (a.eval x))(h3:Dk w0 g a w)
 {g0:Gh} {fr:List DV} (k0:g0.le g) (h2:af g fr a.tmps.toList)
 {next:Act→World→Prop} {Q:Exit→List DV→St→Prop} {QQ:Exit→Act→World→Prop} (hQ:∀v w',Good w0 g0 Q (.panic [{v,recovered:=false}]) a w'→QQ (.panic [{v,recovered:=false}]) a w') (hn:∀g' d u S' w',g.le g'→Rel w0 g' S' w'→aG g' d u→K d S'→Dk w0 g (a.put o.dst u) w'→next (a.put o.dst u) w'):o.wpIn (fz ro) 0 P a w next QQ:=by
 have hy:=h (g.aj (uZ w)) w a.eval h1.Y5 (fun x hx=>(hr x hx).aj) (fun _=>rfl)
 have hs:o.semAt (fz ro).round a.eval=execOp a.eval o:=Oper.semAt_eq _ _ _ fun c hc=>by
  obtain⟨n1,n2,n3,n4⟩:=FL (P:=P) (ρ:=a.eval) (w:=w) hc;split at hy
  ·rename_i e;exact n1 _ _ e
  ·rename_i e;exact n2 _ e
  ·rename_i e;exact n3 _ _ _ e
  ·rename_i e;exact n4 _ _ _ _ _ _ e
  ·exact hy.1 c hc
  ·exact hy
 refine⟨fun _ _=>trivial,?_⟩;rw[hs]
 have fin:∀(u:Value) (w':World),(∃g' d S',(g.aj (uZ w)).le g'∧Rel w0 g' S' w'∧aG g' d u∧K d S')→next (a.put o.dst u) w':=by
  rintro u w' ⟨g',d,S',k1,k2,k3,k4⟩;exact hn _ d u S' w' (pd k1) (h1.back k1 k2) k3.aj k4 (h3.cC (put_defers _ _ _) (DZ k1 k2))
 have pan:∀(v:Value) (w':World),(∃g' d S',(g.aj (uZ w)).le g'∧Rel w0 g' S' w'∧aG g' d v∧w0.pq d S')→QQ (.panic [{v,recovered:=false}]) a w':=by
  rintro v w' ⟨g',d,S',k1,k2,k3,k4⟩;refine hQ v w' ⟨k0.kd (h3.cC rfl (DZ k1 k2)),_,fr,S',k0.trans (pd k1),h1.back k1 k2,h2.mono (pd k1),v,d,rfl,k3.aj,k4⟩
 split at hy
 ·rename_i u w' hrun;rw[hrun];exact fin u w' hy
 ·rename_i w' hrun;rw[hrun];obtain⟨g',S',k1,k2,k4⟩:=hy;exact fin undef w' ⟨g',ud,S',k1,k2,gu g',k4⟩
 ·rename_i f args w' hrun;rw[hrun];refine⟨fun h=>by simp[fz,Fence.wide]at h,gi.2 (hy.mono ?_)⟩;rintro e w'' (⟨r,g',d,S',rfl,k⟩|⟨v,g',d,S',rfl,k⟩)
  ·exact fin r w'' ⟨g',d,S',k⟩
  ·exact pan v w'' ⟨g',d,S',k⟩
 ·rename_i l f tmps assign body w' hrun;rw[hrun];refine⟨fun h=>by simp[fz,Fence.wide]at h,(hy ro).mono ?_⟩;rintro e w'' (⟨r,g',d,S',rfl,k⟩|⟨v,g',d,S',rfl,k⟩)
  ·exact fin r w'' ⟨g',d,S',k⟩
  ·exact pan v w'' ⟨g',d,S',k⟩
 ·rename_i v w' hrun;rw[hrun];exact pan v w' hy.2
 ·exact hy.elim
theorem de{ro:Option Nat}{o:Oper}{ρD:Operand→DV}{S:St}{K:DV→St→Prop}(h:ak P w0 o ρD S K){g:Gh}{a:Act}{w:World}(h1:Rel w0 g S w)(hr:∀x,x∈o.op.operands.toList→aG g (ρD x) (a.eval x))(h3:Dk w0 g a w)
 {g0:Gh} {fr:List DV} (k0:g0.le g) (h2:af g fr a.tmps.toList)
 {next:Act→World→Prop} {Q:Exit→List DV→St→Prop} (hn:∀g' d u S' w',g.le g'→Rel w0 g' S' w'→aG g' d u→K d S'→Dk w0 g (a.put o.dst u) w'→next (a.put o.dst u) w'):o.wpIn (fz ro) 0 P a w next (Good w0 g0 Q):=
 il h h1 hr h3 k0 h2 (Q:=Q) (fun _ _ h=>h) hn
def bP(ops:Array Oper)(fr:List DV)(gd:Option (Nat×Bool))(A B:List DV→Prop):Prop:=
 match gd with
 |none=>A fr
 |some (j,want)=>match(ops[j]?).bind (·.dst)with
  |none=>B fr
  |some t=>match fr.getD t ud with
   | .v (.bool b)=>(b=want→A (fr.set t (.v (.bool want))))∧(b=!want→B (fr.set t (.v (.bool !want))))
   | .cW []=>B fr
   |_=>False
def DM(P:Program)(w0:W0)(ops:Array Oper)(K:List DV→St→Prop):List Oper→List DV→St→Prop
 |[],fr,S=>K fr S
 |o::rest,fr,S=>bP ops fr o.guard (fun fr=>ak P w0 o (ev fr) S fun d S'=>DM P w0 ops K rest (pt fr o.dst d) S') (fun fr=>DM P w0 ops K rest (pt fr o.dst ud) S)
theorem gF{g:Gh}{fr:List DV}{us:List Value}(hr:af g fr us){t:Nat}{d:DV}{u:Value}(hu:us[t]? =some u)(h:aG g d u):af g (fr.set t d) us:=by
 obtain⟨hlt,rfl⟩:=aad.1 hu;have:=hr.set t h
 rwa [List.set_getElem_self]at this
theorem ju{ops:Array Oper}{fr:List DV}{o:Oper}{A B:List DV→Prop}{g:Gh}{a:Act}(hr:af g fr a.tmps.toList)(h:bP ops fr o.guard A B):
 (Region.wanted o (yielded ops a.tmps)=true∧∃fr',af g fr' a.tmps.toList∧A fr')∨(Region.wanted o (yielded ops a.tmps)=false∧∃fr',af g fr' a.tmps.toList∧B fr'):=by
 unfold bP at h;split at h
 ·rename_i hg;exact .inl ⟨by simp[Region.wanted,hg],fr,hr,h⟩
 ·rename_i j want hg;split at h
  ·rename_i hj;refine .inr ⟨?_,fr,hr,h⟩;simp[Region.wanted,hg,yielded,hj]
  ·rename_i t hj;have ht:=hr.getD t
   have hy:yielded ops a.tmps j=(match a.tmps[t]? with|some (.bool b)=>some b|_=>none):=by
    unfold yielded;rw[hj];rfl
   have hlen:fr.length=a.tmps.size:=by simpa using hr.len
   split at h
   ·rename_i b hb
    have hlt:t<fr.length:=by
     rcases abz t fr.length with h'|h'
     ·exact h'
     ·rw[abj,aaS h']at hb;cases hb
    rw[hb]at ht;have hv:=mj ht
    have hu:a.tmps[t]? =some (.bool b):=by
     have h2:t<a.tmps.size:=hlen▸hlt;rw[abj,acv,acM h2]at hv;rw[acM h2];simpa using hv
    have hu':a.tmps.toList[t]? =some (.bool b):=by rw[acv];exact hu
    rw[hu]at hy;by_cases hw:b=want
    ·refine .inl ⟨by simp[Region.wanted,hg,hy,hw],_,gF hr hu' ?_,h.1 hw⟩;rw[hw];exact .v _ rfl
    ·have hw':b=!want:=by cases b <;>cases want <;>simp_all
     refine .inr ⟨by simp[Region.wanted,hg,hy,hw],_,gF hr hu' ?_,h.2 hw'⟩;rw[hw'];exact .v _ rfl
   ·rename_i hb;refine .inr ⟨?_,fr,hr,h⟩;rw[hb]at ht
    have hy':yielded ops a.tmps j=none:=by
     rw[hy]
     cases hq:a.tmps[t]? with
     |none=>rfl
     |some u=>
      rw[abj,acv,hq]at ht;simp only[acL]at ht;cases ht;rfl
    simp[Region.wanted,hg,hy']
   ·exact h.elim
theorem qp{ro:Option Nat}{ops:Array Oper}{g0:Gh}{Q:Exit→List DV→St→Prop}:∀(l:List Oper) (fr:List DV) (S:St) (g:Gh) (a:Act) (w:World),g0.le g→Rel w0 g S w→af g fr a.tmps.toList→Dk w0 g a w→
 DM P w0 ops (fun fr S=>Q .normal fr S) l fr S→wpListIn (fz ro) 0 P ops (Good w0 g0 Q) l a w
 |[],fr,S,g,a,w,k,h1,h2,h3,h=>⟨k.kd h3,g,fr,S,k,h1,h2,h⟩
 |o::rest,fr,S,g,a,w,k,h1,h2,h3,h=>by
  unfold DM at h;unfold wpListIn;rcases ju h2 h with⟨hw,fr',h2',hA⟩|⟨hw,fr',h2',hB⟩
  ·rw[if_pos hw];refine de hA h1 (fun x _=>eA h2' x) h3 k h2' fun g' d u S' w' k1 k2 k3 k4 k5=>?_;exact qp rest _ _ g' _ _ (k.trans k1) k2 (bu (h2'.mono k1) _ k3) (k1.dk k5) k4
  ·rw[if_neg (by simp[hw])];exact⟨fun _ _=>trivial,qp rest _ _ g _ _ k h1 (bu h2' _ (gu g)) (h3.cC (put_defers _ _ _) fun _ _ h _=>h) hB⟩
theorem Bi{id:Nat}{l:List Oper}{fr:List DV}{S:St}{Q:Exit→List DV→St→Prop}(h:DM P w0 l.toArray (fun fr S=>Q .normal fr S) l fr S):fV P w0 (.region id l.toArray false) fr S Q:=
 fun g a w h1 h2 h3=>fR fun _=>qp l fr S g a w (.refl g) h1 h2 h3 h
end
end Aml
namespace Aml
open Go Go.RowKit
inductive TK where
 |int (k:IntKind)
 |one
 |fn
 |str
 |sl (e s bytes:Nat) (ei:Bool)
 |st (fs:List (Nat×Nat×Bool)) (n:Nat)
 |ar (len e s:Nat) (ag:Bool) (n:Nat)
 |map (k e:Nat)
 |ptr (e:Nat)
 |jM (ms:List String)
 |no
def eM(P:Program)(t:TypeId):Bool:=match P.underlying t with
 |some (.struct _)=>true
 |some (.array _ _)=>true
 |_=>false
def Gc(P:Program)(e:TypeId):Bool:=match P.info? e with
 |some i=>(match i.zero with
  |some z=>z.cells.size==i.size&&decide (0<i.size)&&z.cells.toList.all (fun u=>u.oneCell')
  |none=>false)
 |none=>false
def tk(P:Program)(t:TypeId):TK:=match P.underlying t,P.info? t with
 |some (.int k),some _=> .int k
 |some .bool,some _=> .one
 |some .string,some _=> .str
 |some (.slice e),some _=> .sl e (P.cellsOf e) (P.bytesOf e) (Gc P e)
 |some (.struct fs),some i=>if fs.toList.all (fun f=>(P.info? f.type).isSome&&(P.underlying f.type).isSome)then .st (fs.toList.map fun f=>(f.offset,P.cellsOf f.type,eM P f.type)) i.size else .no
 |some (.array n e),some i=> .ar n e (P.cellsOf e) (eM P e) i.size
 |some (.map k e),some _=> .map k e
 |some (.pointer e),some _=> .ptr e
 |some (.interface ms),some _=> .jM (ms.toList.map (·.1))
 |some (.func ..),some _=> .fn
 |_,_=> .no
theorem lG{P:Program}{t:TypeId}{k:IntKind}(h:tk P t= .int k):P.underlying t=some (.int k):=by
 unfold tk at h;split at h <;>(try split at h) <;>(try cases h) <;>assumption
theorem iX{P:Program}{t:TypeId}(h:tk P t= .str):P.underlying t=some .string:=by
 unfold tk at h;split at h <;>(try split at h) <;>(try cases h) <;>assumption
theorem dM{P:Program}{t:TypeId}{e s y:Nat}{ei:Bool}(h:tk P t= .sl e s y ei):P.underlying t=some (.slice e)∧P.cellsOf e=s∧P.bytesOf e=y∧Gc P e=ei:=by
 unfold tk at h;split at h <;>(try split at h) <;>(try cases h);exact⟨by assumption,rfl,rfl,rfl⟩
theorem DL{P:Program}{t:TypeId}{fs:List (Nat×Nat×Bool)}{n:Nat}(h:tk P t= .st fs n):
 ∃(F:Array Field) (i:TypeInfo),P.underlying t=some (.struct F)∧P.info? t=some i∧i.size=n∧(fs=F.toList.map fun f=>(f.offset,P.cellsOf f.type,eM P f.type))∧∀f,f∈F.toList→(P.info? f.type).isSome=true∧(P.underlying f.type).isSome=true:=by
 unfold tk at h;split at h <;>(try cases h);split at h
 ·rename_i ha;cases h;exact⟨_,_,by assumption,by assumption,rfl,rfl,fun f hf=>by simpa using aa8.1 ha f hf⟩
 ·cases h
theorem PZ{P:Program}{t:TypeId}{len e s n:Nat}{ag:Bool}(h:tk P t= .ar len e s ag n):
 ∃(i:TypeInfo),P.underlying t=some (.array len e)∧P.info? t=some i∧i.size=n∧s=P.cellsOf e∧ag=eM P e:=by
 unfold tk at h;split at h <;>(try split at h) <;>(try cases h);exact⟨_,by assumption,by assumption,rfl,rfl,rfl⟩
theorem ee{P:Program}{e:TypeId}{i:TypeInfo}{z:Value}(h:Gc P e=true)(hi:P.info? e=some i)(hz:i.zero=some z):∀x,x∈z.cells.toList→x.oneCell'=true:=by
 unfold Gc at h;rw[hi]at h;simp only[hz,aak]at h;exact fun x hx=>aa8.1 h.2 x hx
theorem cI{P:Program}{e:TypeId}(h:Gc P e=true):∃i z,P.info? e=some i∧i.zero=some z∧z.cells.size=i.size∧0<i.size:=by
 unfold Gc at h;split at h
 ·rename_i i hi;split at h
  ·rename_i z hz;simp only[aak,beq_iff_eq,decide_eq_true_eq]at h;exact⟨i,z,hi,hz,h.1.1,h.1.2⟩
  ·cases h
 ·cases h
def Sd(ds:List DV)(K:DV→Prop):Prop:=match ds with
 |d::_=>K d
 |[]=>False
def qy(k:TK)(ds:List DV)(K:DV→Prop):Prop:=match k with
 | .st _ n=>n≤ds.length∧K (.agg (ds.take n))
 | .ar _ _ _ _ n=>n≤ds.length∧K (.agg (ds.take n))
 | .no=>False
 |_=>Sd ds K
section
variable {P:Program} {w0:W0} {g:Gh}
theorem ay{u x:Value}(r:aG g (.v u) x):x=u:=by cases r;rfl
theorem mJ{ds:List DV}{x:Value}(r:aG g (.agg ds) x):∃us:List Value,x= .agg us.toArray∧af g ds us∧∀u,u∈us→u.oneCell'=true:=by
 cases r with
 |agg _ us hl hr h1=>exact⟨us,rfl,⟨hl,hr⟩,h1⟩
theorem DN{ds:List DV}{x:Value}(r:aG g (.cW ds) x):∃us:List Value,x= .tuple us.toArray∧af g ds us:=by
 cases r with
 |cW _ us hl hr=>exact⟨us,rfl,⟨hl,hr⟩⟩
theorem kN{t:TypeId}{d:DV}{x:Value}(r:aG g (.jM t d) x):∃u,x= .iface t u∧aG g d u:=by
 cases r with
 |jM _ _ u h=>exact⟨u,rfl,h⟩
theorem fS{l n:Nat}{x:Value}(r:aG g (.acc l n) x):∃o c,x= .slice o n c∧g.acc l n=some (.slice o n c):=by
 cases r with
 |acc _ _ o c h=>exact⟨o,c,rfl,h⟩
theorem qa{ds:List DV}{x:Value}(r:aG g (.ip ds) x):∃b o us,x= .pointer (some ⟨b,o,none⟩)∧af g ds us∧(∀u,u∈us→u.oneCell'=true)∧∀(j:Nat) (x:Value),us[j]? =some x→g.aY b (o+j)=some x:=by
 cases r with
 |ip _ b o us hl hr h1 hi=>exact⟨b,o,us,rfl,⟨hl,hr⟩,h1,hi⟩
theorem tP{l n s i o:Nat}{x:Value}(r:aG g (.ap l n s i o) x):∃b q c,x= .pointer (some ⟨b,q+i*s+o,none⟩)∧g.acc l n=some (.slice (some ⟨b,q,none⟩) n c):=by
 cases r with
 |ap _ _ _ _ _ b q c h=>exact⟨b,q,c,rfl,h⟩
theorem im{s:Nat}{f:Bool}{xs:List DV}{x:Value}(r:aG g (.sl s f xs) x):
 (xs=[]∧∃o c,x= .slice o 0 c∧(f=true→c=0))∨
 ∃b o c us,x= .slice (some ⟨b,o,none⟩) xs.length c∧af g xs us∧(f=true→c=xs.length)∧xs.length≤c∧c≤maxLen∧(∀(i:Nat) (u:Value),us[i]? =some u→u.cells.size=s)∧(∀(u:Value),u∈us→∀x,x∈u.cells.toList→x.oneCell'=true)∧
  (∀(i:Nat) (u:Value) (j:Nat) (x:Value),us[i]? =some u→u.cells[j]? =some x→g.aY b (o+i*s+j)=some x):=by
 cases r with
 |nil _ _ o c hc=>exact .inl ⟨rfl,o,c,rfl,hc⟩
 |sl _ _ _ b o c us hl hf hc hm hr hz h1 hi=>exact .inr ⟨b,o,c,us,by rw[hl],⟨hl,hr⟩,by rw[hl];exact hf,by rw[hl];exact hc,hm,hz,h1,hi⟩
theorem add_plain(b o n:Nat):(⟨b,o,none⟩:Addr).add n=⟨b,o+n,none⟩:=by
 unfold Addr.add;split <;>simp_all
theorem Dh{t:TypeId}{ds:List DV}{us:List Value}{b o:Nat}{w:World}{K:DV→Prop}(hr:af g ds us)(h1:∀u,u∈us→u.oneCell'=true)
 (hc:∀(j:Nat) (x:Value),us[j]? =some x→w.cell? ⟨b,o+j,none⟩=some x) (h:qy (tk P t) ds K):
 ∃d u,(Instr.loadAt t (.pointer (some ⟨b,o,none⟩))).run P w= .ok u w∧aG g d u∧K d:=by
 have one:∀(dd:TypeDesc),P.underlying t=some dd→(match dd with| .struct _| .array _ _=>true|_=>false)=false→Sd ds K→
  ∃d u,(Instr.loadAt t (.pointer (some ⟨b,o,none⟩))).run P w= .ok u w∧aG g d u∧K d:=by
  intro dd hu hd hk
  cases ds with
  |nil=>exact hk.elim
  |cons d ds=>
   obtain⟨u,us',rfl,hd1,_⟩:=hr.dJ;refine⟨d,u,?_,hd1,hk⟩;have:=hc 0 u (by simp);simp only[adj]at this
   have hagg:(isAgg t).run P w= .ok false w:=by
    unfold isAgg;rw[Sem.run_bind,run_underlying hu w];cases dd <;>simp_all
   simp[Instr.loadAt,Instr.sureAddr,loadVar,hagg,this]
 have agg:∀(dd:TypeDesc) (i:TypeInfo),P.underlying t=some dd→P.info? t=some i→(match dd with| .struct _| .array _ _=>true|_=>false)=true→(i.size≤ds.length∧K (.agg (ds.take i.size)))→
  ∃d u,(Instr.loadAt t (.pointer (some ⟨b,o,none⟩))).run P w= .ok u w∧aG g d u∧K d:=by
  intro dd i hu hi hd hk
  have hl:(loadCells ⟨b,o,none⟩ (us.take i.size).length).run P w= .ok (us.take i.size).toArray w:=
   run_loadCells_list (P:=P) w ⟨b,o,none⟩ (us.take i.size) (fun j v hv=>by
    rw[add_plain];rw[acr]at hv;split at hv
    ·exact hc j v hv
    ·cases hv)
  have hlen:(us.take i.size).length=i.size:=by have:=hr.len;simp;omega
  rw[hlen]at hl
  have hagg:(isAgg t).run P w= .ok true w:=by
   unfold isAgg;rw[Sem.run_bind,run_underlying hu w];cases dd <;>simp_all
  refine⟨.agg (ds.take i.size),.agg (us.take i.size).toArray,?_,?_,hk.2⟩
  ·simp[Instr.loadAt,Instr.sureAddr,loadVar,hagg,Go.sizeOf,typeInfo,hi,hl]
  ·exact .agg _ _ (hr.take _).len (hr.take _).at_ (fun u hu=>h1 u (acC hu))
 unfold tk at h;split at h <;>(try split at h) <;>simp only[qy]at h
 all_goals first
  |exact h.elim
  |exact agg _ _ (by assumption) (by assumption) rfl h
  |exact one _ (by assumption) rfl h
end
end Aml
namespace Aml
open Go Go.RowKit
section
variable {P:Program} {w0:W0}
theorem bG{o:Oper}{ρD:Operand→DV}{S:St}{K:DV→St→Prop}
 (h:∀g w (ρ:Operand→Value),Rel w0 g S w→(∀x,x∈o.op.operands.toList→aG g (ρD x) (ρ x))→∃d u,(execOp ρ o).run P w= .ok (.value u) w∧aG g d u∧K d S):ak P w0 o ρD S K:=by
 intro g w ρ h1 h2 hcst;obtain⟨d,u,hr,hd,hk⟩:=h g w ρ h1 h2;rw[hr];exact⟨g,d,S,.refl g,h1,hd,hk⟩
theorem Kr{o:Oper}{ρD:Operand→DV}{S:St}{K:DV→St→Prop}
 (h:∀g w (ρ:Operand→Value),Rel w0 g S w→(∀x,x∈o.op.operands.toList→aG g (ρD x) (ρ x))→(∀u,ρ (.const u)=u)→∃d u,(execOp ρ o).run P w= .ok (.value u) w∧aG g d u∧K d S):ak P w0 o ρD S K:=by
 intro g w ρ h1 h2 hcst;obtain⟨d,u,hr,hd,hk⟩:=h g w ρ h1 h2 hcst;rw[hr];exact⟨g,d,S,.refl g,h1,hd,hk⟩
theorem T7{o:Oper}{x:Operand}(ho:o.op= .move x){ρD:Operand→DV}{S:St}{K:DV→St→Prop}(h:K (ρD x) S):ak P w0 o ρD S K:=
 bG fun g w ρ h1 h2=>⟨ρD x,ρ x,by simp[execOp,ho],h2 x (by simp[ho,Op.operands]),h⟩
theorem J7{o:Oper}{x:Operand}(ho:o.op= .assign x){ρD:Operand→DV}{S:St}{K:DV→St→Prop}(h:K (ρD x) S):ak P w0 o ρD S K:=
 bG fun g w ρ h1 h2=>⟨ρD x,ρ x,by simp[execOp,ho],h2 x (by simp[ho,Op.operands]),h⟩
def iT(c a b:DV)(K:DV→Prop):Prop:=match c with
 | .v (.bool t)=>(t=true→K a)∧(t=false→K b)
 |_=>False
theorem Q0{o:Oper}{c a b:Operand}(ho:o.op= .pick c a b){ρD:Operand→DV}{S:St}{K:DV→St→Prop}(h:iT (ρD c) (ρD a) (ρD b) (K · S)):ak P w0 o ρD S K:=by
 refine bG fun g w ρ h1 h2=>?_;have hc:=h2 c (by simp[ho,Op.operands]);have ha:=h2 a (by simp[ho,Op.operands]);have hb:=h2 b (by simp[ho,Op.operands]);unfold iT at h;split at h
 ·rename_i t hct;rw[hct]at hc;have hv:=ay hc;cases t
  ·exact⟨_,_,by simp[execOp,ho,hv,asBool],hb,h.2 rfl⟩
  ·exact⟨_,_,by simp[execOp,ho,hv,asBool],ha,h.1 rfl⟩
 ·exact h.elim
def bE(k:TK)(S:St)(x:DV)(K:DV→Prop):Prop:=match x with
 | .v (.pointer (some ⟨b,o,none⟩))=>match lk S.box b with
  |some ds=>qy k (ds.drop o) K
  |none=>False
 | .ip ds=>qy k ds K
 | .ap l n s i o=>match lk S.acc l with
  |some (.arr s' xs)=>xs.length=n∧s'=s∧∃d,xs[i]? =some d∧eW d=true∧qy k ((cd d).drop o) K
  |some (.tl s' xs)=>xs.length=n∧s'=s∧∃d,xs[i]? =some d∧eW d=true∧qy k ((cd d).drop o) K
  |_=>False
 |_=>False
theorem Rel.xu{g:Gh}{S:St}{w:World}(h:Rel w0 g S w){b:Nat}{ds:List DV}(hb:lk S.box b=some ds):
 w0.heap.size≤b∧(∀i,g.aY b i=none)∧∃us e,w.heap[b]? =some (.cells us e (0,0))∧af g ds us.toList∧∀u,u∈us.toList→u.oneCell'=true:=by
 obtain⟨ow,h1,_⟩:=h.own;exact(h1 b ds (bV hb)).2
theorem bS{w:World}{b e:Nat}{cs:Array Value}{fr:Nat×Nat}(h:w.heap[b]? =some (.cells cs e fr))(j:Nat):w.cell? ⟨b,j,none⟩=cs[j]? :=cell_of_row w b j cs e fr h
theorem Rel.vM{g:Gh}{S:St}{w:World}(h:Rel w0 g S w){l b q c:Nat}{ob:Ob}(hl:lk S.acc l=some ob){s:Nat}{xs:List DV}(hob:ob= .arr s xs∨ob= .tl s xs)
 (ha:g.acc l xs.length=some (.slice (some ⟨b,q,none⟩) xs.length c)) {i:Nat} {d:DV} (hi:xs[i]? =some d) (hd:eW d=true):
 ∃us:List Value,af g (cd d) us∧(∀u,u∈us→u.oneCell'=true)∧∀(j:Nat) (x:Value),us[j]? =some x→w.cell? ⟨b,q+i*s+j,none⟩=some x:=by
 obtain⟨ow,_,h2⟩:=h.own;have hlt:i<xs.length:=(aad.1 hi).1
 have key:∀us:List Value,af g xs us→(∀(i:Nat) (u:Value) (j:Nat) (x:Value),us[i]? =some u→u.cells[j]? =some x→w.cell? ⟨b,q+i*s+j,none⟩=some x)→
  ∃us:List Value,af g (cd d) us∧(∀u,u∈us→u.oneCell'=true)∧∀(j:Nat) (x:Value),us[j]? =some x→w.cell? ⟨b,q+i*s+j,none⟩=some x:=by
  intro us hr hc;have hlt':i<us.length:=by rw[←hr.len];exact hlt
  have hu:us[i]? =some us[i]:=aac hlt';have r:=hr.at_ i d _ hi hu;exact⟨_,r.cells hd,r.one hd,fun j x hx=>hc i _ j x hu (by simpa using hx)⟩
 have aY:∀{f:Bool} {u:Value},u= .slice (some ⟨b,q,none⟩) xs.length c→aG g (.sl s f xs) u→∃us:List Value,af g (cd d) us∧(∀u,u∈us→u.oneCell'=true)∧∀(j:Nat) (x:Value),us[j]? =some x→w.cell? ⟨b,q+i*s+j,none⟩=some x:=by
  intro f u hu r;rcases im r with⟨he,_⟩|⟨b',o',c',us,hx,hr,_,_,_,hz,_,hc⟩
  ·rw[he]at hlt;exact absurd hlt (by simp)
  ·rw[hu]at hx;simp only[Value.slice.injEq,abg,Addr.mk.injEq]at hx;obtain⟨⟨rfl,rfl,_⟩,_⟩:=hx;exact key us hr fun i u j x h1 h2=>h.aY _ _ _ (hc i u j x h1 h2)
 rcases hob with rfl|rfl
 ·have:=h2 l _ (bV hl);obtain⟨_,⟨he,_⟩|⟨b',c',cs,e,h3,_,_,_,hh,_,_,_,_,us,hr,hz,_,hc⟩⟩:=this
  ·rw[he]at hlt;exact absurd hlt (by simp)
  ·rw[ha]at h3;simp only[abg,Value.slice.injEq,Addr.mk.injEq,and_true,true_and]at h3;obtain⟨⟨rfl,rfl⟩,rfl⟩:=h3;exact key us hr fun i u j x h1 h2=>by rw[bS hh,acE];exact hc i u j x h1 h2
 ·have:=h2 l _ (bV hl);obtain⟨_,⟨u,h3,r⟩|⟨b',c',cs,e,h3,_,_,_,hh,_,_,_,r⟩⟩:=this
  ·rw[ha]at h3;exact aY (abR h3).symm r
  ·rw[ha]at h3;exact aY (abR h3).symm r
theorem Ts{o:Oper}{t:TypeId}{x:Operand}(ho:o.op= .load t x){ρD:Operand→DV}{S:St}{K:DV→St→Prop}(h:bE (tk P t) S (ρD x) (K · S)):ak P w0 o ρD S K:=by
 refine bG fun g w ρ h1 h2=>?_;have hx:=h2 x (by simp[ho,Op.operands])
 have fin:∀{b o':Nat} {ds:List DV} {us:List Value},ρ x= .pointer (some ⟨b,o',none⟩)→af g ds us→(∀u,u∈us→u.oneCell'=true)→(∀(j:Nat) (x:Value),us[j]? =some x→w.cell? ⟨b,o'+j,none⟩=some x)→
  qy (tk P t) ds (K · S)→∃d u,(execOp ρ o).run P w= .ok (.value u) w∧aG g d u∧K d S:=by
  intro b o' ds us hv hr hone hc hk;obtain⟨d,u,hrun,hd,hk⟩:=Dh hr hone hc hk;exact⟨d,u,by simp[execOp,ho,hv,hrun],hd,hk⟩
 unfold bE at h;split at h
 ·rename_i b o' hx';rw[hx']at hx;split at h
  ·rename_i ds hb;obtain⟨_,_,us,e,hh,hr,hone⟩:=h1.xu hb;refine fin (ay hx) (hr.drop o') (fun u hu=>hone u (acb hu)) (fun j x hj=>?_) h;rw[bS hh];simpa using hj
  ·exact h.elim
 ·rename_i ds hx';rw[hx']at hx;obtain⟨b,o',us,hv,hr,hone,hi⟩:=qa hx;exact fin hv hr hone (fun j x hj=>h1.aY _ _ _ (hi j x hj)) h
 ·rename_i l n s i o' hx';rw[hx']at hx;obtain⟨b,q,c,hv,ha⟩:=tP hx
  have go:∀(ob:Ob) (xs:List DV),lk S.acc l=some ob→(ob= .arr s xs∨ob= .tl s xs)→xs.length=n→(∃d,xs[i]? =some d∧eW d=true∧qy (tk P t) ((cd d).drop o') (K · S))→
   ∃d u,(execOp ρ o).run P w= .ok (.value u) w∧aG g d u∧K d S:=by
   intro ob xs hob he hn ⟨d,hd1,hd2,hk⟩;subst hn;obtain⟨us,hr,hone,hc⟩:=h1.vM hob he ha hd1 hd2;refine fin hv (hr.drop o') (fun u hu=>hone u (acb hu)) (fun j x hj=>?_) hk;rw[acw];exact hc _ _ (by simpa using hj)
  split at h
  ·rename_i s' xs hob;obtain⟨hn,rfl,hk⟩:=h;exact go _ xs hob (.inl rfl) hn hk
  ·rename_i s' xs hob;obtain⟨hn,rfl,hk⟩:=h;exact go _ xs hob (.inr rfl) hn hk
  ·exact h.elim
 ·exact h.elim
def gC(k:TK)(f:Nat)(x:DV)(K:DV→Prop):Prop:=match k with
 | .st fs _=>match fs[f]? with
  |some (off,sz,_)=>sz≠0∧(match x with
   | .v (.pointer (some ⟨b,o,none⟩))=>K (.v (.pointer (some ⟨b,o+off,none⟩)))
   | .ip ds=>off≤ds.length∧K (.ip (ds.drop off))
   | .ap l n s i o=>K (.ap l n s i (o+off))
   |_=>False)
  |none=>False
 |_=>False
theorem x0{o:Oper}{t:TypeId}{x:Operand}{f:Nat}(ho:o.op= .fieldAddr t x f){ρD:Operand→DV}{S:St}{K:DV→St→Prop}(h:gC (tk P t) f (ρD x) (K · S)):ak P w0 o ρD S K:=by
 refine bG fun g w ρ h1 h2=>?_;have hx:=h2 x (by simp[ho,Op.operands]);unfold gC at h;split at h
 ·rename_i fs n hk;obtain⟨F,i,hu,hi,_,rfl,_⟩:=DL hk;split at h
  ·rename_i off sz ag hf;obtain⟨hsz,h⟩:=h;rw[aaE]at hf;obtain⟨fd,hfd,hfe⟩:=aay.1 hf;simp only[acn]at hfe;obtain⟨rfl,rfl,_⟩:=hfe;have hF:F[f]? =some fd:=by simpa using hfd
   have hsize:(Go.sizeOf fd.type).run P w= .ok (P.cellsOf fd.type) w:=by
    unfold Program.cellsOf at hsz ⊢
    cases hq:P.info? fd.type with
    |none=>simp[hq]at hsz
    |some i=>simp[Go.sizeOf,typeInfo,hq]
   have run:∀b o',ρ x= .pointer (some ⟨b,o',none⟩)→(execOp ρ o).run P w= .ok (.value (.pointer (some ⟨b,o'+fd.offset,none⟩))) w:=by
    intro b o' hv;simp[execOp,ho,hv,Instr.fieldAt,run_underlying hu,hF,Instr.sureAddr,fieldPlace,hsize,hsz,add_plain]
   split at h
   ·rename_i b o' hx';rw[hx']at hx;exact⟨_,_,run b o' (ay hx),.v _ rfl,h⟩
   ·rename_i ds hx';rw[hx']at hx;obtain⟨b,o',us,hv,hr,hone,hi⟩:=qa hx;refine⟨_,_,run b o' hv,.ip _ _ _ (us.drop fd.offset) (hr.drop _).len (hr.drop _).at_ (fun u hu=>hone u (acb hu)) (fun j x hj=>?_),h.2⟩;rw[acw];exact hi _ _ (by simpa using hj)
   ·rename_i l n s i o' hx';rw[hx']at hx;obtain⟨b,q,c,hv,ha⟩:=tP hx;refine⟨_,_,run b _ hv,?_,h⟩;rw[acw];exact .ap _ _ _ _ _ _ _ _ ha
   ·exact h.elim
  ·exact h.elim
 ·exact h.elim
def aK(k:TK)(x i:DV)(K:DV→Prop):Prop:=match k,i with
 | .sl _ s _ true,.v (.int _ z)=>(match x with
  | .sl s' _ xs=>s'=s∧0≤z∧z<xs.length∧∀d,xs[z.toNat]? =some d→eW d=true∧K (.ip (cd d))
  | .acc l n=>0≤z∧z<n∧K (.ap l n s z.toNat 0)
  | .v (.slice (some ⟨b,o,none⟩) n _)=>0≤z∧z<n∧K (.v (.pointer (some ⟨b,o+z.toNat*s,none⟩)))
  |_=>False)
 | .ar len _ s _ _,.v (.int _ z)=>0<s∧0≤z∧z<len∧(match x with
  | .v (.pointer (some ⟨b,o,none⟩))=>K (.v (.pointer (some ⟨b,o+z.toNat*s,none⟩)))
  | .ip ds=>z.toNat*s≤ds.length∧K (.ip (ds.drop (z.toNat*s)))
  |_=>False)
 |_,_=>False
theorem tJ{e s:Nat}{w:World}(hs:P.cellsOf e=s)(h:0<s):(Go.sizeOf e).run P w= .ok s w:=by
 unfold Program.cellsOf at hs
 cases hq:P.info? e with
 |none=>simp[hq]at hs;omega
 |some j=>simp[hq]at hs;simp[Go.sizeOf,typeInfo,hq,hs]
theorem ph{o:Oper}{t:TypeId}{x i:Operand}(ho:o.op= .indexAddr t x i){ρD:Operand→DV}{S:St}{K:DV→St→Prop}{dx:DV}(hdx:∀g w (u:Value),Rel w0 g S w→aG g (ρD x) u→aG g dx u)(h:aK (tk P t) dx (ρD i) (K · S)):ak P w0 o ρD S K:=by
 refine bG fun g w ρ h1 h2=>?_;have hx:=hdx g w _ h1 (h2 x (by simp[ho,Op.operands]));have hi:=h2 i (by simp[ho,Op.operands]);unfold aK at h;split at h
 ·rename_i e s by' ik z hk hi';rw[hi']at hi;have hiv:=ay hi;obtain⟨hu,hs,_,hei⟩:=dM hk
  have hsize:(Go.sizeOf e).run P w= .ok s w:=by
   obtain⟨j,z',hq,_,_,_⟩:=cI hei;unfold Program.cellsOf at hs;simp[hq]at hs;simp[Go.sizeOf,typeInfo,hq,hs]
  have run:∀b o' n c,ρ x= .slice (some ⟨b,o',none⟩) n c→0≤z→z<n→(execOp ρ o).run P w= .ok (.value (.pointer (some ⟨b,o'+z.toNat*s,none⟩))) w:=by
   intro b o' n c hv h0 hn;simp[execOp,ho,hv,hiv,Instr.indexAt,asIntOf,run_underlying hu,h0,hn,hsize,add_plain]
  split at h
  ·rename_i s' f xs;obtain⟨rfl,h0,hlt,hd⟩:=h;have hlt':z.toNat<xs.length:=by omega
   rcases im hx with⟨he,_⟩|⟨b,o',c,us,hv,hr,_,_,_,hz,_,hc⟩
   ·rw[he]at hlt';exact absurd hlt' (by simp)
   ·have hxz:xs[z.toNat]? =some xs[z.toNat]:=aac hlt';obtain⟨hok,hK⟩:=hd _ hxz;have hlu:z.toNat<us.length:=by rw[←hr.len];exact hlt'
    have huz:us[z.toNat]? =some us[z.toNat]:=aac hlu;have r:=hr.at_ _ _ _ hxz huz;refine⟨_,_,run b o' _ c hv h0 (by omega),.ip _ _ _ _ (r.cells hok).len (r.cells hok).at_ (r.one hok) (fun j x hj=>?_),hK⟩;exact hc _ _ _ _ huz (by simpa using hj)
  ·rename_i l n;obtain⟨h0,hlt,hK⟩:=h;obtain⟨oo,c,hv,ha⟩:=fS hx;obtain⟨o2,c2,he,hw⟩:=h1.eU _ _ _ ha;rcases hw with hw|⟨b,q,rfl⟩
   ·omega
   ·simp only[Value.slice.injEq,true_and]at he;obtain⟨rfl,rfl⟩:=he;exact⟨_,_,run b q n c hv h0 hlt,.ap l n s z.toNat 0 b q c ha,hK⟩
  ·rename_i b o' n c;obtain⟨h0,hlt,hK⟩:=h;exact⟨_,_,run b o' n c (ay hx) h0 hlt,.v _ rfl,hK⟩
  ·exact h.elim
 ·rename_i len e s ag n ik z hk hi';rw[hi']at hi;have hiv:=ay hi;obtain⟨ti,hu,_,_,hs,_⟩:=PZ hk;obtain⟨hpos,h0,hlt,h⟩:=h;have hsize:(Go.sizeOf e).run P w= .ok s w:=tJ hs.symm hpos
  have run:∀b o',ρ x= .pointer (some ⟨b,o',none⟩)→(execOp ρ o).run P w= .ok (.value (.pointer (some ⟨b,o'+z.toNat*s,none⟩))) w:=by
   intro b o' hv;simp[execOp,ho,hv,hiv,Instr.indexAt,Instr.sureAddr,asIntOf,run_underlying hu,h0,hlt,hsize,add_plain]
  split at h
  ·rename_i b o';exact⟨_,_,run b o' (ay hx),.v _ rfl,h⟩
  ·rename_i ds;obtain⟨hle,hK⟩:=h;obtain⟨b,o',us,hv,hr,h1',hi1⟩:=qa hx;have hR:=hr.drop (z.toNat*s);refine⟨_,_,run b o' hv,.ip _ _ _ (us.drop (z.toNat*s)) hR.len hR.at_ (fun u hu'=>h1' u (acb hu')) (fun j x hj=>?_),hK⟩;rw[acm]at hj;have:=hi1 _ _ hj;rw[acw];exact this
  ·exact h.elim
 ·exact h.elim
theorem mc{o:Oper}{t:TypeId}{x i:Operand}(ho:o.op= .indexAddr t x i){ρD:Operand→DV}{S:St}{K:DV→St→Prop}(h:aK (tk P t) (ρD x) (ρD i) (K · S)):ak P w0 o ρD S K:=
 ph ho (fun _ _ _ _ r=>r) h
end
end Aml
namespace Aml
open Go Go.RowKit
section
variable {P:Program} {w0:W0}
def dc(i:Nat)(x:DV)(K:DV→Prop):Prop:=match x with
 | .cW ds=>match ds[i]? with
  |some d=>K d
  |none=>False
 |_=>False
theorem EJ{o:Oper}{x:Operand}{i:Nat}(ho:o.op= .extract x i){ρD:Operand→DV}{S:St}{K:DV→St→Prop}(h:dc i (ρD x) (K · S)):ak P w0 o ρD S K:=by
 refine bG fun g w ρ h1 h2=>?_;have hx:=h2 x (by simp[ho,Op.operands]);unfold dc at h;split at h
 ·rename_i ds hx';rw[hx']at hx;obtain⟨us,hv,hr⟩:=DN hx;split at h
  ·rename_i d hd;have hlt:i<us.length:=by rw[←hr.len];exact(aad.1 hd).1
   exact⟨d,us[i],by simp[execOp,ho,hv,Instr.extract,hlt],hr.at_ _ _ _ hd (aac hlt),h⟩
  ·exact h.elim
 ·exact h.elim
def iB(k:TK)(f:Nat)(x:DV)(K:DV→Prop):Prop:=match k with
 | .st fs _=>match fs[f]? with
  |some (off,sz,ag)=>(match x with
   | .agg ds=>off+sz≤ds.length∧(match ag with
    |true=>K (.agg ((ds.drop off).take sz))
    |false=>match ds[off]? with
     |some d=>K d
     |none=>False)
   |_=>False)
  |none=>False
 |_=>False
theorem oJ{T:TypeId}{us:List Value}{off:Nat}{w:World}(h:eM P T=true)(hi:(P.info? T).isSome=true):(part T us.toArray off).run P w= .ok (.agg ((us.drop off).take (P.cellsOf T)).toArray) w:=by
 unfold eM at h
 cases hq:P.info? T with
 |none=>simp[hq]at hi
 |some i=>
  have hc:P.cellsOf T=i.size:=by simp[Program.cellsOf,hq]
  cases hu:P.underlying T with
  |none=>simp[hu]at h
  |some dd=>
   have hagg:(isAgg T).run P w= .ok true w:=by
    unfold isAgg;rw[Sem.run_bind,run_underlying hu w];cases dd <;>simp_all
   simp[part,hagg,Go.sizeOf,typeInfo,hq,hc]
theorem gR{T:TypeId}{us:List Value}{off:Nat}{u:Value}{w:World}(h:eM P T=false)(hi:(P.underlying T).isSome=true)(hu':us[off]? =some u):(part T us.toArray off).run P w= .ok u w:=by
 unfold eM at h
 cases hu:P.underlying T with
 |none=>simp[hu]at hi
 |some dd=>
  have hagg:(isAgg T).run P w= .ok false w:=by
   unfold isAgg;rw[Sem.run_bind,run_underlying hu w];cases dd <;>simp_all
  simp[part,hagg,hu']
def cZ(op:BinOp)(k:IntKind)(x y:Int):Int:=
 let a:=BitVec.ofInt k.bits x
 let b:=BitVec.ofInt k.bits y
 match op with
 | .and=>k.wrap (a &&& b).toNat
 | .or=>k.wrap (a ||| b).toNat
 | .xor=>k.wrap (a ^^^ b).toNat
 |_=>k.wrap (a &&& ~~~b).toNat
def nu(op:BinOp)(k:IntKind)(m n:Int)(K:DV→Prop):Prop:=match op with
 | .add=>K (.v (.int k (k.wrap (m+n))))
 | .sub=>K (.v (.int k (k.wrap (m-n))))
 | .mul=>K (.v (.int k (k.wrap (m*n))))
 | .quo=>n≠0∧K (.v (.int k (k.wrap (m.tdiv n))))
 | .rem=>n≠0∧K (.v (.int k (m.tmod n)))
 | .and=>K (.v (.int k (cZ .and k m n)))
 | .or=>K (.v (.int k (cZ .or k m n)))
 | .xor=>K (.v (.int k (cZ .xor k m n)))
 | .andNot=>K (.v (.int k (cZ .andNot k m n)))
 | .eql=>K (.v (.bool (decide (m=n))))
 | .neq=>K (.v (.bool (decide (m≠n))))
 | .lss=>K (.v (.bool (decide (m<n))))
 | .leq=>K (.v (.bool (decide (m≤n))))
 | .gtr=>K (.v (.bool (decide (m>n))))
 | .geq=>K (.v (.bool (decide (m≥n))))
 | .shl=>0≤n∧K (.v (.int k (k.wrap (m*2^(min n.toNat k.bits)))))
 | .shr=>0≤n∧K (.v (.int k (m.fdiv (2^(min n.toNat k.bits)))))
def gO(op:BinOp)(x y:ByteArray)(K:DV→Prop):Prop:=match op with
 | .add=>x.size+y.size≤9223372036854775807∧K (.v (.string (x++y)))
 | .eql=>K (.v (.bool (decide (x.data.toList=y.data.toList))))
 | .neq=>K (.v (.bool (!decide (x.data.toList=y.data.toList))))
 | .lss=>K (.v (.bool (Op.bytesLess x.data.toList y.data.toList)))
 | .leq=>K (.v (.bool (Op.bytesLess x.data.toList y.data.toList||decide (x.data.toList=y.data.toList))))
 | .gtr=>K (.v (.bool (!(Op.bytesLess x.data.toList y.data.toList||decide (x.data.toList=y.data.toList)))))
 | .geq=>K (.v (.bool (!Op.bytesLess x.data.toList y.data.toList)))
 |_=>False
def sameKind(op:BinOp)(k k':IntKind):Bool:=match op with
 | .shl=>true
 | .shr=>true
 |_=>k==k'
def vp:DV→Bool
 | .v (.pointer (some _))=>true
 | .ip _=>true
 | .ap _ _ _ _ _=>true
 |_=>false
def lN(op:BinOp)(t:TK)(cx cy:Bool)(x y:DV)(K:DV→Prop):Prop:=match x,y with
 | .v (.int k m),.v (.int k' n)=>sameKind op k k'=true∧nu op k m n K
 | .v (.string a),.v (.string b)=>gO op a b K
 | .v (.bool a),.v (.bool b)=>match t,op with
  | .one,.eql=>K (.v (.bool (a==b)))
  | .one,.neq=>K (.v (.bool (!(a==b))))
  |_,_=>False
 | .v .nilIface,.v .nilIface=>match t,op with
  | .jM _,.eql=>(cx||cy)=true∧K (.v (.bool true))
  | .jM _,.neq=>(cx||cy)=true∧K (.v (.bool false))
  |_,_=>False
 | .jM _ _,.v .nilIface=>match t,op with
  | .jM _,.eql=>K (.v (.bool false))
  | .jM _,.neq=>K (.v (.bool true))
  |_,_=>False
 | .v (.pointer none),.v (.pointer none)=>match t,op with
  | .ptr _,.eql=>K (.v (.bool true))
  | .ptr _,.neq=>K (.v (.bool false))
  |_,_=>False
 |d,.v (.pointer none)=>match t,op with
  | .ptr _,.eql=>vp d=true∧K (.v (.bool false))
  | .ptr _,.neq=>vp d=true∧K (.v (.bool true))
  |_,_=>False
 |_,_=>False
def xX:Operand→Bool
 | .const _=>true
 |_=>false
theorem bo{op:BinOp}{t:TypeId}{x y:Operand}{a b:Value}{w:World}(h:∀c,a≠ .agg c)(h':a≠ .nilIface∨b≠ .nilIface):(eqGuard op t x y a b).run P w= .ok () w:=by
 unfold eqGuard;cases op
 case eql|neq=>
  simp only[Bool.not_true,abQ,if_false];split
  ·simp_all
  ·exact absurd rfl (h _)
  ·rfl
 all_goals rfl
theorem qY{op:BinOp}{t:TypeId}{x y:Operand}{w:World}(h:(xX x||xX y)=true):(eqGuard op t x y .nilIface .nilIface).run P w= .ok () w:=by
 unfold eqGuard;cases op
 case eql|neq=>
  simp only[Bool.not_true,abQ,if_false];cases x <;>cases y <;>first|rfl|(simp[xX]at h)
 all_goals rfl
theorem wv(m n:Int):(m==n)=decide (m=n):=by by_cases h:m=n <;>simp[h]
theorem Gu{op:BinOp}{t:TypeId}{k k':IntKind}{m n:Int}{w:World}{g:Gh}{K:DV→Prop}(hk:sameKind op k k'=true)(h:nu op k m n K):∃d u,(binOp op t (.int k m) (.int k' n)).run P w= .ok u w∧aG g d u∧K d:=by
 cases op <;>simp only[nu,sameKind,beq_iff_eq]at h hk
 case shl=>exact⟨_,_,by simp[binOp,Op.shift,show¬n<0 by omega],.v _ rfl,h.2⟩
 case shr=>exact⟨_,_,by simp[binOp,Op.shift,show¬n<0 by omega],.v _ rfl,h.2⟩
 all_goals subst hk
 case quo=>exact⟨_,_,by simp[binOp,Op.intDiv,h.1],.v _ rfl,h.2⟩
 case rem=>exact⟨_,_,by simp[binOp,Op.intDiv,h.1],.v _ rfl,h.2⟩
 case and=>exact⟨_,_,by simp[binOp,Op.intBits,cZ],.v _ rfl,h⟩
 case or=>exact⟨_,_,by simp[binOp,Op.intBits,cZ],.v _ rfl,h⟩
 case xor=>exact⟨_,_,by simp[binOp,Op.intBits,cZ],.v _ rfl,h⟩
 case andNot=>exact⟨_,_,by simp[binOp,Op.intBits,cZ],.v _ rfl,h⟩
 case eql=>exact⟨_,_,by simp[binOp,Op.intCmp,wv],.v _ rfl,h⟩
 case neq=>exact⟨_,_,by simp[binOp,Op.intCmp,bne,wv],.v _ rfl,h⟩
 all_goals exact⟨_,_,by simp[binOp,Op.intCmp,Op.intArith],.v _ rfl,h⟩
theorem Jd(m n:List UInt8):(m==n)=decide (m=n):=by by_cases h:m=n <;>simp[h]
theorem HW(m n:Array UInt8):(m==n)=decide (m=n):=by by_cases h:m=n <;>simp[h]
theorem Gf{op:BinOp}{t:TypeId}{a b:ByteArray}{w:World}{g:Gh}{K:DV→Prop}(h:gO op a b K):∃d u,(binOp op t (.string a) (.string b)).run P w= .ok u w∧aG g d u∧K d:=by
 cases op <;>simp only[gO]at h
 case add=>
  refine⟨_,_,?_,.v _ rfl,h.2⟩;have hm:IntKind.i64.max=9223372036854775807:=by decide
  have:¬(((a.size+b.size:Nat):Int)>IntKind.i64.max):=by rw[hm];omega
  simp only[binOp,Op.stringOp,this,if_false];rfl
 all_goals exact⟨_,_,by simp[binOp,Op.stringOp,ByteArray.toList_eq,HW],.v _ rfl,h⟩
theorem Jt{P:Program}{t:TypeId}(h:tk P t= .one):P.underlying t=some .bool:=by
 unfold tk at h;split at h <;>(try split at h) <;>(try cases h) <;>assumption
theorem xj{P:Program}{t:TypeId}{ms:List String}(h:tk P t= .jM ms):∃m,P.underlying t=some (.interface m):=by
 unfold tk at h;split at h <;>(try split at h) <;>(try cases h);exact⟨_,by assumption⟩
theorem xi{P:Program}{t:TypeId}{e:Nat}(h:tk P t= .ptr e):P.underlying t=some (.pointer e):=by
 unfold tk at h;split at h <;>(try split at h) <;>(try cases h) <;>assumption
theorem vH{g:Gh}{d:DV}{u:Value}(r:aG g d u)(h:vp d=true):∃a,u= .pointer (some a):=by
 unfold vp at h;split at h
 ·exact⟨_,ay r⟩
 ·obtain⟨b,o,us,hv,_⟩:=qa r;exact⟨_,hv⟩
 ·obtain⟨b,q,c,hv,_⟩:=tP r;exact⟨_,hv⟩
 ·cases h
theorem iI{t:TypeId}(x y:Value):Op.equal t x y=Op.equalIn (9999+1) t x y:=rfl
theorem tv{t:TypeId}{a b:Bool}{w:World}(h:P.underlying t=some .bool):(Op.equal t (.bool a) (.bool b)).run P w= .ok (a==b) w:=by
 rw[iI,Op.equalIn,Sem.run_bind,run_underlying h];rfl
theorem zt{t:TypeId}{m:Array (String×TypeId)}{w:World}(h:P.underlying t=some (.interface m)):(Op.equal t .nilIface .nilIface).run P w= .ok true w:=by
 rw[iI,Op.equalIn,Sem.run_bind,run_underlying h];rfl
theorem zW{t tt:TypeId}{u:Value}{m:Array (String×TypeId)}{w:World}(h:P.underlying t=some (.interface m)):(Op.equal t (.iface tt u) .nilIface).run P w= .ok false w:=by
 rw[iI,Op.equalIn,Sem.run_bind,run_underlying h];rfl
theorem yE{t e:TypeId}{w:World}(h:P.underlying t=some (.pointer e)):(Op.equal t (.pointer none) (.pointer none)).run P w= .ok true w:=by
 rw[iI,Op.equalIn,Sem.run_bind,run_underlying h];rfl
theorem zn{t e:TypeId}{a:Addr}{w:World}(h:P.underlying t=some (.pointer e)):(Op.equal t (.pointer (some a)) (.pointer none)).run P w= .ok false w:=by
 rw[iI,Op.equalIn,Sem.run_bind,run_underlying h];rfl
theorem hZ{t:TypeId}{x y:Value}{b:Bool}{w:World}(e1:binOp .eql t x y=(do pure (.bool (←Op.equal t x y))))(e2:binOp .neq t x y=(do pure (.bool !(←Op.equal t x y))))(h:(Op.equal t x y).run P w= .ok b w):
 (binOp .eql t x y).run P w= .ok (.bool b) w∧(binOp .neq t x y).run P w= .ok (.bool !b) w:=
 ⟨by rw[e1];simp[h],by rw[e2];simp[h]⟩
theorem OZ{o:Oper}{op:BinOp}{t t':TypeId}{x y:Operand}(ho:o.op= .binOp op t x y t'){ρD:Operand→DV}{S:St}{K:DV→St→Prop}(h:lN op (tk P t) (xX x) (xX y) (ρD x) (ρD y) (K · S)):ak P w0 o ρD S K:=by
 refine bG fun g w ρ h1 h2=>?_;have hx:=h2 x (by simp[ho,Op.operands]);have hy:=h2 y (by simp[ho,Op.operands])
 have fin:∀{a b:Value},ρ x=a→ρ y=b→(eqGuard op t x y a b).run P w= .ok () w→(∃d u,(binOp op t a b).run P w= .ok u w∧aG g d u∧K d S)→∃d u,(execOp ρ o).run P w= .ok (.value u) w∧aG g d u∧K d S:=by
  rintro a b ha hb hg ⟨d,u,hr,hd,hk⟩;exact⟨d,u,by simp[execOp,ho,ha,hb,hg,hr],hd,hk⟩
 unfold lN at h;split at h
 ·rename_i k m k' n e1 e2;rw[e1]at hx;rw[e2]at hy;exact fin (ay hx) (ay hy) (bo (by simp) (by simp)) (Gu h.1 h.2)
 ·rename_i a b e1 e2;rw[e1]at hx;rw[e2]at hy;exact fin (ay hx) (ay hy) (bo (by simp) (by simp)) (Gf h)
 ·rename_i a b e1 e2;rw[e1]at hx;rw[e2]at hy;refine fin (ay hx) (ay hy) (bo (by simp) (by simp)) ?_;split at h
  ·rename_i hk;exact⟨_,_,(hZ rfl rfl (tv (Jt hk))).1,.v _ rfl,h⟩
  ·rename_i hk;exact⟨_,_,(hZ rfl rfl (tv (Jt hk))).2,.v _ rfl,h⟩
  ·exact h.elim
 ·rename_i e1 e2;rw[e1]at hx;rw[e2]at hy;split at h
  ·rename_i hk;obtain⟨m,hm⟩:=xj hk;exact fin (ay hx) (ay hy) (qY h.1) ⟨_,_,(hZ rfl rfl (zt hm)).1,.v _ rfl,h.2⟩
  ·rename_i hk;obtain⟨m,hm⟩:=xj hk;exact fin (ay hx) (ay hy) (qY h.1) ⟨_,_,(hZ rfl rfl (zt hm)).2,.v _ rfl,h.2⟩
  ·exact h.elim
 ·rename_i tt d e1 e2;rw[e1]at hx;rw[e2]at hy;obtain⟨u,hv,_⟩:=kN hx;split at h
  ·rename_i hk;obtain⟨m,hm⟩:=xj hk;exact fin hv (ay hy) (bo (by simp) (by simp)) ⟨_,_,(hZ rfl rfl (zW hm)).1,.v _ rfl,h⟩
  ·rename_i hk;obtain⟨m,hm⟩:=xj hk;exact fin hv (ay hy) (bo (by simp) (by simp)) ⟨_,_,(hZ rfl rfl (zW hm)).2,.v _ rfl,h⟩
  ·exact h.elim
 ·rename_i e1 e2;rw[e1]at hx;rw[e2]at hy;split at h
  ·rename_i hk;exact fin (ay hx) (ay hy) (bo (by simp) (by simp)) ⟨_,_,(hZ rfl rfl (yE (xi hk))).1,.v _ rfl,h⟩
  ·rename_i hk;exact fin (ay hx) (ay hy) (bo (by simp) (by simp)) ⟨_,_,(hZ rfl rfl (yE (xi hk))).2,.v _ rfl,h⟩
  ·exact h.elim
 ·rename_i e2 _;rw[e2]at hy;split at h
  ·rename_i hk;obtain⟨a,ha⟩:=vH hx h.1;exact fin ha (ay hy) (bo (by simp) (by simp)) ⟨_,_,(hZ rfl rfl (zn (xi hk))).1,.v _ rfl,h.2⟩
  ·rename_i hk;obtain⟨a,ha⟩:=vH hx h.1;exact fin ha (ay hy) (bo (by simp) (by simp)) ⟨_,_,(hZ rfl rfl (zn (xi hk))).2,.v _ rfl,h.2⟩
  ·exact h.elim
 ·exact h.elim
end
end Aml
namespace Aml
open Go Go.RowKit
section
variable {P:Program} {w0:W0}
def Db(op:UnOp)(x:DV)(K:DV→Prop):Prop:=match op,x with
 | .not,.v (.bool b)=>K (.v (.bool (!b)))
 | .neg,.v (.int k n)=>K (.v (.int k (k.wrap (0-n))))
 | .xor,.v (.int k n)=>K (.v (.int k (cZ .xor k (if k.signed then -1 else k.max) n)))
 |_,_=>False
theorem QZ{o:Oper}{op:UnOp}{t:TypeId}{x:Operand}(ho:o.op= .unOp op t x){ρD:Operand→DV}{S:St}{K:DV→St→Prop}(h:Db op (ρD x) (K · S)):ak P w0 o ρD S K:=by
 refine bG fun g w ρ h1 h2=>?_;have hx:=h2 x (by simp[ho,Op.operands]);unfold Db at h;split at h
 ·rename_i b e;rw[e]at hx;exact⟨_,_,by simp[execOp,ho,ay hx,Op.unary],.v _ rfl,h⟩
 ·rename_i k n e;rw[e]at hx;exact⟨.v (.int k (k.wrap (0-n))),.int k (k.wrap (0-n)),by simp[execOp,ho,ay hx,Op.unary,Op.intArith],.v _ rfl,h⟩
 ·rename_i k n e;rw[e]at hx;exact⟨.v (.int k (cZ .xor k (if k.signed then -1 else k.max) n)),.int k (cZ .xor k (if k.signed then -1 else k.max) n),by simp[execOp,ho,ay hx,Op.unary,Op.intBits,cZ],.v _ rfl,h⟩
 ·exact h.elim
def iY(a b:TK)(x:DV)(K:DV→Prop):Prop:=match a,b,x with
 | .int _,.int k,.v (.int _ n)=>K (.v (.int k (k.wrap n)))
 | .str,.str,.v (.string s)=>K (.v (.string s))
 | .int _,.str,.v (.int _ n)=>K (.v (.string (Utf8.encode n)))
 |_,_,_=>False
theorem Tl{o:Oper}{s d:TypeId}{x:Operand}(ho:o.op= .convert s d x){ρD:Operand→DV}{S:St}{K:DV→St→Prop}(h:iY (tk P s) (tk P d) (ρD x) (K · S)):ak P w0 o ρD S K:=by
 refine bG fun g w ρ h1 h2=>?_;have hx:=h2 x (by simp[ho,Op.operands]);unfold iY at h;split at h
 ·rename_i k' k k'' n e1 e2 e;rw[e]at hx;exact⟨_,_,by simp[execOp,ho,ay hx,convert,run_underlying (lG e1),run_underlying (lG e2),Conv.intToInt],.v _ rfl,h⟩
 ·rename_i s' e1 e2 e;rw[e]at hx;exact⟨_,_,by simp[execOp,ho,ay hx,convert,run_underlying (iX e1),run_underlying (iX e2)],.v _ rfl,h⟩
 ·rename_i k1 k2 n e1 e2 e;rw[e]at hx;exact⟨_,_,by simp[execOp,ho,ay hx,convert,run_underlying (lG e1),run_underlying (iX e2),Conv.intToString],.v _ rfl,h⟩
 ·exact h.elim
def jd(k:TK)(x i:DV)(K:DV→Prop):Prop:=match k,x,i with
 | .str,.v (.string s),.v (.int _ z)=>0≤z∧z<s.size∧∀c,s.data.toList[z.toNat]? =some c→K (.v (.int .u8 c.toNat))
 |_,_,_=>False
theorem O1{o:Oper}{t:TypeId}{x i:Operand}(ho:o.op= .index t x i){ρD:Operand→DV}{S:St}{K:DV→St→Prop}(h:jd (tk P t) (ρD x) (ρD i) (K · S)):ak P w0 o ρD S K:=by
 refine bG fun g w ρ h1 h2=>?_;have hx:=h2 x (by simp[ho,Op.operands]);have hi:=h2 i (by simp[ho,Op.operands]);unfold jd at h;split at h
 ·rename_i s k z e1 e2 e3;rw[e2]at hx;rw[e3]at hi;obtain⟨h0,hz,hK⟩:=h;have hlt:z.toNat<s.size:=by omega
  have hget:s[z.toNat]? =some s[z.toNat]:=by simp[hlt]
  exact⟨_,.int .u8 ((s[z.toNat]'hlt).toNat),by simp[execOp,ho,ay hx,ay hi,Instr.index,asIntOf,run_underlying (iX e1),h0,hlt],.v _ rfl,hK (s[z.toNat]'hlt) (by
   have:z.toNat<s.data.toList.length:=by simpa using hlt
   rw[aac this];simp;rfl)⟩
 ·exact h.elim
theorem Ka{o:Oper}{t:TypeId}{x:Operand}{f:Nat}(ho:o.op= .field t x f){ρD:Operand→DV}{S:St}{K:DV→St→Prop}(h:iB (tk P t) f (ρD x) (K · S)):ak P w0 o ρD S K:=by
 refine bG fun g w ρ h1 h2=>?_;have hx:=h2 x (by simp[ho,Op.operands]);unfold iB at h;split at h
 ·rename_i fs n hk;obtain⟨F,i,hu,hi,_,rfl,hall⟩:=DL hk;split at h
  ·rename_i off sz ag hf;rw[aaE]at hf;obtain⟨fd,hfd,hfe⟩:=aay.1 hf;simp only[acn]at hfe;obtain⟨rfl,rfl,rfl⟩:=hfe;have hF:F[f]? =some fd:=by simpa using hfd
   have hin:=hall fd (aaf hfd);split at h
   ·rename_i ds hx';rw[hx']at hx;obtain⟨us,hv,hr,hone⟩:=mJ hx;obtain⟨hle,h⟩:=h
    have run:∀u,(part fd.type us.toArray fd.offset).run P w= .ok u w→(execOp ρ o).run P w= .ok (.value u) w:=by
     intro u hp;simp[execOp,ho,hv,Instr.field,run_underlying hu,hF,asAgg,hp]
    split at h
    ·rename_i hag;exact⟨_,_,run _ (oJ hag hin.1),.agg _ _ ((hr.drop _).take _).len ((hr.drop _).take _).at_ (fun u hu=>hone u (acb (acC hu))),h⟩
    ·rename_i hag;split at h
     ·rename_i d hd;have hlt:fd.offset<us.length:=by rw[←hr.len];exact(aad.1 hd).1
      have hu':=aac hlt;exact⟨_,_,run _ (gR hag hin.2 hu'),hr.at_ _ _ _ hd hu',h⟩
     ·exact h.elim
   ·exact h.elim
  ·exact h.elim
 ·exact h.elim
def mR(d:Option DV)(z:Int)(K:Int→Prop):Prop:=match d with
 |none=>K z
 |some (.v (.int _ n))=>K n
 |_=>False
def ib(k:TK)(x:DV)(lo hi mx:Option DV)(K:DV→Prop):Prop:=match k,x with
 | .sl _ s _ true,.sl s' f xs=>(s'=s∨xs=[])∧mR lo 0 fun l=>mR hi xs.length fun h=>mR mx h fun m=>0≤l∧l≤h∧h≤m∧m≤xs.length∧
   K (.sl s (if mx.isSome then decide (m=h)else(f&&(hi.isNone||xs.isEmpty))) ((xs.take h.toNat).drop l.toNat))
 | .str,.v (.string s)=>mx.isNone=true∧mR lo 0 fun l=>mR hi s.size fun h=>0≤l∧l≤h∧h≤s.size∧K (.v (.string (s.extract l.toNat h.toNat)))
 | .sl _ s _ true,.v (.slice (some ⟨b,o,none⟩) n c)=>mR lo 0 fun l=>mR hi n fun h=>mR mx c fun m=>0≤l∧l≤h∧h≤m∧m≤c∧
   K (.v (.slice (some ⟨b,if m.toNat=l.toNat then o else o+l.toNat*s,none⟩) (h.toNat-l.toNat) (m.toNat-l.toNat)))
 | .ar n _ s _ _,.v (.pointer (some ⟨b,o,none⟩))=>0<s∧mR lo 0 fun l=>mR hi n fun h=>mR mx n fun m=>0≤l∧l≤h∧h≤m∧m≤n∧
   K (.v (.slice (some ⟨b,if m.toNat=l.toNat then o else o+l.toNat*s,none⟩) (h.toNat-l.toNat) (m.toNat-l.toNat)))
 |_,_=>False
theorem fP{ρD:Operand→DV}{ρ:Operand→Value}{g:Gh}{x:Option Operand}{z:Int}{K:Int→Prop}(hr:∀y,x=some y→aG g (ρD y) (ρ y))(h:mR (x.map ρD) z K):
 (x=none∧K z)∨∃y k n,x=some y∧ρ y= .int k n∧K n:=by
 cases x with
 |none=>exact .inl ⟨rfl,h⟩
 |some y=>
  simp only[abH,mR]at h;have:=hr y rfl;split at h
  ·rename_i e;cases e
  ·rename_i k n e;simp only[abg]at e;rw[e]at this;exact .inr ⟨y,k,n,rfl,ay this,h⟩
  ·exact h.elim
theorem aC{k:IntKind}{i:Int}{y:Nat}{code:BoundsCode}{w:World}(h0:0≤i)(h1:i≤y):(Instr.sliceBound (.int k i) y code).run P w= .ok i.toNat w:=by
 simp[Instr.sliceBound,asIntOf,h0,h1]
theorem Pm{o:Oper}{t:TypeId}{x:Operand}{lo hi mx:Option Operand}(ho:o.op= .slice t x lo hi mx){ρD:Operand→DV}{S:St}{K:DV→St→Prop}
 (hh:mx.isSome=true→hi.isSome=true) (h:ib (tk P t) (ρD x) (lo.map ρD) (hi.map ρD) (mx.map ρD) (K · S)):ak P w0 o ρD S K:=by
 refine bG fun g w ρ h1 h2=>?_;have hx:=h2 x (by simp[ho,Op.operands]);have hlo:∀y,lo=some y→aG g (ρD y) (ρ y):=fun y e=>h2 y (by simp[ho,Op.operands,e]);have hhi:∀y,hi=some y→aG g (ρD y) (ρ y):=fun y e=>h2 y (by simp[ho,Op.operands,e]);have hmx:∀y,mx=some y→aG g (ρD y) (ρ y):=fun y e=>h2 y (by simp[ho,Op.operands,e]);unfold ib at h;split at h
 ·rename_i e s by' s' f xs hk hx';rw[hx']at hx;obtain⟨hu,hs,_,hei⟩:=dM hk
  have hsize:(Go.sizeOf e).run P w= .ok s w:=by
   obtain⟨j,z',hq,_,_,_⟩:=cI hei;unfold Program.cellsOf at hs;simp[hq]at hs;simp[Go.sizeOf,typeInfo,hq,hs]
  obtain⟨hst,h⟩:=h
  have main:∀(l hn m:Int) (c:Nat) (a:Option Addr),0≤l→l≤hn→hn≤m→ρ x= .slice a xs.length c→
   (Instr.sliceBounds true xs.length c (lo.map ρ) (hi.map ρ) (mx.map ρ)).run P w= .ok (l.toNat,hn.toNat,m.toNat) w→
   (execOp ρ o).run P w= .ok (.value (.slice (if m.toNat=l.toNat then a else a.map (·.add (l.toNat*s))) (hn.toNat-l.toNat) (m.toNat-l.toNat))) w:=by
   intro l hn m c a _ _ _ hv hb;simp[execOp,ho,hv,Instr.sliceAt,Instr.slice,run_underlying hu,hb,hsize]
  have res:∀(l hn:Int) (m c:Nat) (a:Option Addr) (ff:Bool),0≤l→l≤hn→hn≤m→m≤c→hn≤xs.length→(ff=true→m=hn.toNat)→ρ x= .slice a xs.length c→
   aG g (.sl s ff ((xs.take hn.toNat).drop l.toNat)) (.slice (if m=l.toNat then a else a.map (·.add (l.toNat*s))) (hn.toNat-l.toNat) (m-l.toNat)):=by
   intro l hn m c a ff h0 hlh hhm hmc hhl hff hv;by_cases hz:hn.toNat-l.toNat=0
   ·have hnil:(xs.take hn.toNat).drop l.toNat=[]:=by apply aa0;simp;omega
    rw[hnil,hz];exact .nil _ _ _ _ (fun hf=>by have:=hff hf;omega)
   ·have hne:m≠l.toNat:=by omega
    rw[if_neg hne];have hxne:xs≠[]:=by intro e;simp[e]at hhl;omega
    have hs':s'=s:=hst.resolve_right hxne;subst hs';rcases im hx with⟨he,_⟩|⟨b,o',c',us,hv',hr,hfl,hlc,hcm,hzz,hone,hc⟩
    ·exact absurd he hxne
    ·rw[hv]at hv';simp only[Value.slice.injEq,true_and]at hv';obtain⟨rfl,rfl⟩:=hv';have hlen:us.length=xs.length:=hr.len.symm;have hlen':((us.take hn.toNat).drop l.toNat).length=hn.toNat-l.toNat:=by simp;omega
     have hR:=(hr.take hn.toNat).drop l.toNat;simp only[abH,add_plain];rw[←hlen'];refine .sl _ _ _ _ _ _ _ hR.len (fun hf=>by rw[hlen'];have:=hff hf;omega) (by rw[hlen'];omega) (by omega) hR.at_ (fun i u hu=>?_) (fun u hu=>hone u (acC (acb hu))) (fun i u j x hu hj=>?_)
     ·rw[acm,acr]at hu;split at hu
      ·exact hzz _ _ hu
      ·cases hu
     ·rw[acm,acr]at hu;split at hu
      ·have:=hc _ _ _ _ hu hj;rw[adG]at this;rw[acw o' _ _,];simpa[acw]using this
      ·cases hu
  have hcap:∃a c,ρ x= .slice a xs.length c∧xs.length≤c∧(f=true→c=xs.length):=by
   rcases im hx with⟨he,o',c,hv,hf⟩|⟨b,o',c',us,hv',hr,hfl,hlc,hcm,hzz,hone,hc⟩
   ·exact⟨o',c,by rw[hv,he];rfl,by rw[he];simp,fun e=>by rw[he];simpa using hf e⟩
   ·exact⟨_,_,hv',hlc,hfl⟩
  obtain⟨a,c,hv,hlc,hfc⟩:=hcap;rcases fP hlo h with⟨el,ha⟩|⟨yl,kl,l,el,vl,ha⟩ <;>clear h <;>rcases fP hhi ha with⟨eh,hb⟩|⟨yh,kh,hn,eh,vh,hb⟩ <;>clear ha <;>rcases fP hmx hb with⟨em,hc⟩|⟨ym,km,m,em,vm,hc⟩ <;>clear hb <;>subst el <;>subst eh <;>subst em <;>(try (simp at hh;done))
  ·obtain⟨q1,q2,q3,q4,q5⟩:=hc;refine⟨_,_,main 0 xs.length c c a (by omega) (by omega) (by omega) hv (by simp[Instr.sliceBounds]),?_,q5⟩;exact res 0 xs.length c c a _ (by omega) (by omega) (by omega) (by omega) (by omega) (fun hf=>by simp at hf;have:=hfc hf;omega) hv
  ·obtain⟨q1,q2,q3,q4,q5⟩:=hc;refine⟨_,_,main 0 hn c c a (by omega) (by omega) (by omega) hv (by simp[Instr.sliceBounds,vh,aC q2 (show hn≤(c:Int)by omega)]),?_,q5⟩
   exact res 0 hn c c a _ (by omega) (by omega) (by omega) (by omega) (by omega) (fun hf=>by
    simp only[adP,abH,Option.map_none,Option.isNone_some,adn,aak,abQ,if_false,List.isEmpty_iff]at hf;have h1:=hfc hf.1;have h2:xs.length=0:=by rw[hf.2];rfl
    omega) hv
  ·obtain⟨q1,q2,q3,q4,q5⟩:=hc;refine⟨_,_,main 0 hn m c a (by omega) (by omega) (by omega) hv (by simp[Instr.sliceBounds,vh,vm,aC (show 0≤m by omega) (show m≤(c:Int)by omega),aC q2 (show hn≤((m.toNat:Nat):Int)by omega)]),?_,q5⟩;exact res 0 hn m.toNat c a _ (by omega) (by omega) (by omega) (by omega) (by omega) (fun hf=>by simp at hf;omega) hv
  ·obtain⟨q1,q2,q3,q4,q5⟩:=hc;refine⟨_,_,main l xs.length c c a (by omega) (by omega) (by omega) hv (by simp[Instr.sliceBounds,vl,aC q1 q2]),?_,q5⟩;exact res l xs.length c c a _ (by omega) (by omega) (by omega) (by omega) (by omega) (fun hf=>by simp at hf;have:=hfc hf;omega) hv
  ·obtain⟨q1,q2,q3,q4,q5⟩:=hc;refine⟨_,_,main l hn c c a (by omega) (by omega) (by omega) hv (by simp[Instr.sliceBounds,vl,vh,aC (show 0≤hn by omega) (show hn≤(c:Int)by omega),aC q1 (show l≤((hn.toNat:Nat):Int)by omega)]),?_,q5⟩
   exact res l hn c c a _ (by omega) (by omega) (by omega) (by omega) (by omega) (fun hf=>by
    simp only[adP,abH,Option.map_none,Option.isNone_some,adn,aak,abQ,if_false,List.isEmpty_iff]at hf;have h1:=hfc hf.1;have h2:xs.length=0:=by rw[hf.2];rfl
    omega) hv
  ·obtain⟨q1,q2,q3,q4,q5⟩:=hc;refine⟨_,_,main l hn m c a (by omega) (by omega) (by omega) hv (by simp[Instr.sliceBounds,vl,vh,vm,aC (show 0≤m by omega) (show m≤(c:Int)by omega),aC (show 0≤hn by omega) (show hn≤((m.toNat:Nat):Int)by omega),aC q1 (show l≤((hn.toNat:Nat):Int)by omega)]),?_,q5⟩;exact res l hn m.toNat c a _ (by omega) (by omega) (by omega) (by omega) (by omega) (fun hf=>by simp at hf;omega) hv
 ·rename_i s hk hx';rw[hx']at hx;obtain⟨hm,h⟩:=h;have em:mx=none:=by cases mx <;>simp_all
  subst em;have hu:=iX hk;rcases fP hlo h with⟨el,ha⟩|⟨yl,kl,l,el,vl,ha⟩ <;>clear h <;>rcases fP hhi ha with⟨eh,hb⟩|⟨yh,kh,hn,eh,vh,hb⟩ <;>clear ha <;>subst el <;>subst eh <;>obtain⟨q1,q2,q3,q4⟩:=hb
  ·exact⟨_,.string (s.extract (0:Int).toNat (s.size:Int).toNat),by simp[execOp,ho,ay hx,Instr.sliceAt,Instr.slice,run_underlying hu,Instr.sliceBounds],.v _ rfl,q4⟩
  ·exact⟨_,.string (s.extract (0:Int).toNat hn.toNat),by simp[execOp,ho,ay hx,Instr.sliceAt,Instr.slice,run_underlying hu,Instr.sliceBounds,vh,aC q2 q3],.v _ rfl,q4⟩
  ·exact⟨_,.string (s.extract l.toNat (s.size:Int).toNat),by simp[execOp,ho,ay hx,Instr.sliceAt,Instr.slice,run_underlying hu,Instr.sliceBounds,vl,aC q1 q2],.v _ rfl,q4⟩
  ·exact⟨_,.string (s.extract l.toNat hn.toNat),by simp[execOp,ho,ay hx,Instr.sliceAt,Instr.slice,run_underlying hu,Instr.sliceBounds,vl,vh,aC (show 0≤hn by omega) q3,aC q1 (show l≤((hn.toNat:Nat):Int)by omega)],.v _ rfl,q4⟩
 ·rename_i e s by' b o' n c hk hx';rw[hx']at hx;obtain⟨hu,hs,_,hei⟩:=dM hk
  have hsize:(Go.sizeOf e).run P w= .ok s w:=by
   obtain⟨j,z',hq,_,_,_⟩:=cI hei;unfold Program.cellsOf at hs;simp[hq]at hs;simp[Go.sizeOf,typeInfo,hq,hs]
  have hv:=ay hx
  have main:∀(l hn m:Int),0≤l→l≤hn→hn≤m→
   (Instr.sliceBounds true n c (lo.map ρ) (hi.map ρ) (mx.map ρ)).run P w= .ok (l.toNat,hn.toNat,m.toNat) w→
   (execOp ρ o).run P w= .ok (.value (.slice (some ⟨b,if m.toNat=l.toNat then o' else o'+l.toNat*s,none⟩) (hn.toNat-l.toNat) (m.toNat-l.toNat))) w:=by
   intro l hn m _ _ _ hb
   have e1:(if m.toNat=l.toNat then some (⟨b,o',none⟩:Addr)else(some (⟨b,o',none⟩:Addr)).map (·.add (l.toNat*s)))=some ⟨b,if m.toNat=l.toNat then o' else o'+l.toNat*s,none⟩:=by
    split
    ·rfl
    ·simp[Addr.add]
   rw[←e1];simp[execOp,ho,hv,Instr.sliceAt,Instr.slice,run_underlying hu,hb,hsize]
  rcases fP hlo h with⟨el,ha⟩|⟨yl,kl,l,el,vl,ha⟩ <;>clear h <;>rcases fP hhi ha with⟨eh,hb⟩|⟨yh,kh,hn,eh,vh,hb⟩ <;>clear ha <;>rcases fP hmx hb with⟨em,hc⟩|⟨ym,km,m,em,vm,hc⟩ <;>clear hb <;>subst el <;>subst eh <;>subst em <;>(try (simp at hh;done))
  ·obtain⟨q1,q2,q3,q4,q5⟩:=hc;exact⟨_,_,main 0 n c (by omega) (by omega) (by omega) (by simp[Instr.sliceBounds]),.v _ rfl,q5⟩
  ·obtain⟨q1,q2,q3,q4,q5⟩:=hc;exact⟨_,_,main 0 hn c (by omega) (by omega) (by omega) (by simp[Instr.sliceBounds,vh,aC q2 (show hn≤(c:Int)by omega)]),.v _ rfl,q5⟩
  ·obtain⟨q1,q2,q3,q4,q5⟩:=hc;exact⟨_,_,main 0 hn m (by omega) (by omega) (by omega) (by simp[Instr.sliceBounds,vh,vm,aC (show 0≤m by omega) (show m≤(c:Int)by omega),aC q2 (show hn≤((m.toNat:Nat):Int)by omega)]),.v _ rfl,q5⟩
  ·obtain⟨q1,q2,q3,q4,q5⟩:=hc;exact⟨_,_,main l n c (by omega) (by omega) (by omega) (by simp[Instr.sliceBounds,vl,aC q1 q2]),.v _ rfl,q5⟩
  ·obtain⟨q1,q2,q3,q4,q5⟩:=hc;exact⟨_,_,main l hn c (by omega) (by omega) (by omega) (by simp[Instr.sliceBounds,vl,vh,aC (show 0≤hn by omega) (show hn≤(c:Int)by omega),aC q1 (show l≤((hn.toNat:Nat):Int)by omega)]),.v _ rfl,q5⟩
  ·obtain⟨q1,q2,q3,q4,q5⟩:=hc;exact⟨_,_,main l hn m (by omega) (by omega) (by omega) (by simp[Instr.sliceBounds,vl,vh,vm,aC (show 0≤m by omega) (show m≤(c:Int)by omega),aC (show 0≤hn by omega) (show hn≤((m.toNat:Nat):Int)by omega),aC q1 (show l≤((hn.toNat:Nat):Int)by omega)]),.v _ rfl,q5⟩
 ·rename_i n e s ag nn b o' hk hx';rw[hx']at hx;obtain⟨ti,hu,_,_,hs,_⟩:=PZ hk;obtain⟨hpos,h⟩:=h;have hsize:(Go.sizeOf e).run P w= .ok s w:=tJ hs.symm hpos;have hv:=ay hx
  have main:∀(l hn m:Int),0≤l→l≤hn→hn≤m→
   (Instr.sliceBounds false n n (lo.map ρ) (hi.map ρ) (mx.map ρ)).run P w= .ok (l.toNat,hn.toNat,m.toNat) w→
   (execOp ρ o).run P w= .ok (.value (.slice (some ⟨b,if m.toNat=l.toNat then o' else o'+l.toNat*s,none⟩) (hn.toNat-l.toNat) (m.toNat-l.toNat))) w:=by
   intro l hn m _ _ _ hb
   have e1:(some (if m.toNat=l.toNat then(⟨b,o',none⟩:Addr)else(⟨b,o',none⟩:Addr).add (l.toNat*s)))=some ⟨b,if m.toNat=l.toNat then o' else o'+l.toNat*s,none⟩:=by
    split
    ·rfl
    ·simp[Addr.add]
   rw[←e1];simp[execOp,ho,hv,Instr.sliceAt,Instr.sureAddr,run_underlying hu,hb,hsize]
  rcases fP hlo h with⟨el,ha⟩|⟨yl,kl,l,el,vl,ha⟩ <;>clear h <;>rcases fP hhi ha with⟨eh,hb⟩|⟨yh,kh,hn,eh,vh,hb⟩ <;>clear ha <;>rcases fP hmx hb with⟨em,hc⟩|⟨ym,km,m,em,vm,hc⟩ <;>clear hb <;>subst el <;>subst eh <;>subst em <;>(try (simp at hh;done))
  ·obtain⟨q1,q2,q3,q4,q5⟩:=hc;exact⟨_,_,main 0 n n (by omega) (by omega) (by omega) (by simp[Instr.sliceBounds]),.v _ rfl,q5⟩
  ·obtain⟨q1,q2,q3,q4,q5⟩:=hc;exact⟨_,_,main 0 hn n (by omega) (by omega) (by omega) (by simp[Instr.sliceBounds,vh,aC q2 (show hn≤(n:Int)by omega)]),.v _ rfl,q5⟩
  ·obtain⟨q1,q2,q3,q4,q5⟩:=hc;exact⟨_,_,main 0 hn m (by omega) (by omega) (by omega) (by simp[Instr.sliceBounds,vh,vm,aC (show 0≤m by omega) (show m≤(n:Int)by omega),aC q2 (show hn≤((m.toNat:Nat):Int)by omega)]),.v _ rfl,q5⟩
  ·obtain⟨q1,q2,q3,q4,q5⟩:=hc;exact⟨_,_,main l n n (by omega) (by omega) (by omega) (by simp[Instr.sliceBounds,vl,aC q1 q2]),.v _ rfl,q5⟩
  ·obtain⟨q1,q2,q3,q4,q5⟩:=hc;exact⟨_,_,main l hn n (by omega) (by omega) (by omega) (by simp[Instr.sliceBounds,vl,vh,aC (show 0≤hn by omega) (show hn≤(n:Int)by omega),aC q1 (show l≤((hn.toNat:Nat):Int)by omega)]),.v _ rfl,q5⟩
  ·obtain⟨q1,q2,q3,q4,q5⟩:=hc;exact⟨_,_,main l hn m (by omega) (by omega) (by omega) (by simp[Instr.sliceBounds,vl,vh,vm,aC (show 0≤m by omega) (show m≤(n:Int)by omega),aC (show 0≤hn by omega) (show hn≤((m.toNat:Nat):Int)by omega),aC q1 (show l≤((hn.toNat:Nat):Int)by omega)]),.v _ rfl,q5⟩
 ·exact h.elim
end
end Aml
namespace Aml
open Go Go.RowKit
section
variable {P:Program} {w0:W0}
def pA(k:TK)(x:DV)(K:DV→Prop):Prop:=match k,x with
 | .sl _ _ _ _,.sl _ _ xs=>K (.v (.int .i64 xs.length))
 | .sl _ _ _ _,.acc _ n=>K (.v (.int .i64 n))
 | .str,.v (.string s)=>K (.v (.int .i64 s.size))
 | .sl _ _ _ _,.v (.slice _ n _)=>K (.v (.int .i64 n))
 |_,_=>False
theorem sM{g:Gh}{s:Nat}{f:Bool}{xs:List DV}{x:Value}(r:aG g (.sl s f xs) x):∃a c,x= .slice a xs.length c:=by
 rcases im r with⟨he,o',c,hv,hf⟩|⟨b,o',c',us,hv',_⟩
 ·exact⟨o',c,by rw[hv,he];rfl⟩
 ·exact⟨_,_,hv'⟩
theorem Vu{o:Oper}{t:TypeId}{x:Operand}(ho:o.op= .call {callee:= .builtin .len,args:= #[x],argTypes:= #[t]}){ρD:Operand→DV}{S:St}{K:DV→St→Prop}(h:pA (tk P t) (ρD x) (K · S)):ak P w0 o ρD S K:=by
 refine bG fun g w ρ h1 h2=>?_;have hx:=h2 x (by simp[ho,Op.operands,Call.operands]);unfold pA at h;split at h
 ·rename_i hk hx';rw[hx']at hx;obtain⟨a,c,hv⟩:=sM hx;exact⟨_,_,by simp[execOp,ho,resolve,invoke,builtin,hv,Builtin.len_,run_underlying (dM hk).1,goInt],.v _ rfl,h⟩
 ·rename_i hk hx';rw[hx']at hx;obtain⟨a,c,hv,_⟩:=fS hx;exact⟨_,_,by simp[execOp,ho,resolve,invoke,builtin,hv,Builtin.len_,run_underlying (dM hk).1,goInt],.v _ rfl,h⟩
 ·rename_i hk hx';rw[hx']at hx;exact⟨_,_,by simp[execOp,ho,resolve,invoke,builtin,ay hx,Builtin.len_,run_underlying (iX hk),goInt],.v _ rfl,h⟩
 ·rename_i hk hx';rw[hx']at hx;exact⟨_,_,by simp[execOp,ho,resolve,invoke,builtin,ay hx,Builtin.len_,run_underlying (dM hk).1,goInt],.v _ rfl,h⟩
 ·exact h.elim
def uf(x y:DV)(K:DV→Prop):Prop:=match x,y with
 | .v (.int k m),.v (.int k' n)=>K (.v (.int k (if n<m then n else m)))
 |_,_=>False
theorem VI{o:Oper}{ts:Array TypeId}{x y:Operand}(ho:o.op= .call {callee:= .builtin .min,args:= #[x,y],argTypes:=ts}){ρD:Operand→DV}{S:St}{K:DV→St→Prop}(h:uf (ρD x) (ρD y) (K · S)):ak P w0 o ρD S K:=by
 refine bG fun g w ρ h1 h2=>?_;have hx:=h2 x (by simp[ho,Op.operands,Call.operands]);have hy:=h2 y (by simp[ho,Op.operands,Call.operands]);unfold uf at h;split at h
 ·rename_i k m k' n e1 e2;rw[e1]at hx;rw[e2]at hy;exact⟨_,_,by simp[execOp,ho,resolve,invoke,builtin,ay hx,ay hy,Builtin.min_,Builtin.min2],.v _ rfl,h⟩
 ·exact h.elim
def tA(x y:DV)(K:DV→Prop):Prop:=match x,y with
 | .v (.int k m),.v (.int k' n)=>K (.v (.int k (if m<n then n else m)))
 |_,_=>False
theorem WM{o:Oper}{ts:Array TypeId}{x y:Operand}(ho:o.op= .call {callee:= .builtin .max,args:= #[x,y],argTypes:=ts}){ρD:Operand→DV}{S:St}{K:DV→St→Prop}(h:tA (ρD x) (ρD y) (K · S)):ak P w0 o ρD S K:=by
 refine bG fun g w ρ h1 h2=>?_;have hx:=h2 x (by simp[ho,Op.operands,Call.operands]);have hy:=h2 y (by simp[ho,Op.operands,Call.operands]);unfold tA at h;split at h
 ·rename_i k m k' n e1 e2;rw[e1]at hx;rw[e2]at hy;exact⟨_,.int k (if m<n then n else m),by simp[execOp,ho,resolve,invoke,builtin,ay hx,ay hy,Builtin.max_,Builtin.max2],.v _ rfl,h⟩
 ·exact h.elim
def notNil:DV→Bool
 | .v (.pointer (some _))=>true
 | .v (.func (.func _) _ _)=>true
 | .ip _=>true
 | .ap _ _ _ _ _=>true
 | .jM _ _=>true
 |_=>false
theorem C1{o:Oper}{x:Operand}(ho:o.op= .nilCheck x){ρD:Operand→DV}{S:St}{K:DV→St→Prop}(h:notNil (ρD x)=true∧K (ρD x) S):ak P w0 o ρD S K:=by
 refine bG fun g w ρ h1 h2=>?_;have hx:=h2 x (by simp[ho,Op.operands]);obtain⟨hn,hk⟩:=h;unfold notNil at hn;split at hn
 ·rename_i a e;rw[e]at hx hk;exact⟨_,_,by simp[execOp,ho,ay hx],.v _ rfl,hk⟩
 ·rename_i f a b e;rw[e]at hx hk;exact⟨_,_,by simp[execOp,ho,ay hx],.v _ rfl,hk⟩
 ·rename_i ds e;rw[e]at hx hk;obtain⟨b,o',us,hv,_⟩:=qa hx;exact⟨_,ρ x,by simp[execOp,ho,hv],hx,hk⟩
 ·rename_i e;rw[e]at hx hk;obtain⟨b,q,c,hv,_⟩:=tP hx;exact⟨_,ρ x,by simp[execOp,ho,hv],hx,hk⟩
 ·rename_i e;rw[e]at hx hk;obtain⟨u,hv,_⟩:=kN hx;exact⟨_,ρ x,by simp[execOp,ho,hv],hx,hk⟩
 ·cases hn
def rf:TK→Bool
 | .jM _=>true
 | .no=>true
 |_=>false
theorem vg{t:TypeId}(h:rf (tk P t)=false):∃d,P.underlying t=some d∧∀m,d≠ .interface m:=by
 unfold tk at h;split at h <;>(try split at h) <;>first|(cases h;done)|exact⟨_,by assumption,by simp⟩
def zD(P:Program)(t:TypeId):DV:=match(P.info? t).bind (·.zero)with
 |some z=>cv z
 |none=> .any
theorem xP{t:TypeId}{d:DV}(h:zD P t=d)(hd:eW d=true)(w:World):∃z,(zeroValue t).run P w= .ok z w∧∀g,aG g d z:=by
 unfold zD at h;split at h
 ·rename_i z hz;obtain⟨i,hi,hz'⟩:=acJ.1 hz;exact⟨z,by simp[zeroValue,typeInfo,hi,hz'],fun g=>h▸l8 g z⟩
 ·subst h;cases hd
def rJ(P:Program)(t:TypeId)(ok:Bool)(x:DV)(K:DV→Prop):Prop:=rf (tk P t)=false∧(match x with
 | .jM t' d=>(t'=t→(if ok then K (.cW [d,.v (.bool true)])else K d))∧(t'≠t→ok=true∧eW (zD P t)=true∧K (.cW [zD P t,.v (.bool false)]))
 | .v .nilIface=>ok=true∧eW (zD P t)=true∧K (.cW [zD P t,.v (.bool false)])
 |_=>False)
theorem o5{g:Gh}{d e:DV}{u v:Value}(h:aG g d u)(k:aG g e v):aG g (.cW [d,e]) (.tuple #[u,v]):=
 let r:=af.cons h (af.cons k (af.nil g))
 aG.cW (g:=g) [d,e] [u,v] r.len r.at_
theorem Ho{o:Oper}{t xT:TypeId}{ok:Bool}{x:Operand}(ho:o.op= .typeAssert x xT t ok){ρD:Operand→DV}{S:St}{K:DV→St→Prop}(h:rJ P t ok (ρD x) (K · S)):ak P w0 o ρD S K:=by
 refine bG fun g w ρ h1 h2=>?_;have hx:=h2 x (by simp[ho,Op.operands]);obtain⟨hi,h⟩:=h;obtain⟨dd,hu,hd⟩:=vg hi;split at h
 ·rename_i t' d e;rw[e]at hx;obtain⟨u,hv,hr⟩:=kN hx;by_cases ht:t'=t
  ·have h:=h.1 ht;cases ok
   ·refine⟨d,u,?_,hr,h⟩;cases dd <;>first|exact absurd rfl (hd _)|simp[execOp,ho,Instr.typeAssert,run_underlying hu,hv,ht]
   ·refine⟨_,_,?_,o5 hr (.v (.bool true) rfl),h⟩;cases dd <;>first|exact absurd rfl (hd _)|simp[execOp,ho,Instr.typeAssert,run_underlying hu,hv,ht]
  ·obtain⟨rfl,hz,h⟩:=h.2 ht;obtain⟨z,hzr,hzz⟩:=xP (P:=P) rfl hz w;refine⟨_,_,?_,o5 (hzz g) (.v (.bool false) rfl),h⟩;cases dd <;>first|exact absurd rfl (hd _)|simp[execOp,ho,Instr.typeAssert,run_underlying hu,hv,ht,hzr]
 ·rename_i e;rw[e]at hx;obtain⟨rfl,hz,h⟩:=h;obtain⟨z,hzr,hzz⟩:=xP (P:=P) rfl hz w;refine⟨_,_,?_,o5 (hzz g) (.v (.bool false) rfl),h⟩;cases dd <;>first|exact absurd rfl (hd _)|simp[execOp,ho,Instr.typeAssert,run_underlying hu,ay hx,hzr]
 ·exact h.elim
def gn(ds:List DV)(o:Nat):List DV→List DV
 |[]=>ds
 |c::cs=>gn (ds.set o c) (o+1) cs
def aO(ds:List Value)(o:Nat):List Value→List Value
 |[]=>ds
 |c::cs=>aO (ds.set o c) (o+1) cs
theorem jj{g:Gh}:∀{cs:List DV} {vs:List Value} {ds:List DV} {us:List Value} {o:Nat},af g ds us→af g cs vs→af g (gn ds o cs) (aO us o vs)
 |[],vs,ds,us,o,h,k=>by have:=k.len;cases vs with|nil=>exact h|cons _ _=>simp at this
 |c::cs,vs,ds,us,o,h,k=>by
  obtain⟨u,us',rfl,hu,hk⟩:=k.dJ;show af g (gn (ds.set o c) (o+1) cs) (aO (us.set o u) (o+1) us');exact jj (h.set o hu) hk
theorem mr(vs:List Value):∀(us:List Value) (o:Nat),(aO us o vs).length=us.length:=by
 induction vs with
 |nil=>intro us o;rfl
 |cons v vs ih=>intro us o;rw[aO,ih];simp
theorem jC(vs:List Value):∀(us:List Value) (o:Nat) (x:Value),x∈aO us o vs→x∈us∨x∈vs:=by
 induction vs with
 |nil=>intro us o x h;exact .inl h
 |cons v vs ih=>
  intro us o x h;rcases ih _ _ _ h with h|h
  ·rcases acN h with h|h
   ·exact .inl h
   ·exact .inr (by rw[h];exact aaQ)
  ·exact .inr (aat _ h)
def kj(fs:List (Nat×Nat×Bool))(ds:List DV):List (Nat×DV)→Option (List DV)
 |[]=>some ds
 |(i,d)::rest=>match fs[i]? with
  |none=>none
  |some (off,sz,_)=>if eW d&&(cd d).length==sz&&decide (off+sz≤ds.length)then kj fs (gn ds off (cd d)) rest else none
theorem DJ(off:Nat):∀(vs:List Value) (j:Nat) (cs:Array Value),(vs.zipIdx j).foldl (fun cs p=>cs.setIfInBounds (off+p.2) p.1) cs=(aO cs.toList (off+j) vs).toArray:=by
 intro vs
 induction vs with
 |nil=>intro j cs;simp[aO]
 |cons v vs ih=>
  intro j cs;simp only[List.zipIdx_cons,List.foldl_cons];rw[ih];simp[aO,acw]
theorem Du{g:Gh}{fs:List (Nat×Nat×Bool)}{places:Nat→Option (Nat×Nat)}(hp:∀i,places i=(fs[i]?).map fun p=>(p.1,p.2.1)):
 ∀(parts:List (Nat×DV)) (vs:List (Nat×Value)) (ds:List DV) (cs:Array Value) (out:List DV),parts.map (·.1)=vs.map (·.1)→af g (parts.map (·.2)) (vs.map (·.2))→af g ds cs.toList→(∀u,u∈cs.toList→u.oneCell'=true)→
  kj fs ds parts=some out→∃cs',Instr.fill places cs vs=some cs'∧af g out cs'.toList∧∀u,u∈cs'.toList→u.oneCell'=true
 |[],vs,ds,cs,out,h1,h2,h3,h4,h=>by
  cases vs with
  |nil=>simp only[kj,abg]at h;subst h;exact⟨cs,rfl,h3,h4⟩
  |cons _ _=>simp at h1
 |(i,d)::parts,vs,ds,cs,out,h1,h2,h3,h4,h=>by
  cases vs with
  |nil=>simp at h1
  |cons p vs=>
   obtain⟨j,v⟩:=p;simp only[abB,adz]at h1;obtain⟨rfl,h1⟩:=h1;obtain⟨u,us',he,hd,h2⟩:=af.dJ (ds:=parts.map (·.2)) (d:=d) (by simpa using h2);simp only[adz]at he;obtain⟨rfl,rfl⟩:=he;simp only[kj]at h
   cases hf:fs[i]? with
   |none=>simp[hf]at h
   |some q=>
    obtain⟨off,sz,ag⟩:=q;simp only[hf]at h;split at h
    ·rename_i hc;simp only[aak,beq_iff_eq,decide_eq_true_eq]at hc;obtain⟨⟨hok,hsz⟩,hle⟩:=hc;have hcl:=hd.cells hok;have hlen:v.cells.size=sz:=by have:=hcl.len;rw[hsz]at this;simpa using this.symm
     have hcs:cs.size=ds.length:=by have:=h3.len;simpa using this.symm
     have hfold:v.cells.zipIdx.foldl (fun cs (c,j)=>cs.setIfInBounds (off+j) c) cs=(aO cs.toList off v.cells.toList).toArray:=by
      have:=DJ off v.cells.toList 0 cs;rw[←Array.foldl_toList,Array.toList_zipIdx];simpa using this
     have step:Instr.fill places cs ((i,v)::vs)=Instr.fill places (aO cs.toList off v.cells.toList).toArray vs:=by
      rw[Instr.fill,hp i,hf];simp only[abH];rw[if_neg (by simp[hlen];omega)];rw[hfold]
     rw[step];refine Du hp parts vs _ _ out h1 h2 (jj h3 hcl) ?_ h;intro u hu;rcases jC _ _ _ _ hu with hu|hu
     ·exact h4 u hu
     ·exact hd.one hok u hu
    ·cases h
def eS(P:Program)(t:TypeId)(parts:List (Nat×DV))(K:DV→Prop):Prop:=match tk P t,zD P t with
 | .st fs _,.agg zs=>match kj fs zs parts with
  |some ds=>K (.agg ds)
  |none=>False
 |_,_=>False
theorem jx{g:Gh}{ρD:Operand→DV}{ρ:Operand→Value}:∀(l:List (Nat×Operand)),(∀p,p∈l→aG g (ρD p.2) (ρ p.2))→af g (l.map fun p=>ρD p.2) (l.map fun p=>ρ p.2)
 |[],_=>af.nil g
 |p::l,h=>af.cons (h p aaQ) (jx l fun q hq=>h q (aat _ hq))
theorem sk{g:Gh}{w:World}{t:TypeId}{parts:List (Nat×DV)}{vs:List (Nat×Value)}(hx:parts.map (·.1)=vs.map (·.1))(hR:af g (parts.map (·.2)) (vs.map (·.2))){K:DV→Prop}(h:eS P t parts K):
 ∃d u,(Instr.build t vs.toArray).run P w= .ok u w∧aG g d u∧K d:=by
 unfold eS at h;split at h
 ·rename_i fs n zs hk hz;obtain⟨F,i,hu,hi,_,rfl,hall⟩:=DL hk;split at h
  ·rename_i ds hf;unfold zD at hz;split at hz
   ·rename_i z hzz;simp only[hi,Option.bind_some]at hzz;have hrz:=l8 g z;rw[hz]at hrz;obtain⟨us,hzv,hr,hone⟩:=mJ hrz
    have hpl:F.toList.mapM (fun f=>(P.info? f.type).map fun i=>(f.offset,i.size))=some (F.toList.map fun f=>(f.offset,P.cellsOf f.type)):=by
     have:∀(l:List Field),(∀f,f∈l→(P.info? f.type).isSome=true)→l.mapM (fun f=>(P.info? f.type).map fun i=>(f.offset,i.size))=some (l.map fun f=>(f.offset,P.cellsOf f.type)):=by
      intro l
      induction l with
      |nil=>intro _;rfl
      |cons f l ih=>
       intro hl;have hf:=hl f aaQ;obtain⟨j,hj⟩:=acF.1 hf;simp[List.mapM_cons,hj,ih (fun f hf=>hl f (aat _ hf)),Program.cellsOf]
     exact this _ fun f hf=>(hall f hf).1
    obtain⟨cs',hfill,hrep,hone'⟩:=Du (g:=g) (fs:=F.toList.map fun f=>(f.offset,P.cellsOf f.type,eM P f.type)) (places:=((F.toList.map fun f=>(f.offset,P.cellsOf f.type)).toArray[·]?))
     (by intro i;simp[Function.comp_def]) parts vs zs us.toArray ds hx hR (by simpa using hr) (by simpa using hone) hf
    have hb:P.built t vs=some cs':=by
     unfold Program.built;simp only[hi,hu,hzz,hpl,hzv,Value.cells];exact hfill
    have hrun:=run_build (P:=P) w t vs.toArray cs' (by simpa using hb);refine⟨.agg ds,.agg cs',hrun,?_,h⟩;have:=aG.agg (g:=g) ds cs'.toList hrep.len hrep.at_ hone';simpa using this
   ·cases hz
  ·exact h.elim
 ·exact h.elim
def cU:List DV→Option (List Value)
 |[]=>some []
 | .v u::ds=>(cU ds).map (u::·)
 |_::_=>none
theorem sN{g:Gh}:∀{ds:List DV} {us vs:List Value},cU ds=some vs→af g ds us→us=vs
 |[],us,vs,h,r=>by simp only[cU,abg]at h;subst h;have:=r.len;cases us <;>simp_all
 |d::ds,us,vs,h,r=>by
  obtain⟨u,us',rfl,hu,hr⟩:=r.dJ;unfold cU at h;split at h
  ·rename_i e;cases e
  ·rename_i u' ds' e;simp only[adz]at e;obtain⟨rfl,rfl⟩:=e;obtain⟨vs',hv,rfl⟩:=aay.1 h;rw[ay hu,sN hv hr]
  ·cases h
def mn(fn:Fn)(a b:List DV)(K:DV→Prop):Prop:=match cU a,cU b with
 |some us,some vs=>K (.v (.func fn us.toArray vs.toArray))
 |_,_=>False
theorem cR{g:Gh}{ρD:Operand→DV}{ρ:Operand→Value}:∀(l:List Operand),(∀p,p∈l→aG g (ρD p) (ρ p))→af g (l.map ρD) (l.map ρ)
 |[],_=>af.nil g
 |p::l,h=>af.cons (h p aaQ) (cR l fun q hq=>h q (aat _ hq))
theorem BB{o:Oper}{fn:Fn}{a b:List Operand}(ho:o.op= .makeFunc fn a.toArray b.toArray){ρD:Operand→DV}{S:St}{K:DV→St→Prop}(h:mn fn (a.map ρD) (b.map ρD) (K · S)):ak P w0 o ρD S K:=by
 refine bG fun g w ρ h1 h2=>?_;have ha:=cR (g:=g) (ρD:=ρD) (ρ:=ρ) a (fun p hp=>h2 p (by simp[ho,Op.operands,hp]));have hb:=cR (g:=g) (ρD:=ρD) (ρ:=ρ) b (fun p hp=>h2 p (by simp[ho,Op.operands,hp]));unfold mn at h;split at h
 ·rename_i us vs e1 e2;have ea:=sN e1 ha;have eb:=sN e2 hb;exact⟨_,_,by simp[execOp,ho,Instr.makeFunc,ea,eb],.v _ rfl,h⟩
 ·exact h.elim
end
end Aml
namespace Aml
open Go Go.RowKit
def Gh.bp(g:Gh)(b:Nat)(f:Nat→Option Value):Gh:={g with aY:=fun b' i=>if b'=b then f i else g.aY b' i}
def Gh.aU(g:Gh)(l n:Nat)(u:Value):Gh:={g with acc:=fun l' n'=>if l'=l∧n'=n then some u else g.acc l' n'}
theorem Gh.iM{g:Gh}{b:Nat}{f:Nat→Option Value}(h:∀i u,g.aY b i=some u→f i=some u):g.le (g.bp b f):=
 ⟨fun b' i u hu=>by simp only[Gh.bp];split <;>simp_all,fun _ _ _ hu=>hu,rfl,rfl⟩
theorem Gh.kq{g:Gh}{l n:Nat}{u:Value}(h:g.acc l n=none∨g.acc l n=some u):g.le (g.aU l n u):=
 ⟨fun _ _ _ hu=>hu,fun l' n' u' hu=>by
  simp only[Gh.aU];split
  ·rename_i e;obtain⟨rfl,rfl⟩:=e;rcases h with h|h <;>simp_all
  ·exact hu,rfl,rfl⟩
def fl(us:List Value):List Value:=us.flatMap fun u=>u.cells.toList
theorem iR{s:Nat}:∀{us:List Value},(∀(i:Nat) (u:Value),us[i]? =some u→u.cells.size=s)→(fl us).length=us.length*s
 |[],_=>by simp[fl]
 |u::us,h=>by
  have h0:=h 0 u (by simp);have ih:=iR (us:=us) (s:=s) fun i v hv=>h (i+1) v (by simpa using hv);simp only[fl,adV,aaK,aaW]at ih ⊢;rw[ih];simp[h0,acA,ac2]
theorem Jg{s:Nat}:∀{us:List Value},(∀(i:Nat) (u:Value),us[i]? =some u→u.cells.size=s)→∀{k:Nat} {v:Value},(fl us)[k]? =some v→∃(i:Nat) (u:Value) (j:Nat),us[i]? =some u∧u.cells[j]? =some v∧k=i*s+j
 |[],_,k,v,h=>by simp[fl]at h
 |u::us,hz,k,v,h=>by
  have h0:=hz 0 u (by simp);simp only[fl,adV]at h;by_cases hk:k<u.cells.toList.length
  ·rw[abE hk]at h;exact⟨0,u,k,by simp,by simpa using h,by simp⟩
  ·rw[abl (by omega)]at h;obtain⟨i,u',j,h1,h2,h3⟩:=Jg (us:=us) (s:=s) (fun i v hv=>hz (i+1) v (by simpa using hv)) h;refine⟨i+1,u',j,by simpa using h1,h2,?_⟩;have:u.cells.toList.length=s:=by simpa using h0
   rw[acA];omega
theorem H7{s:Nat}:∀{us:List Value},(∀(i:Nat) (u:Value),us[i]? =some u→u.cells.size=s)→∀{i:Nat} {u:Value} {j:Nat} {v:Value},us[i]? =some u→u.cells[j]? =some v→(fl us)[i*s+j]? =some v
 |[],_,i,u,j,v,h,_=>by simp at h
 |u0::us,hz,i,u,j,v,h,hj=>by
  have h0:=hz 0 u0 (by simp);have hl:u0.cells.toList.length=s:=by simpa using h0
  simp only[fl,adV]
  cases i with
  |zero=>
   simp at h;subst h;have:j<u0.cells.toList.length:=by simpa using(aaq.1 hj).1
   rw[Nat.zero_mul,acE,abE this];simpa using hj
  |succ i=>
   have:=H7 (us:=us) (s:=s) (fun i v hv=>hz (i+1) v (by simpa using hv)) (i:=i) (by simpa using h) hj;rw[abl (by rw[hl,acA];omega),hl];rw[show(i+1)*s+j-s=i*s+j by rw[acA];omega];exact this
theorem pL{us:List Value}(h:∀(u:Value),u∈us→∀x,x∈u.cells.toList→x.oneCell'=true):∀x,x∈fl us→x.oneCell'=true:=by
 intro x hx;obtain⟨u,hu,hx⟩:=List.mem_flatMap.1 hx;exact h u hu x hx
section
variable {P:Program} {w0:W0}
theorem ir.step{ow ow':Nat→Option Key}{B:Nat}{g g':Gh}{w w':World}{l:Nat}{o:Ob}(h:ir ow B g w l o)(hg:g.le g')
 (how:∀b,ow b=some (.a l)→ow' b=some (.a l)∧w'.heap[b]? =w.heap[b]? ∧∀i,g.aY b i=none→g'.aY b i=none):ir ow' B g' w' l o:=by
 cases o with
 |arr s xs=>
  obtain⟨hs,⟨he,o,ha⟩|⟨b,c,cs,e,h1,h2,h3,h4,h5,h6,h7,h8,hA,us,h9,h10,h11,h12⟩⟩:=h
  ·exact⟨hs,.inl ⟨he,o,hg.acc _ _ _ ha⟩⟩
  ·obtain⟨q1,q2,q3⟩:=how b h2;exact⟨hs,.inr ⟨b,c,cs,e,hg.acc _ _ _ h1,q1,h3,fun i=>q3 i (h4 i),by rw[q2];exact h5,h6,h7,h8,hA,us,h9.mono hg,h10,h11,h12⟩⟩
 |tl s xs=>
  obtain⟨hs,⟨u,ha,r⟩|⟨b,c,cs,e,h1,h2,h3,h4,h5,h6,h7,h8,h9⟩⟩:=h
  ·exact⟨hs,.inl ⟨u,hg.acc _ _ _ ha,r.mono hg⟩⟩
  ·obtain⟨q1,q2,q3⟩:=how b h2;exact⟨hs,.inr ⟨b,c,cs,e,hg.acc _ _ _ h1,q1,h3,fun i hi=>q3 i (h4 i hi),by rw[q2];exact h5,h6,h7,h8,h9.mono hg⟩⟩
 |xo f=>
  obtain⟨b,o,h1,h2,h3,h4,h5,h6⟩:=h;obtain⟨q1,q2,q3⟩:=how b h2;exact⟨b,o,hg.acc _ _ _ h1,q1,h3,fun i=>q3 i (h4 i),by rw[q2];exact h5,h6.mono hg⟩
 |sb T e bs pin=>
  obtain⟨⟨b,p,v,h1,h2,h3,h4,h5,h6,h7⟩,hpin⟩:=h;obtain⟨q1,q2,q3⟩:=how b h2;refine⟨?_,fun k hk=>hg.acc _ _ _ (hpin k hk)⟩;refine⟨b,p,v,hg.acc _ _ _ h1,q1,h3,fun i=>q3 i (h4 i),by rw[q2];exact h5,h6,?_⟩;rcases h7 with h7|⟨r,c,cs,z,k1,k2,k3,k4,k5,k6,k7⟩
  ·exact .inl h7
  ·obtain⟨q1,q2,q3⟩:=how r k3;exact .inr ⟨r,c,cs,z,k1,k2,q1,k4,fun i=>q3 i (k5 i),by rw[q2];exact k6,k7⟩
def zG(ow:Nat→Option Key)(B:Nat)(g:Gh)(w:World)(b:Nat)(ds:List DV):Prop:=
 ow b=some (.b b)∧B≤b∧(∀i,g.aY b i=none)∧∃us e,w.heap[b]? =some (.cells us e (0,0))∧af g ds us.toList∧∀u,u∈us.toList→u.oneCell'=true
theorem zG.step{ow ow':Nat→Option Key}{B:Nat}{g g':Gh}{w w':World}{b:Nat}{ds:List DV}(h:zG ow B g w b ds)(hg:g.le g')
 (how:ow b=some (.b b)→ow' b=some (.b b)∧w'.heap[b]? =w.heap[b]? ∧∀i,g.aY b i=none→g'.aY b i=none):zG ow' B g' w' b ds:=by
 obtain⟨h1,h2,h3,us,e,h4,h5,h6⟩:=h;obtain⟨q1,q2,q3⟩:=how h1;exact⟨q1,h2,fun i=>q3 i (h3 i),us,e,by rw[q2];exact h4,h5.mono hg,h6⟩
theorem lt_of_heap{w:World}{b:Nat}{o:Obj}(h:w.heap[b]? =some o):b<w.heap.size:=(aaq.1 h).1
structure fp(w0:W0)(ow:Nat→Option Key)(g:Gh)(S:St)(w:World):Prop where
 below:dv w0 g w
 aY:∀b i u,g.aY b i=some u→w.cell? ⟨b,i,none⟩=some u
 nb:(S.box.map (·.1)).Nodup
 na:(S.acc.map (·.1)).Nodup
 eU:∀l n u,g.acc l n=some u→∃o c,u= .slice o n c∧(n=0∨∃b q,o=some ⟨b,q,none⟩)
 fresh:∃m,∀l n,m≤l→g.acc l n=none
 top:∀l o,(l,o)∈S.acc→∀k,o.len<k→g.acc l k=none
 box:∀b ds,(b,ds)∈S.box→zG ow w0.heap.size g w b ds
 acc:∀l o,(l,o)∈S.acc→ir ow w0.heap.size g w l o
 qh:∀b k,ow b=some k→b<w.heap.size
theorem Rel.open_{g:Gh}{S:St}{w:World}(h:Rel w0 g S w):∃ow,fp w0 ow g S w:=by
 obtain⟨ow,h1,h2⟩:=h.own;refine⟨fun b=>if b<w.heap.size then ow b else none,h.below,h.aY,h.nb,h.na,h.eU,h.fresh,h.top,fun b ds hb=>?_,fun l o ho=>?_,fun b k hk=>?_⟩
 ·have:=h1 b ds hb;have hlt:b<w.heap.size:=by obtain⟨_,_,_,us,e,hh,_⟩:=this;exact lt_of_heap hh
  exact zG.step (ow:=ow) (g:=g) (w:=w) this (.refl g) fun ho=>⟨(if_pos hlt).trans ho,rfl,fun i hi=>hi⟩
 ·have:=h2 l o ho
  cases o with
  |arr s xs=>
   obtain⟨hs,⟨he,o,ha⟩|⟨b,c,cs,e,q1,q2,q3,q4,q5,q6⟩⟩:=this
   ·exact⟨hs,.inl ⟨he,o,ha⟩⟩
   ·exact⟨hs,.inr ⟨b,c,cs,e,q1,(if_pos (lt_of_heap q5)).trans q2,q3,q4,q5,q6⟩⟩
  |tl s xs=>
   obtain⟨hs,h|⟨b,c,cs,e,q1,q2,q3,q4,q5,q6⟩⟩:=this
   ·exact⟨hs,.inl h⟩
   ·exact⟨hs,.inr ⟨b,c,cs,e,q1,(if_pos (lt_of_heap q5)).trans q2,q3,q4,q5,q6⟩⟩
  |xo f=>
   obtain⟨b,o,q1,q2,q3,q4,q5,q6⟩:=this;exact⟨b,o,q1,(if_pos (lt_of_heap q5)).trans q2,q3,q4,q5,q6⟩
  |sb T e bs pin=>
   obtain⟨⟨b,p,v,h1,h2,h3,h4,h5,h6,h7⟩,hpin⟩:=this;refine⟨?_,hpin⟩;refine⟨b,p,v,h1,(if_pos (lt_of_heap h5)).trans h2,h3,h4,h5,h6,?_⟩;rcases h7 with h7|⟨r,c,cs,z,k1,k2,k3,k4,k5,k6,k7⟩
   ·exact .inl h7
   ·exact .inr ⟨r,c,cs,z,k1,k2,(if_pos (lt_of_heap k6)).trans k3,k4,k5,k6,k7⟩
 ·split at hk
  ·assumption
  ·cases hk
theorem fp.close{ow:Nat→Option Key}{g:Gh}{S:St}{w:World}(h:fp w0 ow g S w):Rel w0 g S w:=
 ⟨h.below,h.aY,h.nb,h.na,h.eU,h.fresh,h.top,ow,h.box,h.acc⟩
theorem fp.PS{ow:Nat→Option Key}{g:Gh}{S:St}{w w':World}(h:fp w0 ow g S w)(k:Below w.heap.size w w')(hb:dv w0 g w'):fp w0 ow g S w' where
 below:=hb
 aY:=fun b i u hu=>(k.cell (p:=⟨b,i,none⟩) (World.block_lt_of_cell? w _ (h.aY b i u hu))).trans (h.aY b i u hu)
 nb:=h.nb
 na:=h.na
 eU:=h.eU
 fresh:=h.fresh
 top:=h.top
 box:=fun b ds hb=>(h.box b ds hb).step (.refl g) fun ho=>⟨ho,k.block b (h.qh _ _ ho),fun _ hi=>hi⟩
 acc:=fun l o ho=>(h.acc l o ho).step (.refl g) fun b hb=>⟨hb,k.block b (h.qh _ _ hb),fun _ hi=>hi⟩
 qh:=fun b k' hb=>acS (h.qh b k' hb) k.size
theorem fp.grow{ow:Nat→Option Key}{g:Gh}{S:St}{w w':World}(h:fp w0 ow g S w)(k:jh w.heap.size w w'):fp w0 ow g S w':=h.PS k.below (h.below.grow k)
theorem fp.Ay{ow:Nat→Option Key}{g:Gh}{S:St}{w w':World}(h:fp w0 ow g S w)(k:Below w.heap.size w w')(h0:w0.w.drawn=0):fp w0 ow g S w':=h.PS k (h.below.Ay k h0)
theorem Rel.Ay{g:Gh}{S:St}{w w':World}(h:Rel w0 g S w)(k:Below w.heap.size w w')(h0:w0.w.drawn=0):Rel w0 g S w':=
 let⟨_,h⟩:=h.open_
 (h.Ay k h0).close
theorem Rel.grow{g:Gh}{S:St}{w w':World}(h:Rel w0 g S w)(k:jh w.heap.size w w'):Rel w0 g S w':=
 let⟨_,h⟩:=h.open_
 (h.grow k).close
theorem fp.Vr{ow:Nat→Option Key}{g:Gh}{S:St}{w:World}(h:fp w0 ow g S w){b e:Nat}{cs:Array Value}{fr:Nat×Nat}(hb:w.heap[b]? =some (.cells cs e fr))(ho:ow b=none):fp w0 ow (g.bp b fun i=>cs[i]?) S w where
 below:=h.below.le (Gh.iM fun i u hu=>by have:=h.aY _ _ _ hu;rw[bS hb]at this;exact this)
 aY:=fun b' i u hu=>by
  simp only[Gh.bp]at hu;split at hu
  ·rename_i e;subst e;rw[bS hb];exact hu
  ·exact h.aY _ _ _ hu
 nb:=h.nb
 na:=h.na
 eU:=h.eU
 fresh:=h.fresh
 top:=h.top
 box:=fun b' ds hb'=>(h.box b' ds hb').step (Gh.iM fun i u hu=>by have:=h.aY _ _ _ hu;rw[bS hb]at this;exact this) fun ho'=>⟨ho',rfl,fun i hi=>by
  simp only[Gh.bp];split
  ·rename_i e;rw[e,ho]at ho';cases ho'
  ·exact hi⟩
 acc:=fun l o hl=>(h.acc l o hl).step (Gh.iM fun i u hu=>by have:=h.aY _ _ _ hu;rw[bS hb]at this;exact this) fun b' ho'=>⟨ho',rfl,fun i hi=>by
  simp only[Gh.bp];split
  ·rename_i e;rw[e,ho]at ho';cases ho'
  ·exact hi⟩
 qh:=h.qh
theorem Rel.LH{g:Gh}{S:St}{w w':World}(h:Rel w0 g S w)(k:jh w.heap.size w w'){b e:Nat}{cs:Array Value}{fr:Nat×Nat}(hge:w.heap.size≤b)(hb:w'.heap[b]? =some (.cells cs e fr)):
 g.le (g.bp b fun i=>cs[i]?)∧Rel w0 (g.bp b fun i=>cs[i]?) S w':=by
 obtain⟨ow,h⟩:=h.open_
 have hn:ow b=none:=by
  cases ho:ow b with
  |none=>rfl
  |some q=>have:=h.qh b q ho;omega
 have h':=h.grow k;exact⟨Gh.iM fun i u hu=>by have:=h'.aY _ _ _ hu;rw[bS hb]at this;exact this,(h'.Vr hb hn).close⟩
theorem Rel.xE{g:Gh}{S:St}{w w':World}(h:Rel w0 g S w)(k:jh w.heap.size w w'){b e:Nat}{us:Array Value}(hge:w.heap.size≤b)(hb:w'.heap[b]? =some (.cells us e (0,0))){ds:List DV}
 (hr:af g ds us.toList) (h1:∀u,u∈us.toList→u.oneCell'=true):(∀p,p∈S.box→p.1≠b)∧Rel w0 g ⟨(b,ds)::S.box,S.acc⟩ w':=by
 obtain⟨ow,h⟩:=h.open_
 have hn:ow b=none:=by
  cases ho:ow b with
  |none=>rfl
  |some q=>have:=h.qh b q ho;omega
 have h':=h.grow k
 have hne:∀p,p∈S.box→p.1≠b:=by
  rintro⟨b',ds'⟩ hp rfl;have:=(h.box _ _ hp).1;simp only at hn this;rw[hn]at this;cases this
 refine⟨hne,fp.close (ow:=fun x=>if x=b then some (.b b)else ow x) ⟨h'.below,h'.aY,?_,h'.na,h'.eU,h'.fresh,h'.top,?_,?_,?_⟩⟩
 ·simp only[abB,aaV];refine⟨fun hm=>?_,h'.nb⟩;obtain⟨p,hp,e⟩:=aaT.1 hm;exact hne p hp e
 ·intro b' ds' hm;rcases aaJ.1 hm with e|hm
  ·simp only[acn]at e;obtain⟨rfl,rfl⟩:=e;refine⟨by simp,ack h.below.size hge,fun i=>?_,us,e,hb,hr,h1⟩
   cases hi:g.aY b' i with
   |none=>rfl
   |some u=>have:=World.block_lt_of_cell? w _ (h.aY _ _ _ hi);simp at this;omega
  ·refine(h'.box b' ds' hm).step (.refl g) fun ho=>⟨?_,rfl,fun _ hi=>hi⟩;split
   ·rename_i e;subst e;exact absurd (hn.symm.trans ho) (by simp)
   ·exact ho
 ·intro l o hl;refine(h'.acc l o hl).step (.refl g) fun b' ho=>⟨?_,rfl,fun _ hi=>hi⟩;split
  ·rename_i e;subst e;exact absurd (hn.symm.trans ho) (by simp)
  ·exact ho
 ·intro b' q hq;split at hq
  ·rename_i e;subst e;exact lt_of_heap hb
  ·exact h'.qh _ _ hq
theorem Rel.xA{g:Gh}{S:St}{w:World}(h:Rel w0 g S w){b:Nat}{ds ds':List DV}(hb:lk S.box b=some ds):
 ∃us e,w.heap[b]? =some (.cells us e (0,0))∧af g ds us.toList∧(∀u,u∈us.toList→u.oneCell'=true)∧
  ∀us':Array Value,af g ds' us'.toList→(∀u,u∈us'.toList→u.oneCell'=true)→Rel w0 g ⟨up S.box b ds',S.acc⟩ (w.setRow b us'):=by
 obtain⟨ow,h⟩:=h.open_;have hm:=bV hb;obtain⟨o1,o2,o3,us,e,hh,hr,hone⟩:=h.box b ds hm;refine⟨us,e,hh,hr,hone,fun us' hr' hone'=>fp.close (ow:=ow) ⟨?_,?_,?_,h.na,h.eU,h.fresh,h.top,?_,?_,?_⟩⟩
 ·exact h.below.step ⟨rfl,rfl,rfl,by simp,fun k hk=>setRow_other w b k us' (by omega),aar _⟩ b (mf hh) fun k _ hne=>setRow_other w b k us' hne
 ·intro b' i u hu;have hne:b'≠b:=by rintro rfl;rw[o3]at hu;cases hu
  rw[cell_setRow_other w b us' _ hne];exact h.aY _ _ _ hu
 ·rw[mv];exact h.nb
 ·intro b' ds'' hm';rcases fy h.nb hm' with e'|⟨hm',hne⟩
  ·simp only[acn]at e';obtain⟨rfl,rfl⟩:=e';exact⟨o1,o2,o3,us',e,setRow_heap w b' us us' e (0,0) hh,hr',hone'⟩
  ·exact(h.box _ _ hm').step (.refl g) fun ho=>⟨ho,setRow_other w b b' us' hne,fun _ hi=>hi⟩
 ·intro l o hl;refine(h.acc l o hl).step (.refl g) fun b' ho=>⟨ho,setRow_other w b b' us' ?_,fun _ hi=>hi⟩;rintro rfl;rw[o1]at ho;cases ho
 ·intro b' q hq;simpa using h.qh b' q hq
theorem Rel.forget{g:Gh}{S S':St}{w:World}(h:Rel w0 g S w)(hb:S'.box.Sublist S.box)(ha:S'.acc.Sublist S.acc):Rel w0 g S' w:=by
 obtain⟨ow,h1,h2⟩:=h.own;exact⟨h.below,h.aY,h.nb.sublist (hb.map _),h.na.sublist (ha.map _),h.eU,h.fresh,fun l o hl=>h.top l o (ha.subset hl),ow,fun b ds hm=>h1 b ds (hb.subset hm),fun l o hm=>h2 l o (ha.subset hm)⟩
end
end Aml
namespace Aml
open Go Go.RowKit
section
variable {w0:W0}
theorem cO{g:Gh}{s:Nat}{u:Value}(r:aG g (.sl s true []) u):∃o,u= .slice o 0 0:=by
 rcases im r with⟨_,o,c,hv,hf⟩|⟨b,o,c,us,hv,_,hf,_⟩
 ·exact⟨o,by rw[hv,hf rfl]⟩
 ·exact⟨_,by rw[hv,hf rfl];rfl⟩
theorem ir.has{ow:Nat→Option Key}{B:Nat}{g:Gh}{w:World}{l:Nat}{o:Ob}(h:ir ow B g w l o):∃u,g.acc l o.len=some u:=by
 cases o with
 |arr s xs=>
  obtain⟨_,⟨he,o,ha⟩|⟨b,c,cs,e,h1,_⟩⟩:=h
  ·exact⟨_,by simpa[Ob.len,he]using ha⟩
  ·exact⟨_,h1⟩
 |tl s xs=>
  obtain⟨_,⟨u,ha,r⟩|⟨b,c,cs,e,h1,_⟩⟩:=h
  ·exact⟨_,ha⟩
  ·exact⟨_,h1⟩
 |xo f=>obtain⟨b,o,h1,_⟩:=h;exact⟨_,h1⟩
 |sb T e bs pin=>obtain⟨⟨b,p,v,h1,_⟩,_⟩:=h;exact⟨_,h1⟩
theorem Rel.pV{g:Gh}{S:St}{w:World}(h:Rel w0 g S w){s:Nat}(hs:0<s){xs:List DV}{u:Value}(r:aG g (.sl s true xs) u)(o:Ob)(ho:o= .tl s xs∨(o= .arr s xs∧xs=[])):
 ∃l g',g.le g'∧(∀p,p∈S.acc→p.1≠l)∧Rel w0 g' ⟨S.box,(l,o)::S.acc⟩ w∧aG g' (.acc l xs.length) u:=by
 obtain⟨ow,h⟩:=h.open_;obtain⟨m,hm⟩:=h.fresh;have hlen:o.len=xs.length:=by rcases ho with rfl|⟨rfl,_⟩ <;>rfl
 have hne:∀p,p∈S.acc→p.1≠m:=by
  rintro⟨l,o'⟩ hp rfl;obtain⟨u,hu⟩:=(h.acc _ _ hp).has;rw[hm _ _ (aar _)]at hu;cases hu
 obtain⟨a,c,hu⟩:=sM r;have hle:g.le (g.aU m xs.length u):=Gh.kq (.inl (hm _ _ (aar _)));have hself:(g.aU m xs.length u).acc m xs.length=some u:=by simp[Gh.aU]
 refine⟨m,g.aU m xs.length u,hle,hne,fp.close (ow:=ow) ⟨h.below.le hle,h.aY,h.nb,?_,?_,⟨m+1,?_⟩,?_,?_,?_,h.qh⟩,?_⟩
 ·simp only[abB,aaV];refine⟨fun hm'=>?_,h.na⟩;obtain⟨p,hp,e⟩:=aaT.1 hm';exact hne p hp e
 ·intro l n v hv;simp only[Gh.aU]at hv;split at hv
  ·rename_i e;obtain⟨rfl,rfl⟩:=e;simp only[abg]at hv;subst hv;rcases im r with⟨he,o',c',hv',_⟩|⟨b,o',c',us,hv',_⟩
   ·exact⟨o',c',by rw[hv',he];rfl,.inl (by rw[he];rfl)⟩
   ·exact⟨_,_,hv',.inr ⟨b,o',rfl⟩⟩
  ·exact h.eU _ _ _ hv
 ·intro l n hl;simp only[Gh.aU];split
  ·rename_i e;omega
  ·exact hm _ _ (by omega)
 ·intro l o' hl k hk;rcases aaJ.1 hl with e|hl
  ·simp only[acn]at e;obtain⟨rfl,rfl⟩:=e;simp only[Gh.aU];rw[if_neg (by omega)];exact hm _ _ (aar _)
  ·have:=hne _ hl;simp only[Gh.aU];rw[if_neg (fun e=>this e.1)];exact h.top _ _ hl k hk
 ·intro b ds hb;exact(h.box b ds hb).step hle fun x=>⟨x,rfl,fun _ hi=>hi⟩
 ·intro l o' hl;rcases aaJ.1 hl with e|hl
  ·simp only[acn]at e;obtain⟨rfl,rfl⟩:=e;rcases ho with rfl|⟨rfl,rfl⟩
   ·exact⟨hs,.inl ⟨u,hself,r.mono hle⟩⟩
   ·obtain⟨o'',ho''⟩:=cO r;exact⟨hs,.inl ⟨rfl,o'',by rw[←ho''];exact hself⟩⟩
  ·exact(h.acc l o' hl).step hle fun b x=>⟨x,rfl,fun _ hi=>hi⟩
 ·have r':=hself;rw[hu]at r' ⊢;exact .acc _ _ _ _ r'
def I7(ex:Bool)(s:Nat)(xs:List DV):Ob:=if ex then .arr s xs else .tl s xs
theorem Dq(ex:Bool)(s:Nat)(xs:List DV):(I7 ex s xs).len=xs.length:=by cases ex <;>rfl
theorem cj{z:Array Value}(h:∀x,x∈z.toList→x.oneCell'=true)(n:Nat):∀x,x∈(Builtin.zeroCells z n).toList→x.oneCell'=true:=fun x hx=>by
 unfold Builtin.zeroCells at hx;simp only[Array.toList_map,Array.toList_range,aaT,ace]at hx;obtain⟨k,hk,rfl⟩:=hx
 have hp:0<z.size:=by
  rcases Nat.eq_zero_or_pos z.size with e|e
  ·rw[e]at hk;simp at hk
  ·exact e
 rw[getElem!_pos z (k%z.size) (Nat.mod_lt _ hp)];exact h _ (Array.getElem_mem_toList _)
theorem fp.HN{ow:Nat→Option Key}{g:Gh}{S:St}{w w':World}(h:fp w0 ow g S w){l s:Nat}(hs:0<s){o:Ob}(hl:lk S.acc l=some o)(ex:Bool){xs:List DV}{us:List Value}
 {b c e:Nat} {cs:Array Value} (hlt:o.len<xs.length) (hw:w0.heap.size≤b) (hob:ow b=some (.a l)∨w.heap.size≤b) (hh:w'.heap[b]? =some (.cells cs e (0,0))) (hsz:cs.size=c*s) (hn:xs.length≤c) (hm:c≤maxLen)
 (hr:af g xs us) (hz:∀(i:Nat) (u:Value),us[i]? =some u→u.cells.size=s) (hone:∀(u:Value),u∈us→∀x,x∈u.cells.toList→x.oneCell'=true)
 (hc:∀(i:Nat) (u:Value) (j:Nat) (x:Value),us[i]? =some u→u.cells[j]? =some x→cs[i*s+j]? =some x) (hall:ex=true→∀x,x∈cs.toList→x.oneCell'=true)
 (himm:∀i u,g.aY b i=some u→ex=false∧i<xs.length*s∧cs[i]? =some u)
 (hbel:dv w0 g w') (hsize:w.heap.size≤w'.heap.size) (hsame:∀k,k<w.heap.size→k≠b→w'.heap[k]? =w.heap[k]?):
 ∃g',g.le g'∧Rel w0 g' ⟨S.box,up S.acc l (I7 ex s xs)⟩ w'∧aG g' (.acc l xs.length) (.slice (some ⟨b,0,none⟩) xs.length c):=by
 have hmem:=bV hl;let g1:=g.aU l xs.length (.slice (some ⟨b,0,none⟩) xs.length c)
 let g':=if ex then g1 else g1.bp b fun i=>if i<xs.length*s then cs[i]? else none
 have hle1:g.le g1:=Gh.kq (.inl (h.top _ _ hmem _ hlt))
 have hle:g.le g':=by
  show g.le (if ex then g1 else g1.bp b fun i=>if i<xs.length*s then cs[i]? else none);cases ex
  ·refine hle1.trans (Gh.iM fun i u hu=>?_);obtain⟨_,h1,h2⟩:=himm i u hu;rw[if_pos h1];exact h2
  ·exact hle1
 have hacc:∀l' n',g'.acc l' n'=g1.acc l' n':=by intro l' n';show(if ex then g1 else _).acc l' n'=_;cases ex <;>rfl
 have himm':∀b' i,b'≠b→g'.aY b' i=g.aY b' i:=by
  intro b' i hne;show(if ex then g1 else g1.bp b fun i=>if i<xs.length*s then cs[i]? else none).aY b' i=_;cases ex
  ·simp[Gh.bp,hne,g1,Gh.aU]
  ·rfl
 have hself:g'.acc l xs.length=some (.slice (some ⟨b,0,none⟩) xs.length c):=by rw[hacc];simp[g1,Gh.aU]
 have hnob:∀b',b'≠b→b'<w.heap.size→w'.heap[b']? =w.heap[b']? :=fun b' h1 h2=>hsame b' h2 h1
 have hbne:∀b' q,ow b'=some q→q≠ .a l→b'≠b:=by
  rintro b' q hq hne rfl;rcases hob with ho|ho
  ·rw[ho]at hq;exact hne (abR hq).symm
  ·have:=h.qh _ _ hq;omega
 refine⟨g',hle,fp.close (ow:=fun x=>if x=b then some (.a l)else ow x) ⟨hbel.le hle,?_,h.nb,?_,?_,?_,?_,?_,?_,?_⟩,.acc _ _ _ _ hself⟩
 ·intro b' i u hu;by_cases hb':b'=b
  ·subst hb';rw[bS hh];have hu':(if ex then g1 else g1.bp b' fun i=>if i<xs.length*s then cs[i]? else none).aY b' i=some u:=hu;cases ex
   ·simp only[abQ,if_false,Gh.bp,if_true]at hu';split at hu'
    ·exact hu'
    ·cases hu'
   ·have:=himm i u hu';exact absurd this.1 (by simp)
  ·rw[himm' b' i hb']at hu;have h1:=h.aY _ _ _ hu;have hblt:=World.block_lt_of_cell? w _ h1;have:=World.cell?_of_block (w:=w) (w':=w') (a:=⟨b',i,none⟩) (hnob b' hb' hblt);rw[this];exact h1
 ·rw[mv];exact h.na
 ·intro l' n v hv;rw[hacc]at hv;simp only[g1,Gh.aU]at hv;split at hv
  ·rename_i e;obtain⟨rfl,rfl⟩:=e;exact⟨_,_,(abR hv).symm,.inr ⟨b,0,rfl⟩⟩
  ·exact h.eU _ _ _ hv
 ·obtain⟨m,hm'⟩:=h.fresh;obtain⟨u,hu⟩:=(h.acc _ _ hmem).has
  have hlm:l<m:=by
   rcases abz l m with h'|h'
   ·exact h'
   ·rw[hm' _ _ h']at hu;cases hu
  refine⟨m,fun l' n hl'=>?_⟩;rw[hacc];simp only[g1,Gh.aU];rw[if_neg (by omega)];exact hm' _ _ hl'
 ·intro l' o' hl' k hk;rw[hacc];simp only[g1,Gh.aU];rcases fy h.na hl' with e|⟨hm',hne⟩
  ·simp only[acn]at e;obtain⟨rfl,rfl⟩:=e;rw[Dq]at hk;rw[if_neg (by omega)];exact h.top _ _ hmem k (by omega)
  ·rw[if_neg (fun e=>hne e.1)];exact h.top _ _ hm' k hk
 ·intro b' ds hb';have hob':=(h.box _ _ hb').1;have hne:=hbne b' _ hob' (by simp);refine(h.box b' ds hb').step hle fun x=>⟨(if_neg hne).trans x,hnob b' hne (h.qh _ _ x),fun i hi=>by rw[himm' b' i hne];exact hi⟩
 ·intro l' o' hl';rcases fy h.na hl' with e|⟨hm',hne⟩
  ·simp only[acn]at e;obtain⟨rfl,rfl⟩:=e;cases hex:ex
   ·refine⟨hs,.inr ⟨b,c,cs,e,hself,if_pos rfl,hw,fun i hi=>?_,hh,hsz,hn,hm,?_⟩⟩
    ·show(if ex then g1 else g1.bp b fun i=>if i<xs.length*s then cs[i]? else none).aY b i=none;rw[hex];simp only[abQ,if_false,Gh.bp,if_true];rw[if_neg (by omega)]
    ·have hl2:xs.length=us.length:=hr.len
     have:=aG.sl (g:=g') s false xs b 0 c us hl2 (by simp) (by omega) hm (hr.mono hle).at_ hz hone (fun i u j x h1 h2=>by
      show(if ex then g1 else g1.bp b fun i=>if i<xs.length*s then cs[i]? else none).aY b (0+i*s+j)=some x;rw[hex];simp only[abQ,if_false,Gh.bp,if_true,acE];have hi:i<us.length:=(aad.1 h1).1;have hj:j<s:=by rw[←hz i u h1];exact(aaq.1 h2).1
      have:i*s+j<xs.length*s:=by
       have h3:(i+1)*s≤xs.length*s:=ab9 s (by omega);rw[acA]at h3;omega
      rw[if_pos this];exact hc i u j x h1 h2)
     rw[←hl2]at this;exact this
   ·refine⟨hs,.inr ⟨b,c,cs,e,hself,if_pos rfl,hw,fun i=>?_,hh,hsz,hn,hm,hall hex,us,hr.mono hle,hz,hone,hc⟩⟩;show(if ex then g1 else g1.bp b fun i=>if i<xs.length*s then cs[i]? else none).aY b i=none;rw[hex]
    cases hi:g.aY b i with
    |none=>exact hi
    |some u=>have:=(himm i u hi).1;rw[hex]at this;cases this
  ·refine(h.acc l' o' hm').step hle fun b' ho=>?_;have hne':=hbne b' _ ho (by simp;exact hne);exact⟨(if_neg hne').trans ho,hnob b' hne' (h.qh _ _ ho),fun i hi=>by rw[himm' b' i hne'];exact hi⟩
 ·intro b' q hq;split at hq
  ·rename_i e;subst e;exact lt_of_heap hh
  ·exact acS (h.qh _ _ hq) hsize
end
end Aml
namespace Aml
open Go Go.RowKit
def jT{α:Type}:List (Nat×α)→Nat→Prop
 |[],_=>True
 |(k,_)::t,l=>¬k=l∧¬l=k∧jT t l
theorem cG{α:Type}{l:Nat}:∀{xs:List (Nat×α)},(∀p,p∈xs→p.1≠l)→jT xs l
 |[],_=>trivial
 |(k,x)::t,h=>⟨h _ aaQ,fun e=>h _ aaQ e.symm,cG fun p hp=>h p (aat _ hp)⟩
section
variable {P:Program} {w0:W0}
theorem cN(w:World)(o:Obj):jh w.heap.size w (w.alloc o):=(jh.refl _ _).alloc (aar _) o
theorem eK(w:World):jh w.heap.size w w.drew:=(jh.refl _ _).drew
theorem Wo{o:Oper}{t:TypeId}{x:Operand}(ho:o.op= .box t x){ρD:Operand→DV}{S:St}{K:DV→St→Prop}
 (h:eW (ρD x)=true∧∀b,jT S.box b→K (.v (.pointer (some ⟨b,0,none⟩))) ⟨(b,cd (ρD x))::S.box,S.acc⟩):ak P w0 o ρD S K:=by
 intro g w ρ h1 h2 hcst;have hx:=h2 x (by simp[ho,Op.operands]);obtain⟨hok,h⟩:=h
 have hrun:(execOp ρ o).run P w= .ok (.value (.pointer (some ⟨w.heap.size,0,none⟩))) (w.alloc (.cells (ρ x).cells t)):=by
  simp[execOp,ho,Instr.box,newVar,newRow]
 rw[hrun];obtain⟨hne,hR⟩:=h1.xE (cN w (.cells (ρ x).cells t)) (aar _) (heap_alloc_new w _) (hx.cells hok) (hx.one hok);exact⟨g,_,_,.refl g,hR,.v _ rfl,h _ (cG hne)⟩
theorem rN{o:Oper}{t:TypeId}(ho:o.op= .alloc t){ρD:Operand→DV}{S:St}{K:DV→St→Prop}
 (h:eW (zD P t)=true∧∀b,jT S.box b→K (.v (.pointer (some ⟨b,0,none⟩))) ⟨(b,cd (zD P t))::S.box,S.acc⟩):ak P w0 o ρD S K:=by
 intro g w ρ h1 h2 hcst;obtain⟨hok,h⟩:=h;obtain⟨z,hz,hr⟩:=xP (P:=P) rfl hok w
 have hrun:(execOp ρ o).run P w= .ok (.value (.pointer (some ⟨w.heap.size,0,none⟩))) (w.alloc (.cells z.cells t)):=by
  simp[execOp,ho,Instr.alloc,hz,newVar,newRow]
 rw[hrun];obtain⟨hne,hR⟩:=h1.xE (cN w (.cells z.cells t)) (aar _) (heap_alloc_new w _) ((hr g).cells hok) ((hr g).one hok);exact⟨g,_,_,.refl g,hR,.v _ rfl,h _ (cG hne)⟩
def ox(n:Nat)(S:St)(x y:DV)(K:St→Prop):Prop:=eW y=true∧(cd y).length=n∧(match x with
 | .v (.pointer (some ⟨b,o,none⟩))=>match lk S.box b with
  |some ds=>o+n≤ds.length∧K ⟨up S.box b (gn ds o (cd y)),S.acc⟩
  |none=>False
 |_=>False)
theorem dw:∀(vs us:List Value) (o:Nat),o+vs.length≤us.length→aO us o vs=us.take o++vs++us.drop (o+vs.length)
 |[],us,o,_=>by simp[aO]
 |v::vs,us,o,h=>by
  simp only[aaW]at h;rw[aO,dw vs (us.set o v) (o+1) (by simp;omega)]
  have h1:(us.set o v).take (o+1)=us.take o++[v]:=by
   rw[List.take_set,List.take_succ_eq_append_getElem (by omega),List.set_append_right _ _ (by simp;omega)];simp[adA (show o≤us.length by omega)]
  have h2:(us.set o v).drop (o+1+vs.length)=us.drop (o+(v::vs).length):=by
   rw[List.drop_set_of_lt (by omega)];simp only[aaW];congr 1;omega
  rw[h1,h2];simp
theorem MS{o:Oper}{t:TypeId}{x y:Operand}(ho:o.op= .store t x y){ρD:Operand→DV}{S:St}{K:DV→St→Prop}(hi:(P.info? t).isSome=true)(h:ox (P.cellsOf t) S (ρD x) (ρD y) (K ud)):ak P w0 o ρD S K:=by
 intro g w ρ h1 h2 hcst;have hx:=h2 x (by simp[ho,Op.operands]);have hy:=h2 y (by simp[ho,Op.operands]);obtain⟨hok,hlen,h⟩:=h;split at h
 ·rename_i b o' hx';rw[hx']at hx;split at h
  ·rename_i ds hb;obtain⟨hle,h⟩:=h;obtain⟨us,e,hh,hr,hone,hset⟩:=h1.xA (ds':=gn ds o' (cd (ρD y))) hb;have hcl:=hy.cells hok;have hvl:(ρ y).cells.toList.length=P.cellsOf t:=by rw[←hcl.len];exact hlen
   have hul:us.toList.length=ds.length:=hr.len.symm
   have hsize:(Go.sizeOf t).run P w= .ok (P.cellsOf t) w:=by
    obtain⟨i,hi⟩:=acF.1 hi;simp[Go.sizeOf,typeInfo,hi,Program.cellsOf]
   have hst:=run_storeCells_at (P:=P) b o' e (ρ y).cells.toList 0 us w hh (by rw[hvl];simp at hul;omega) (hy.one hok)
   have hrun:(execOp ρ o).run P w= .ok .skip (w.setRow b (aO us.toList o' (ρ y).cells.toList).toArray):=by
    have hne:(ρ y).cells.size=P.cellsOf t:=by simpa using hvl
    rw[dw _ _ _ (by rw[hvl,hul];exact hle)];simp only[adj]at hst;simp[execOp,ho,ay hx,Instr.storeAt,Instr.sureAddr,storeVar,hsize,hne,hst]
   rw[hrun];refine⟨g,_,.refl g,hset _ ?_ ?_,h⟩
   ·simpa using jj (o:=o') hr hcl
   ·intro u hu;simp only[]at hu;rcases jC _ _ _ _ hu with hu|hu
    ·exact hone u hu
    ·exact hy.one hok u hu
  ·exact h.elim
 ·exact h.elim
def nk(s:Nat)(ds:List DV):List (Nat×DV)→Option (List DV)
 |[]=>some ds
 |(i,d)::rest=>if eW d&&(cd d).length==s&&decide (i<ds.length)then nk s (ds.set i d) rest else none
def aW(k:TK)(z:DV)(len:Nat)(parts:List (Nat×DV))(K:DV→Prop):Prop:=match k with
 | .sl e s _ true=>eW z=true∧(cd z).length=s∧len*s≤16777216∧(match nk s (List.replicate len z) parts with
  |some xs=>K (.sl s true xs)
  |none=>False)
 |_=>False
theorem gP{vs us:List Value}{o k:Nat}(h:o+vs.length≤us.length):(aO us o vs)[k]? =if o≤k∧k<o+vs.length then vs[k-o]? else us[k]? :=by
 rw[dw vs us o h];by_cases h1:k<o
 ·rw[if_neg (by omega),acu,abE (by simp;omega),acr,if_pos h1]
 ·by_cases h2:k<o+vs.length
  ·rw[if_pos ⟨by omega,h2⟩,acu,abl (by simp;omega),abE (by simp;omega)];congr 1;simp;omega
  ·rw[if_neg (by omega),abl (by simp;omega),acm];congr 1;simp;omega
structure PW(s:Nat)(cs:List Value)(us:List Value):Prop where
 size:cs.length=us.length*s
 each:∀(i:Nat) (u:Value),us[i]? =some u→u.cells.size=s
 at_:∀(i:Nat) (u:Value) (j:Nat) (x:Value),us[i]? =some u→u.cells[j]? =some x→cs[i*s+j]? =some x
theorem lt_mul{i j n s:Nat}(h:i<n)(hj:j<s):i*s+j<n*s:=by
 have h3:(i+1)*s≤n*s:=ab9 s (by omega);rw[acA]at h3;omega
theorem PW.set{s:Nat}{cs us:List Value}(h:PW s cs us){i:Nat}(hi:i<us.length){v:Value}(hv:v.cells.size=s):PW s (aO cs (i*s) v.cells.toList) (us.set i v) where
 size:=by rw[mr];simpa using h.size
 each:=fun k u hk=>by
  rw[adC]at hk;by_cases hik:i=k
  ·rw[if_pos hik]at hk;subst hik;rw[if_pos hi]at hk;simp only[abg]at hk;subst hk;exact hv
  ·rw[if_neg hik]at hk;exact h.each k u hk
 at_:=fun k u j x hk hj=>by
  have hle:i*s+v.cells.toList.length≤cs.length:=by
   rw[h.size];have:(i+1)*s≤us.length*s:=ab9 s (by omega);rw[acA]at this;simpa[hv]using this
  have hvl:v.cells.toList.length=s:=by simpa using hv
  rw[gP hle,hvl];rw[adC]at hk;by_cases hik:i=k
  ·rw[if_pos hik]at hk;subst hik;rw[if_pos hi]at hk;simp only[abg]at hk;subst hk;have hjs:j<s:=by rw[←hv];exact(aaq.1 hj).1
   rw[if_pos ⟨by omega,by omega⟩];rw[show i*s+j-i*s=j by omega];simpa using hj
  ·rw[if_neg hik]at hk;have hjs:j<s:=by rw[←h.each k u hk];exact(aaq.1 hj).1
   have:¬(i*s≤k*s+j∧k*s+j<i*s+s):=by
    rintro⟨h1,h2⟩;rcases Nat.lt_or_gt_of_ne hik with h'|h'
    ·have:(i+1)*s≤k*s:=ab9 s (by omega);rw[acA]at this;omega
    ·have:(k+1)*s≤i*s:=ab9 s (by omega);rw[acA]at this;omega
   rw[if_neg this];exact h.at_ k u j x hk hj
theorem yW{g:Gh}{s:Nat}:∀(parts:List (Nat×DV)) (vs:List (Nat×Value)) (ds:List DV) (us:List Value) (cs:Array Value) (out:List DV),parts.map (·.1)=vs.map (·.1)→af g (parts.map (·.2)) (vs.map (·.2))→af g ds us→PW s cs.toList us→
 (∀(u:Value),u∈us→∀x,x∈u.cells.toList→x.oneCell'=true)→nk s ds parts=some out→
 ∃cs' us',Instr.fill (fun i=>some (i*s,s)) cs vs=some cs'∧af g out us'∧PW s cs'.toList us'∧(∀(u:Value),u∈us'→∀x,x∈u.cells.toList→x.oneCell'=true)∧out.length=ds.length
 |[],vs,ds,us,cs,out,h1,h2,h3,h4,h5,h=>by
  cases vs with
  |nil=>simp only[nk,abg]at h;subst h;exact⟨cs,us,rfl,h3,h4,h5,rfl⟩
  |cons _ _=>simp at h1
 |(i,d)::parts,vs,ds,us,cs,out,h1,h2,h3,h4,h5,h=>by
  cases vs with
  |nil=>simp at h1
  |cons p vs=>
   obtain⟨j,v⟩:=p;simp only[abB,adz]at h1;obtain⟨rfl,h1⟩:=h1;obtain⟨u,us',he,hd,h2⟩:=af.dJ (ds:=parts.map (·.2)) (d:=d) (by simpa using h2);simp only[adz]at he;obtain⟨rfl,rfl⟩:=he;simp only[nk]at h;split at h
   ·rename_i hc;simp only[aak,beq_iff_eq,decide_eq_true_eq]at hc;obtain⟨⟨hok,hsz⟩,hlt⟩:=hc;have hcl:=hd.cells hok;have hlen:v.cells.size=s:=by have:=hcl.len;rw[hsz]at this;simpa using this.symm
    have hlu:i<us.length:=by rw[←h3.len];exact hlt
    have hbound:i*s+s≤cs.size:=by
     have e:=h4.size;simp only[acs]at e;rw[e];have:(i+1)*s≤us.length*s:=ab9 s (by omega);rw[acA]at this;exact this
    have hfold:v.cells.zipIdx.foldl (fun cs (c,j)=>cs.setIfInBounds (i*s+j) c) cs=(aO cs.toList (i*s) v.cells.toList).toArray:=by
     have:=DJ (i*s) v.cells.toList 0 cs;rw[←Array.foldl_toList,Array.toList_zipIdx];simpa using this
    have step:Instr.fill (fun i=>some (i*s,s)) cs ((i,v)::vs)=Instr.fill (fun i=>some (i*s,s)) (aO cs.toList (i*s) v.cells.toList).toArray vs:=by
     rw[Instr.fill];simp only;rw[if_neg (by simp[hlen];omega)];rw[hfold]
    rw[step]
    obtain⟨cs',us',q1,q2,q3,q4,q5⟩:=yW parts vs (ds.set i d) (us.set i v) (aO cs.toList (i*s) v.cells.toList).toArray out h1 h2 (h3.set i hd) (by simpa using h4.set hlu hlen) (fun u hu=>by
     rcases acN hu with hu|rfl
     ·exact h5 u hu
     ·exact hd.one hok) h
    exact⟨cs',us',q1,q2,q3,q4,by simpa using q5⟩
   ·cases h
theorem DH{z:Value}{s n:Nat}(hz:z.cells.size=s)(hs:0<s):PW s ((Array.range (n*s)).map (z.cells[·%z.cells.size]!)).toList (List.replicate n z) where
 size:=by simp
 each:=fun i u h=>by rw[ab6]at h;split at h <;>simp_all
 at_:=fun i u j x h hj=>by
  rw[ab6]at h;split at h
  ·rename_i hi;simp only[abg]at h;subst h;have hjs:j<s:=by rw[←hz];exact(aaq.1 hj).1
   have hk:=lt_mul hi hjs;obtain⟨hj',hjx⟩:=aaq.1 hj;rw[acv,acM (by simpa using hk)];simp only[Array.getElem_map,Array.getElem_range,hz];have:(i*s+j)%s=j:=by rw[ac2,Nat.add_mul_mod_self_right];exact adb hjs
   rw[this];simp[hj',hjx]
  ·cases h
theorem rq{g:Gh}{S:St}{w:World}(h1:Rel w0 g S w){t len:Nat}{parts:List (Nat×DV)}{vs:List (Nat×Value)}(hx:parts.map (·.1)=vs.map (·.1))(hR:af g (parts.map (·.2)) (vs.map (·.2))){K:DV→Prop}
 {e:Nat} (hte:∀e' s b i,tk P t= .sl e' s b i→e'=e) (h:aW (tk P t) (zD P e) len parts K):
 ∃d u w' g',(Instr.buildSlice t len vs.toArray).run P w= .ok u w'∧g.le g'∧Rel w0 g' S w'∧aG g' d u∧K d:=by
 unfold aW at h;split at h
 ·rename_i e' s by' hk;obtain rfl:=hte _ _ _ _ hk;obtain⟨hok,hzl,hbig,h⟩:=h;obtain⟨hu,hs,_,hei⟩:=dM hk;obtain⟨ti,z,hi,hz,hzs,hpos⟩:=cI hei;have hsz:ti.size=s:=by simpa[Program.cellsOf,hi]using hs
  have hzD:zD P e'=cv z:=by simp[zD,hi,hz]
  have hrz:aG g (zD P e') z:=hzD▸l8 g z;split at h
  ·rename_i xs hf;have hpw:=DH (z:=z) (s:=s) (n:=len) (by omega) (by omega)
   obtain⟨cs',us',q1,q2,q3,q4,q5⟩:=yW (g:=g) (s:=s) parts vs (List.replicate len (zD P e')) (List.replicate len z) ((Array.range (len*s)).map (z.cells[·%z.cells.size]!)) xs hx hR
    ⟨by simp,fun i d u a b=>by
     rw[ab6]at a b;split at a
     ·rename_i hlt;rw[if_pos hlt]at b;simp only[abg]at a b;subst a;subst b;exact hrz
     ·cases a⟩ hpw (fun u hu x hx=>by rw[adH hu]at hx;exact hrz.one hok x hx) hf
   have hlen:xs.length=len:=by simpa using q5
   have hlu:us'.length=len:=by rw[←q2.len];exact hlen
   have hrun:(Instr.buildSlice t len vs.toArray).run P w= .ok (.slice (some ⟨w.heap.size,0,none⟩) len len) (w.alloc (.cells cs' e')):=by
    have hb:¬(len*s>2^24):=by omega
    simp only[Instr.buildSlice];by_cases hls:len*s=0
    ·have hl0:len=0:=by rcases Nat.mul_eq_zero.1 hls with h'|h' <;>omega
     have hcs:((Array.range (len*s)).map (z.cells[·%z.cells.size]!))= #[]:=by simp[hls]
     rw[hcs]at q1;have hr0:∀f:Nat→Value,(Array.range 0).map f= #[]:=fun f=>by simp
     simp only[run_underlying hu,Go.sizeOf,typeInfo,hi,hsz,hls,newRow,Sem.run_bind,Sem.run_pure,Result.andThen_ok,run_program,hr0,if_true];rw[q1];simp[hl0]
    ·simp[run_underlying hu,Go.sizeOf,typeInfo,hi,hsz,hls,hb,zeroValue,hz,q1,newRow]
   obtain⟨hle,hRel⟩:=h1.LH (cN w (.cells cs' e')) (aar _) (heap_alloc_new w _)
   have hlm:len≤maxLen:=by
    have:len*1≤len*s:=Nat.mul_le_mul_left len (by omega);unfold maxLen;omega
   refine⟨.sl s true xs,_,_,_,hrun,hle,hRel,?_,h⟩
   have:=aG.sl (g:=g.bp w.heap.size fun i=>cs'[i]?) s true xs w.heap.size 0 len us' (by rw[hlen,hlu]) (fun _=>hlu.symm) (by omega) hlm (q2.mono hle).at_ q3.each q4 (fun i u j x a b=>by
    simp only[Gh.bp,if_true,acE];have:=q3.at_ i u j x a b;simpa using this)
   rw[hlu]at this;exact this
  ·exact h.elim
 ·exact h.elim
end
end Aml
namespace Aml
open Go Go.RowKit
def iw(S:St)(d:DV)(K:Nat→List DV→Prop):Prop:=match d with
 | .sl s _ xs=>K s xs
 | .acc l n=>match lk S.acc l with
  |some (.arr s xs)=>xs.length=n∧K s xs
  |some (.tl s xs)=>xs.length=n∧K s xs
  |_=>False
 | .v (.string b)=>K 1 (b.data.toList.map fun c=> .v (.int .u8 c.toNat))
 | .v (.slice (some ⟨b,o,none⟩) n _)=>match lk S.box b with
  |some ds=>o+n≤ds.length∧K 1 ((ds.drop o).take n)
  |none=>False
 |_=>False
section
variable {P:Program} {w0:W0}
theorem iE{g:Gh}{s:Nat}{f:Bool}{xs:List DV}{x:Value}{w:World}(r:aG g (.sl s f xs) x)(him:∀b i u,g.aY b i=some u→w.cell? ⟨b,i,none⟩=some u):
 ∃us a c,x= .slice a xs.length c∧af g xs us∧(∀(i:Nat) (u:Value),us[i]? =some u→u.cells.size=s)∧(∀(u:Value),u∈us→∀x,x∈u.cells.toList→x.oneCell'=true)∧(f=true→c=xs.length)∧xs.length≤c∧
  ((xs=[])∨∃b o,a=some ⟨b,o,none⟩∧c≤maxLen∧∀(i:Nat) (u:Value) (j:Nat) (x:Value),us[i]? =some u→u.cells[j]? =some x→w.cell? ⟨b,o+i*s+j,none⟩=some x):=by
 rcases im r with⟨he,o',c,hv,hf⟩|⟨b,o',c',us,hv',hr,hfl,hlc,hcm,hzz,hone,hc⟩
 ·exact⟨[],o',c,by rw[hv,he];rfl,by rw[he];exact af.nil g,by simp,by simp,fun e=>by rw[he];simpa using hf e,by rw[he];simp,.inl he⟩
 ·exact⟨us,_,c',hv',hr,hzz,hone,hfl,hlc,.inr ⟨b,o',rfl,hcm,fun i u j x h1 h2=>him _ _ _ (hc i u j x h1 h2)⟩⟩
theorem fp.kx{ow:Nat→Option Key}{g:Gh}{S:St}{w:World}(h:fp w0 ow g S w){l:Nat}{ob:Ob}{s:Nat}{xs:List DV}(hl:lk S.acc l=some ob)(hob:ob= .arr s xs∨ob= .tl s xs){x:Value}(hx:g.acc l xs.length=some x):
 0<s∧∃us a c,x= .slice a xs.length c∧af g xs us∧(∀(i:Nat) (u:Value),us[i]? =some u→u.cells.size=s)∧(∀(u:Value),u∈us→∀x,x∈u.cells.toList→x.oneCell'=true)∧xs.length≤c∧
  ((xs=[])∨∃b o,a=some ⟨b,o,none⟩∧c≤maxLen∧∀(i:Nat) (u:Value) (j:Nat) (x:Value),us[i]? =some u→u.cells[j]? =some x→w.cell? ⟨b,o+i*s+j,none⟩=some x)∧
  (c=xs.length∨∃b cs e,a=some ⟨b,0,none⟩∧ow b=some (.a l)∧w0.heap.size≤b∧w.heap[b]? =some (.cells cs e (0,0))∧cs.size=c*s∧c≤maxLen∧
   (∀(i:Nat) (u:Value) (j:Nat) (x:Value),us[i]? =some u→u.cells[j]? =some x→cs[i*s+j]? =some x)∧(∀i u,g.aY b i=some u→ob= .tl s xs∧i<xs.length*s)∧(ob= .arr s xs→∀x,x∈cs.toList→x.oneCell'=true)):=by
 have hok:=h.acc l ob (bV hl);rcases hob with rfl|rfl
 ·obtain⟨hs,⟨he,o,ha⟩|⟨b,c,cs,e,h1,h2,h3,h4,h5,h6,h7,h8,hA,us,h9,h10,h11,h12⟩⟩:=hok
  ·subst he;rw[show([]:List DV).length=0 from rfl,ha]at hx;exact⟨hs,[],o,0,(abR hx).symm,af.nil g,by simp,by simp,by simp,.inl rfl,.inl rfl⟩
  ·rw[h1]at hx;refine⟨hs,us,_,c,(abR hx).symm,h9,h10,h11,h7,.inr ⟨b,0,rfl,h8,fun i u j x a1 a2=>?_⟩,.inr ⟨b,cs,e,rfl,h2,h3,h5,h6,h8,h12,fun i u hu=>?_,fun _=>hA⟩⟩
   ·rw[bS h5,acE];exact h12 i u j x a1 a2
   ·rw[h4]at hu;cases hu
 ·obtain⟨hs,⟨u,ha,r⟩|⟨b,c,cs,e,h1,h2,h3,h4,h5,h6,h7,h8,r⟩⟩:=hok
  ·rw[ha]at hx;cases hx;obtain⟨us,a,c,q1,q2,q3,q4,q5,q6,q7⟩:=iE (w:=w) r h.aY;exact⟨hs,us,a,c,q1,q2,q3,q4,q6,q7,.inl (q5 rfl)⟩
  ·rw[h1]at hx;cases hx;obtain⟨us,a',c',q1,q2,q3,q4,q5,q6,q7⟩:=iE (w:=w) r h.aY;simp only[Value.slice.injEq,true_and]at q1;obtain⟨rfl,rfl⟩:=q1;refine⟨hs,us,_,_,rfl,q2,q3,q4,q6,q7,.inr ⟨b,cs,e,rfl,h2,h3,h5,h6,h8,fun i u j x a1 a2=>?_,fun i u hu=>⟨rfl,?_⟩,fun h=>by cases h⟩⟩
   ·rcases q7 with q7|⟨b',o',e1,_,q7⟩
    ·have:=q2.len;rw[q7]at this;have:us=[]:=aa0 this.symm;subst this;simp at a1
    ·simp only[abg,Addr.mk.injEq,and_true]at e1;obtain⟨rfl,rfl⟩:=e1;have:=q7 i u j x a1 a2;rw[bS h5,acE]at this;exact this
   ·rcases abz i (xs.length*s)with h'|h'
    ·exact h'
    ·rw[h4 i h']at hu;cases hu
theorem oX{w:World}{s n c:Nat}{us:List Value}{a:Option Addr}{xs:List DV}(hlen:us.length=n)(hz:∀(i:Nat) (u:Value),us[i]? =some u→u.cells.size=s)
 (h:us=[]∨∃b o,a=some ⟨b,o,none⟩∧∀(i:Nat) (u:Value) (j:Nat) (x:Value),us[i]? =some u→u.cells[j]? =some x→w.cell? ⟨b,o+i*s+j,none⟩=some x):
 ∀w',(∀p,w'.cell? p=w.cell? p)→∀z,(z=s∨us=[])→(Builtin.firstCells z n (.slice a n c)).run P w'= .ok (fl us).toArray w':=by
 intro w' hw' z hz';by_cases hu:us=[]
 ·subst hu;have hn:n=0:=by simpa using hlen.symm
  subst hn
  cases a with
  |none=>simp[Builtin.firstCells,fl]
  |some a=>simp[Builtin.firstCells,loadCells,loadCellsFrom,fl]
 ·obtain⟨b,o,rfl,hc⟩:=h.resolve_left hu;obtain rfl:=hz'.resolve_right hu;refine run_firstCells_some (P:=P) w' z n _ n c (fl us) (by rw[iR hz,hlen]) (fun j v hv=>?_);obtain⟨i,u,j',h1,h2,rfl⟩:=Jg hz hv;rw[add_plain,hw',←acw];exact hc i u j' v h1 h2
theorem wD{g:Gh}{S:St}{w:World}{d:DV}{x:Value}{K:Nat→List DV→Prop}(h:Rel w0 g S w)(r:aG g d x)(hk:iw S d K):
 ∃s ys us,K s ys∧af g ys us∧(∀(i:Nat) (u:Value),us[i]? =some u→u.cells.size=s)∧(∀(u:Value),u∈us→∀x,x∈u.cells.toList→x.oneCell'=true)∧
  (∀w':World,(Builtin.lenOf x).run P w'= .ok ys.length w')∧∀w',(∀p,w'.cell? p=w.cell? p)→∀z,(z=s∨ys=[])→(Builtin.firstCells z ys.length x).run P w'= .ok (fl us).toArray w':=by
 obtain⟨ow,ho⟩:=h.open_
 have acc:∀{l:Nat} {ob:Ob} {s:Nat} {xs:List DV},lk S.acc l=some ob→(ob= .arr s xs∨ob= .tl s xs)→aG g (.acc l xs.length) x→K s xs→
  ∃s ys us,K s ys∧af g ys us∧(∀(i:Nat) (u:Value),us[i]? =some u→u.cells.size=s)∧(∀(u:Value),u∈us→∀x,x∈u.cells.toList→x.oneCell'=true)∧
   (∀w':World,(Builtin.lenOf x).run P w'= .ok ys.length w')∧∀w',(∀p,w'.cell? p=w.cell? p)→∀z,(z=s∨ys=[])→(Builtin.firstCells z ys.length x).run P w'= .ok (fl us).toArray w':=by
  intro l ob s xs hl hob hr hK;obtain⟨o,c,hv,ha⟩:=fS hr;obtain⟨hs,us,a,c',q1,q2,q3,q4,q5,q6,_⟩:=ho.kx hl hob ha;simp only[Value.slice.injEq,true_and]at q1;obtain⟨rfl,rfl⟩:=q1;have hlen:us.length=xs.length:=q2.len.symm;have e1:us=[]↔xs=[]:=by rw[←ac8,←ac8,hlen]
  refine⟨s,xs,us,hK,q2,q3,q4,fun w'=>by rw[hv];rfl,?_⟩;rw[hv];intro w' hw' z hz;exact oX (xs:=xs) hlen q3 (by rcases q6 with q6|⟨b,o',e,_,q6⟩;exact .inl (e1.2 q6);exact .inr ⟨b,o',e,q6⟩) w' hw' z (hz.imp id e1.2)
 unfold iw at hk;split at hk
 ·rename_i s f xs;obtain⟨us,a,c,q1,q2,q3,q4,q5,q6,q7⟩:=iE (w:=w) r h.aY;have hlen:us.length=xs.length:=q2.len.symm;have e1:us=[]↔xs=[]:=by rw[←ac8,←ac8,hlen]
  refine⟨s,xs,us,hk,q2,q3,q4,fun w'=>by rw[q1];rfl,?_⟩;rw[q1];intro w' hw' z hz;exact oX (xs:=xs) hlen q3 (by rcases q7 with q6|⟨b,o',e,_,q6⟩;exact .inl (e1.2 q6);exact .inr ⟨b,o',e,q6⟩) w' hw' z (hz.imp id e1.2)
 ·rename_i l n;split at hk
  ·rename_i s xs hl;obtain⟨rfl,hk⟩:=hk;exact acc hl (.inl rfl) r hk
  ·rename_i s xs hl;obtain⟨rfl,hk⟩:=hk;exact acc hl (.inr rfl) r hk
  ·exact hk.elim
 ·rename_i b;have hv:=ay r;subst hv;refine⟨1,_,b.data.toList.map fun c=>Value.int .u8 c.toNat,hk,⟨by simp,fun i d u h1 h2=>?_⟩,fun i u hu=>?_,fun u hu x hx=>?_,fun w'=>?_,fun w' hw' z hz=>?_⟩
  ·simp only[aaE,aay]at h1 h2;obtain⟨c,hc,rfl⟩:=h1;obtain⟨c',hc',rfl⟩:=h2;rw[hc]at hc';cases hc';exact .v _ rfl
  ·simp only[aaE,aay]at hu;obtain⟨c,hc,rfl⟩:=hu;rfl
  ·obtain⟨c,hc,rfl⟩:=aaT.1 hu;simp[Value.cells]at hx;rw[hx];rfl
  ·simp[Builtin.lenOf]
  ·have:(b.extract 0 b.size)=b:=by simp
   have e2:fl (b.data.toList.map fun c=>Value.int .u8 c.toNat)=b.data.toList.map fun c=>Value.int .u8 c.toNat:=by
    simp only[fl];rw[List.flatMap_map]
    induction b.data.toList with
    |nil=>rfl
    |cons c l ih=>simp only[adV,abB,ih];rfl
   rw[e2];simp only[Builtin.firstCells,abI,acs];rw[show b.data.size=b.size from rfl,this];simp;apply Array.ext';simp
 ·rename_i b o n c;have hv:=ay r;split at hk
  ·rename_i ds hb;obtain⟨hle,hk⟩:=hk;obtain⟨_,_,us,e,q1,q2,q3⟩:=h.xu hb;have hone:∀u,u∈(us.toList.drop o).take n→u.oneCell'=true:=fun u hu=>q3 u (acb (acC hu));have hcell:∀u:Value,u.oneCell'=true→u.cells= #[u]:=fun u hu=>by cases u <;>simp_all [Value.cells,Value.oneCell']
   have hR:=(q2.drop o).take n;have hl:us.toList.length=ds.length:=q2.len.symm;have hlen:((us.toList.drop o).take n).length=n:=by rw[ab2,acq,hl];omega
   have hz:∀(i:Nat) (u:Value),((us.toList.drop o).take n)[i]? =some u→u.cells.size=1:=fun i u hu=>by rw[hcell u (hone u (aaf hu))];rfl
   have hlen2:((ds.drop o).take n).length=n:=by rw[ab2,acq];omega
   refine⟨1,_,(us.toList.drop o).take n,hk,hR,hz,fun u hu x hx=>?_,fun w'=>by rw[hv,hlen2];rfl,?_⟩
   ·rw[hcell u (hone u hu)]at hx;simp at hx;rw[hx];exact hone u hu
   ·rw[hv,hlen2];intro w' hw' z hz';refine oX (xs:=(ds.drop o).take n) hlen hz (.inr ⟨b,o,rfl,fun i u j x hu hj=>?_⟩) w' hw' z (hz'.imp id fun e=>?_)
    ·have hu':=hu;rw[hcell u (hone u (aaf hu))]at hj;have hj0:j=0:=by have:=(aaq.1 hj).1;simpa using this
     subst hj0;simp at hj;subst hj;rw[acr]at hu';split at hu'
     ·rw[acm]at hu';rw[bS q1,adt,adj];simpa using hu'
     ·cases hu'
    ·apply aa0;rw[hlen];have:=congrArg List.length e;rw[hlen2]at this;simpa using this
  ·exact hk.elim
 ·exact hk.elim
end
end Aml
