/-
  Part 10 of the proof that the last text ends: from 'What the deferred closure of Do brings back' to 'What the deferred closure of Do brings back'. By an AI agent.
-/
import Derived.Test.YtoepfmhnapedoaaGreatDoorProg
import Derived.Tactics
import Derived.Tactics2
import Derived.Recover
import Derived.RecoverIn
import Derived.ProofKit
set_option linter.unusedVariables false
set_option linter.unusedSimpArgs false
set_option maxRecDepth 100000
set_option maxHeartbeats 16000000
namespace Go.Proofs.YtoepfmhnapedoaaGreatDoor
open Go
theorem sc(u:TypeId)(v:Value)(w:World):Sem.run Tryz.prog (binOp BinOp.neq 20 (Value.iface u v) Value.nilIface) w= .ok (.bool true) w:=by kernel_rfl
theorem oU(w:World):Sem.run Tryz.prog (binOp BinOp.neq 20 Value.nilIface Value.nilIface) w= .ok (.bool false) w:=by kernel_rfl
theorem TS(v:Value)(w:World):Sem.run Tryz.prog (Instr.typeAssert (Value.iface 33 v) 20 33 false) w= .ok v w:=by kernel_rfl
theorem FO(v:Int)(w:World):Sem.run Tryz.prog (Instr.build 44 #[(0,.int .i64 v)]) w= .ok (.agg #[.int .i64 v,.int .i64 0,.slice none 0 0,.int .i64 0,.int .i64 0,.int .i64 0,.int .i64 0,.slice none 0 0]) w:=by kernel_rfl
theorem DB(F:Fence)(hF:∀f,F.fn f)(hro:F.round=none)(b e0:Nat)(us:Array Value)(n:Int)(older:List PanicEntry)(w:World)(hc:w.heap[b]? =some (.cells us e0 (0,0)))(hz:us.size=8):
 CallsDIn F 0 Tryz.prog 32 #[.pointer (some ⟨b,0,none⟩)] (.panicking ({v:= .iface 33 (.int .i64 n),recovered:=false}::older)) w fun e u' w'=>
  e= .returned (.tuple #[])∧u'= .panicking ({v:= .iface 33 (.int .i64 n),recovered:=true}::older)∧w'=w.setRow b #[.int .i64 n,.int .i64 0,.slice none 0 0,.int .i64 0,.int .i64 0,.int .i64 0,.int .i64 0,.slice none 0 0]:=by
 refine callsDIn_of_wpSIn Tryz.func32 rfl (hF _) fun c₀ cs hu=>?_;apply wpSIn_seq;apply wpSIn_region;simp[wpOpsSIn,go_sem,recoverD,hu,hF,sc,oU,Result.andThen,Tryz.ntmps32,Exit.thenS];apply wpSIn_seq;apply wpSIn_region;simp[wpOpsSIn,go_sem,recoverD,hu,hF,sc,oU,Result.andThen,Tryz.ntmps32,Exit.thenS];refine wpSIn_cond (t:=true) (by simp[Act.eval,Array.replicate]) ?_;simp only[if_true];apply wpSIn_region;obtain⟨C,hC⟩:∃C:Array Value,C= #[.int .i64 n,.int .i64 0,.slice none 0 0,.int .i64 0,.int .i64 0,.int .i64 0,.int .i64 0,.slice none 0 0]:=⟨_,rfl⟩;have hCs:C.size=8:=by rw[hC];rfl
 have hCo:∀v∈C.toList,v.oneCell'=true:=by rw[hC];simp[Value.oneCell']
 have hb:=FO n w;rw[←hC]at hb ⊢;have hst:=run_storeCells_from (P:=Tryz.prog) b e0 C.toList 0 us w hc (by simp[hz,hCs]) hCo;simp only[List.take_zero,List.nil_append,Array.toArray_toList]at hst;simp[wpOpsSIn,go_sem,hc,hF,TS,hb,hst,hCs,Result.andThen,bodyPostS,results,Tryz.results32]
theorem zR(F:Fence)(hF:∀f,F.fn f)(hro:F.round=none)(p:Addr)(w:World):
 CallsDIn F 0 Tryz.prog 32 #[.pointer (some p)] .returning w fun e u' w'=>e= .returned (.tuple #[])∧u'= .returning∧w'=w:=by
 refine callsDIn_of_wpSIn Tryz.func32 rfl (hF _) fun c₀ cs hu=>?_;apply wpSIn_seq;apply wpSIn_region;simp[wpOpsSIn,go_sem,recoverD,hu,hF,sc,oU,Result.andThen,Tryz.ntmps32,Exit.thenS];apply wpSIn_seq;apply wpSIn_region;simp[wpOpsSIn,go_sem,recoverD,hu,hF,sc,oU,Result.andThen,Tryz.ntmps32,Exit.thenS];refine wpSIn_cond (t:=false) (by simp[Act.eval,Array.replicate]) ?_;simp only[Bool.false_eq_true,if_false];refine wpSIn_of_wpIn hro (wpIn_skip ?_);cases c₀
 simp_all [bodyPostS,results,Tryz.results32]
end Go.Proofs.YtoepfmhnapedoaaGreatDoor
