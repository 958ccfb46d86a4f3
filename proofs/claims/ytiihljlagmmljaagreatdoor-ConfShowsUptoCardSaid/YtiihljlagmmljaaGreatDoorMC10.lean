/-
  Part 10 of the proof that the last text ends: from 'What a line's deferred closure brings back' to 'What a line's deferred closure brings back'. By an AI agent.
-/
import Derived.Test.YtiihljlagmmljaaGreatDoorProg
import Derived.Tactics
import Derived.Tactics2
import Derived.Recover
import Derived.RecoverIn
import Derived.ProofKit
set_option linter.unusedVariables false
set_option linter.unusedSimpArgs false
set_option maxRecDepth 100000
set_option maxHeartbeats 16000000
namespace Go.Proofs.YtiihljlagmmljaaGreatDoor
open Go
theorem kQ(u:TypeId)(v:Value)(w:World):Sem.run Tryz.prog (binOp BinOp.neq 20 (Value.iface u v) Value.nilIface) w= .ok (.bool true) w:=by kernel_rfl
theorem kT(w:World):Sem.run Tryz.prog (binOp BinOp.neq 20 Value.nilIface Value.nilIface) w= .ok (.bool false) w:=by kernel_rfl
theorem Pk(v:Value)(w:World):Sem.run Tryz.prog (Instr.typeAssert (Value.iface 83 v) 20 83 false) w= .ok v w:=by kernel_rfl
theorem Fk(F:Fence)(hF:∀f,F.fn f)(hro:F.round=none)(p:Addr)(x n:Int)(older:List PanicEntry)(w:World)(hc:w.cell? p=some (.int .i64 x))(hz:w.frozen? p=false):
 CallsDIn F 0 Tryz.prog 52 #[.pointer (some p)] (.panicking ({v:= .iface 83 (.int .i64 n),recovered:=false}::older)) w fun e u' w'=>
  e= .returned (.tuple #[])∧u'= .panicking ({v:= .iface 83 (.int .i64 n),recovered:=true}::older)∧w'=w.setCell p (.int .i64 n):=by
 refine callsDIn_of_wpSIn Tryz.func52 rfl (hF _) fun c₀ cs hu=>?_;apply wpSIn_seq;apply wpSIn_region;simp[wpOpsSIn,go_sem,recoverD,hu,hF,kQ,kT,Result.andThen,Tryz.ntmps52,Exit.thenS];apply wpSIn_seq;apply wpSIn_region;simp[wpOpsSIn,go_sem,recoverD,hu,hF,kQ,kT,Result.andThen,Tryz.ntmps52,Exit.thenS];refine wpSIn_cond (t:=true) (by simp[Act.eval,Array.replicate]) ?_;simp only[if_true];apply wpSIn_region;simp[wpOpsSIn,go_sem,hc,hz,hF,Pk,Result.andThen,bodyPostS,results,Tryz.results52]
theorem BH(F:Fence)(hF:∀f,F.fn f)(hro:F.round=none)(p:Addr)(w:World):
 CallsDIn F 0 Tryz.prog 52 #[.pointer (some p)] .returning w fun e u' w'=>e= .returned (.tuple #[])∧u'= .returning∧w'=w:=by
 refine callsDIn_of_wpSIn Tryz.func52 rfl (hF _) fun c₀ cs hu=>?_;apply wpSIn_seq;apply wpSIn_region;simp[wpOpsSIn,go_sem,recoverD,hu,hF,kQ,kT,Result.andThen,Tryz.ntmps52,Exit.thenS];apply wpSIn_seq;apply wpSIn_region;simp[wpOpsSIn,go_sem,recoverD,hu,hF,kQ,kT,Result.andThen,Tryz.ntmps52,Exit.thenS];refine wpSIn_cond (t:=false) (by simp[Act.eval,Array.replicate]) ?_;simp only[Bool.false_eq_true,if_false];refine wpSIn_of_wpIn hro (wpIn_skip ?_);cases c₀
 simp_all [bodyPostS,results,Tryz.results52]
end Go.Proofs.YtiihljlagmmljaaGreatDoor
