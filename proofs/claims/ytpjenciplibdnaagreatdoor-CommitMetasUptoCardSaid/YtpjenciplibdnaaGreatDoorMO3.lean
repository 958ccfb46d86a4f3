/-
  Facts on the types and functions of the translation, printed by program (wip/tools/types.py); Loops by a state; forgetting slots; growing slices out of nil; The equations by which the reckoning goes: each for one form of value; Statements whose order Go leaves open: where each operation hands back one abstract value and leaves the store, every order serves; Reckoning over statements whose order is open; The rules as they are used: functions, loops; plain values; wraps; Statements whose order is open but for their end: what writes comes behind all that reads; Which parts of the walk's words the reckoning may enter: what comes behind a step is entered when the step is done; The walk by reckoning, whole; functions and loops. By an AI agent.
-/
import Derived.Test.YtpjenciplibdnaaGreatDoorMO2
import Derived.Test.YtpjenciplibdnaaGreatDoorProg
import Derived.KernelRfl
import Derived.Still
set_option linter.unusedVariables false
set_option linter.unusedSimpArgs false
set_option maxRecDepth 100000
set_option maxHeartbeats 16000000
namespace Go.Proofs.YtpjenciplibdnaaGreatDoor
open Aml
@[go_sem] theorem ty.k1:tk Tryz.prog 1= .fn:=by kernel_rfl
@[go_sem] theorem ty.z1:zD Tryz.prog 1= .v .nilFunc:=by kernel_rfl
@[go_sem] theorem ty.c1:Tryz.prog.cellsOf 1=1:=by kernel_rfl
@[go_sem] theorem ty.i1:(Tryz.prog.info? 1).isSome=true:=by kernel_rfl
@[go_sem] theorem ty.k2:tk Tryz.prog 2= .int .i64:=by kernel_rfl
@[go_sem] theorem ty.z2:zD Tryz.prog 2= .v (.int .i64 0):=by kernel_rfl
@[go_sem] theorem ty.c2:Tryz.prog.cellsOf 2=1:=by kernel_rfl
@[go_sem] theorem ty.i2:(Tryz.prog.info? 2).isSome=true:=by kernel_rfl
@[go_sem] theorem ty.k3:tk Tryz.prog 3= .int .i64:=by kernel_rfl
@[go_sem] theorem ty.z3:zD Tryz.prog 3= .v (.int .i64 0):=by kernel_rfl
@[go_sem] theorem ty.c3:Tryz.prog.cellsOf 3=1:=by kernel_rfl
@[go_sem] theorem ty.i3:(Tryz.prog.info? 3).isSome=true:=by kernel_rfl
@[go_sem] theorem ty.k4:tk Tryz.prog 4= .one:=by kernel_rfl
@[go_sem] theorem ty.z4:zD Tryz.prog 4= .v (.bool false):=by kernel_rfl
@[go_sem] theorem ty.c4:Tryz.prog.cellsOf 4=1:=by kernel_rfl
@[go_sem] theorem ty.i4:(Tryz.prog.info? 4).isSome=true:=by kernel_rfl
@[go_sem] theorem ty.k5:tk Tryz.prog 5= .int .u8:=by kernel_rfl
@[go_sem] theorem ty.z5:zD Tryz.prog 5= .v (.int .u8 0):=by kernel_rfl
@[go_sem] theorem ty.c5:Tryz.prog.cellsOf 5=1:=by kernel_rfl
@[go_sem] theorem ty.i5:(Tryz.prog.info? 5).isSome=true:=by kernel_rfl
@[go_sem] theorem ty.k6:tk Tryz.prog 6= .int .u8:=by kernel_rfl
@[go_sem] theorem ty.z6:zD Tryz.prog 6= .v (.int .u8 0):=by kernel_rfl
@[go_sem] theorem ty.c6:Tryz.prog.cellsOf 6=1:=by kernel_rfl
@[go_sem] theorem ty.i6:(Tryz.prog.info? 6).isSome=true:=by kernel_rfl
@[go_sem] theorem ty.q7:BE Tryz.prog 7=some [.int .i64,.int .i64,.bool,.int .u8]:=by kernel_rfl
@[go_sem] theorem ty.z7:zD Tryz.prog 7= .agg [.v (.int .i64 0),.v (.int .i64 0),.v (.bool false),.v (.int .u8 0)]:=by kernel_rfl
@[go_sem] theorem ty.c7:Tryz.prog.cellsOf 7=4:=by kernel_rfl
@[go_sem] theorem ty.i7:(Tryz.prog.info? 7).isSome=true:=by kernel_rfl
@[go_sem] theorem ty.q8:BE Tryz.prog 8=some [.int .i64,.int .i64,.bool,.int .u8]:=by kernel_rfl
@[go_sem] theorem ty.z8:zD Tryz.prog 8= .agg [.v (.int .i64 0),.v (.int .i64 0),.v (.bool false),.v (.int .u8 0)]:=by kernel_rfl
@[go_sem] theorem ty.c8:Tryz.prog.cellsOf 8=4:=by kernel_rfl
@[go_sem] theorem ty.k9:tk Tryz.prog 9= .str:=by kernel_rfl
@[go_sem] theorem ty.z9:zD Tryz.prog 9= .v (.string ByteArray.empty):=by kernel_rfl
@[go_sem] theorem ty.c9:Tryz.prog.cellsOf 9=1:=by kernel_rfl
@[go_sem] theorem ty.i9:(Tryz.prog.info? 9).isSome=true:=by kernel_rfl
@[go_sem] theorem ty.k22:tk Tryz.prog 22= .sl 58 4 48 true:=by kernel_rfl
@[go_sem] theorem ty.k23:tk Tryz.prog 23= .int .u16:=by kernel_rfl
@[go_sem] theorem ty.k26:tk Tryz.prog 26= .int .u64:=by kernel_rfl
@[go_sem] theorem ty.c26:Tryz.prog.cellsOf 26=1:=by kernel_rfl
@[go_sem] theorem ty.i26:(Tryz.prog.info? 26).isSome=true:=by kernel_rfl
@[go_sem] theorem ty.k28:tk Tryz.prog 28= .st [(0,1,false),(1,1,false),(2,1,false),(3,1,false),(4,1,false)] 5:=by kernel_rfl
@[go_sem] theorem ty.z28:zD Tryz.prog 28= .agg [.v (.int .i64 0),.v (.int .u64 0),.v (.int .i64 0),.v (.int .i64 0),.v (.int .i64 0)]:=by kernel_rfl
@[go_sem] theorem ty.k29:tk Tryz.prog 29= .sl 9 1 16 true:=by kernel_rfl
@[go_sem] theorem ty.e29:eG Tryz.prog 29=9:=by kernel_rfl
@[go_sem] theorem ty.z29:zD Tryz.prog 29= .sl 0 true []:=by kernel_rfl
@[go_sem] theorem ty.c29:Tryz.prog.cellsOf 29=1:=by kernel_rfl
@[go_sem] theorem ty.i29:(Tryz.prog.info? 29).isSome=true:=by kernel_rfl
@[go_sem] theorem ty.k30:tk Tryz.prog 30= .sl 143 2 40 true:=by kernel_rfl
@[go_sem] theorem ty.e30:eG Tryz.prog 30=143:=by kernel_rfl
@[go_sem] theorem ty.z30:zD Tryz.prog 30= .sl 0 true []:=by kernel_rfl
@[go_sem] theorem ty.c30:Tryz.prog.cellsOf 30=1:=by kernel_rfl
@[go_sem] theorem ty.i30:(Tryz.prog.info? 30).isSome=true:=by kernel_rfl
@[go_sem] theorem ty.k31:tk Tryz.prog 31= .sl 33 5 88 true:=by kernel_rfl
@[go_sem] theorem ty.e31:eG Tryz.prog 31=33:=by kernel_rfl
@[go_sem] theorem ty.z31:zD Tryz.prog 31= .sl 0 true []:=by kernel_rfl
@[go_sem] theorem ty.c31:Tryz.prog.cellsOf 31=1:=by kernel_rfl
@[go_sem] theorem ty.i31:(Tryz.prog.info? 31).isSome=true:=by kernel_rfl
@[go_sem] theorem ty.k33:tk Tryz.prog 33= .st [(0,1,false),(1,1,false),(2,1,false),(3,1,false),(4,1,false)] 5:=by kernel_rfl
@[go_sem] theorem ty.z33:zD Tryz.prog 33= .agg [.v (.int .i64 0),.v (.bool false),.sl 0 true [],.sl 0 true [],.sl 0 true []]:=by kernel_rfl
@[go_sem] theorem ty.c33:Tryz.prog.cellsOf 33=5:=by kernel_rfl
@[go_sem] theorem ty.i33:(Tryz.prog.info? 33).isSome=true:=by kernel_rfl
@[go_sem] theorem ty.k34:tk Tryz.prog 34= .sl 85 6 104 true:=by kernel_rfl
@[go_sem] theorem ty.e34:eG Tryz.prog 34=85:=by kernel_rfl
@[go_sem] theorem ty.c34:Tryz.prog.cellsOf 34=1:=by kernel_rfl
@[go_sem] theorem ty.i34:(Tryz.prog.info? 34).isSome=true:=by kernel_rfl
@[go_sem] theorem ty.k36:tk Tryz.prog 36= .st [(0,5,true),(5,1,false)] 6:=by kernel_rfl
@[go_sem] theorem ty.z36:zD Tryz.prog 36= .agg [.v (.int .i64 0),.v (.bool false),.sl 0 true [],.sl 0 true [],.sl 0 true [],.sl 0 true []]:=by kernel_rfl
@[go_sem] theorem ty.c36:Tryz.prog.cellsOf 36=6:=by kernel_rfl
@[go_sem] theorem ty.i36:(Tryz.prog.info? 36).isSome=true:=by kernel_rfl
@[go_sem] theorem ty.k37:tk Tryz.prog 37= .sl 3 1 8 true:=by kernel_rfl
@[go_sem] theorem ty.e37:eG Tryz.prog 37=3:=by kernel_rfl
@[go_sem] theorem ty.z37:zD Tryz.prog 37= .sl 0 true []:=by kernel_rfl
@[go_sem] theorem ty.c37:Tryz.prog.cellsOf 37=1:=by kernel_rfl
@[go_sem] theorem ty.i37:(Tryz.prog.info? 37).isSome=true:=by kernel_rfl
@[go_sem] theorem ty.k38:tk Tryz.prog 38= .sl 93 2 32 true:=by kernel_rfl
@[go_sem] theorem ty.e38:eG Tryz.prog 38=93:=by kernel_rfl
@[go_sem] theorem ty.c38:Tryz.prog.cellsOf 38=1:=by kernel_rfl
@[go_sem] theorem ty.i38:(Tryz.prog.info? 38).isSome=true:=by kernel_rfl
@[go_sem] theorem ty.k40:tk Tryz.prog 40= .st [(0,1,false),(1,1,false),(2,1,false)] 3:=by kernel_rfl
@[go_sem] theorem ty.z40:zD Tryz.prog 40= .agg [.v (.int .i64 0),.sl 0 true [],.sl 0 true []]:=by kernel_rfl
@[go_sem] theorem ty.c40:Tryz.prog.cellsOf 40=3:=by kernel_rfl
@[go_sem] theorem ty.i40:(Tryz.prog.info? 40).isSome=true:=by kernel_rfl
@[go_sem] theorem ty.k42:tk Tryz.prog 42= .st [(0,5,true),(5,6,true),(11,1,false),(12,3,true)] 15:=by kernel_rfl
@[go_sem] theorem ty.z42:zD Tryz.prog 42= .agg [.v (.int .i64 0),.v (.int .u64 0),.v (.int .i64 0),.v (.int .i64 0),.v (.int .i64 0),.v (.int .i64 0),.v (.bool false),.sl 0 true [],.sl 0 true [],.sl 0 true [],.sl 0 true [],.sl 0 true [],.v (.int .i64 0),.sl 0 true [],.sl 0 true []]:=by kernel_rfl
@[go_sem] theorem ty.c42:Tryz.prog.cellsOf 42=15:=by kernel_rfl
@[go_sem] theorem ty.i42:(Tryz.prog.info? 42).isSome=true:=by kernel_rfl
@[go_sem] theorem ty.k44:tk Tryz.prog 44= .st [(0,1,false),(1,1,false),(2,1,false),(3,1,false),(4,1,false)] 5:=by kernel_rfl
@[go_sem] theorem ty.z44:zD Tryz.prog 44= .agg [.v (.int .i64 0),.v (.int .u64 0),.v (.int .i64 0),.v (.int .i64 0),.v (.int .i64 0)]:=by kernel_rfl
@[go_sem] theorem ty.c44:Tryz.prog.cellsOf 44=5:=by kernel_rfl
@[go_sem] theorem ty.i44:(Tryz.prog.info? 44).isSome=true:=by kernel_rfl
@[go_sem] theorem ty.z46:zD Tryz.prog 46= .agg [.v (.int .i64 0),.v (.bool false),.sl 0 true []]:=by kernel_rfl
@[go_sem] theorem ty.z51:zD Tryz.prog 51= .sl 0 true []:=by kernel_rfl
@[go_sem] theorem ty.z53:zD Tryz.prog 53= .agg [.v (.int .i64 0),.sl 0 true [],.sl 0 true []]:=by kernel_rfl
@[go_sem] theorem ty.k58:tk Tryz.prog 58= .st [(0,1,false),(1,1,false),(2,1,false),(3,1,false)] 4:=by kernel_rfl
@[go_sem] theorem ty.k62:tk Tryz.prog 62= .sl 75 2 32 true:=by kernel_rfl
@[go_sem] theorem ty.e62:eG Tryz.prog 62=75:=by kernel_rfl
@[go_sem] theorem ty.c62:Tryz.prog.cellsOf 62=1:=by kernel_rfl
@[go_sem] theorem ty.i62:(Tryz.prog.info? 62).isSome=true:=by kernel_rfl
@[go_sem] theorem ty.k63:tk Tryz.prog 63= .sl 5 1 1 true:=by kernel_rfl
@[go_sem] theorem ty.e63:eG Tryz.prog 63=5:=by kernel_rfl
@[go_sem] theorem ty.z63:zD Tryz.prog 63= .sl 0 true []:=by kernel_rfl
@[go_sem] theorem ty.k75:tk Tryz.prog 75= .st [(0,1,false),(1,1,false)] 2:=by kernel_rfl
@[go_sem] theorem ty.z75:zD Tryz.prog 75= .agg [.v (.int .i64 0),.sl 0 true []]:=by kernel_rfl
@[go_sem] theorem ty.k85:tk Tryz.prog 85= .st [(0,1,false),(1,5,true)] 6:=by kernel_rfl
@[go_sem] theorem ty.z85:zD Tryz.prog 85= .agg [.v (.string ByteArray.empty),.v (.int .i64 0),.v (.bool false),.sl 0 true [],.sl 0 true [],.sl 0 true []]:=by kernel_rfl
@[go_sem] theorem ty.c85:Tryz.prog.cellsOf 85=6:=by kernel_rfl
@[go_sem] theorem ty.i85:(Tryz.prog.info? 85).isSome=true:=by kernel_rfl
@[go_sem] theorem ty.k93:tk Tryz.prog 93= .st [(0,1,false),(1,1,false)] 2:=by kernel_rfl
@[go_sem] theorem ty.z93:zD Tryz.prog 93= .agg [.v (.int .u64 0),.sl 0 true []]:=by kernel_rfl
@[go_sem] theorem ty.c93:Tryz.prog.cellsOf 93=2:=by kernel_rfl
@[go_sem] theorem ty.i93:(Tryz.prog.info? 93).isSome=true:=by kernel_rfl
@[go_sem] theorem ty.k94:tk Tryz.prog 94= .int .i64:=by kernel_rfl
@[go_sem] theorem ty.z94:zD Tryz.prog 94= .v (.int .i64 0):=by kernel_rfl
@[go_sem] theorem ty.c94:Tryz.prog.cellsOf 94=1:=by kernel_rfl
@[go_sem] theorem ty.i94:(Tryz.prog.info? 94).isSome=true:=by kernel_rfl
@[go_sem] theorem ty.aae:tk Tryz.prog 106= .st [(0,15,true),(15,15,true),(30,1,false),(31,1,false),(32,1,false)] 33:=by kernel_rfl
@[go_sem] theorem ty.aaD:zD Tryz.prog 106= .agg [.v (.int .i64 0),.v (.int .u64 0),.v (.int .i64 0),.v (.int .i64 0),.v (.int .i64 0),.v (.int .i64 0),.v (.bool false),.sl 0 true [],.sl 0 true [],.sl 0 true [],.sl 0 true [],.sl 0 true [],.v (.int .i64 0),.sl 0 true [],.sl 0 true [],.v (.int .i64 0),.v (.int .u64 0),.v (.int .i64 0),.v (.int .i64 0),.v (.int .i64 0),.v (.int .i64 0),.v (.bool false),.sl 0 true [],.sl 0 true [],.sl 0 true [],.sl 0 true [],.sl 0 true [],.v (.int .i64 0),.sl 0 true [],.sl 0 true [],.v (.int .i64 0),.sl 0 true [],.sl 0 true []]:=by kernel_rfl
@[go_sem] theorem ty.aaS:tk Tryz.prog 107= .sl 111 1 8 true:=by kernel_rfl
@[go_sem] theorem ty.abe:eG Tryz.prog 107=111:=by kernel_rfl
@[go_sem] theorem ty.aap:tk Tryz.prog 109= .fn:=by kernel_rfl
@[go_sem] theorem ty.aay:tk Tryz.prog 111= .st [(0,1,false)] 1:=by kernel_rfl
@[go_sem] theorem ty.aa7:zD Tryz.prog 111= .agg [.v .nilFunc]:=by kernel_rfl
@[go_sem] theorem ty.aa6:Tryz.prog.cellsOf 111=1:=by kernel_rfl
@[go_sem] theorem ty.i111:(Tryz.prog.info? 111).isSome=true:=by kernel_rfl
@[go_sem] theorem ty.z131:zD Tryz.prog 131= .v .nilFunc:=by kernel_rfl
@[go_sem] theorem ty.ZN:tk Tryz.prog 143= .st [(0,1,false),(1,1,false)] 2:=by kernel_rfl
@[go_sem] theorem ty.z143:zD Tryz.prog 143= .agg [.v (.string ByteArray.empty),.sl 0 true []]:=by kernel_rfl
@[go_sem] theorem ty.aad:Tryz.prog.cellsOf 143=2:=by kernel_rfl
@[go_sem] theorem ty.i143:(Tryz.prog.info? 143).isSome=true:=by kernel_rfl
@[go_sem] theorem ty.aas:tk Tryz.prog 149= .st [(0,1,false),(1,1,false)] 2:=by kernel_rfl
@[go_sem] theorem ty.ZS:zD Tryz.prog 149= .agg [.v (.string ByteArray.empty),.v (.int .i64 0)]:=by kernel_rfl
@[go_sem] theorem ty.aaM:tk Tryz.prog 165= .sl 37 1 24 true:=by kernel_rfl
@[go_sem] theorem ty.Z3:eG Tryz.prog 165=37:=by kernel_rfl
@[go_sem] theorem ty.aaY:zD Tryz.prog 165= .sl 0 true []:=by kernel_rfl
@[go_sem] theorem ty.abf:Tryz.prog.cellsOf 165=1:=by kernel_rfl
@[go_sem] theorem ty.i165:(Tryz.prog.info? 165).isSome=true:=by kernel_rfl
@[go_sem] theorem ty.Z1:tk Tryz.prog 166= .fn:=by kernel_rfl
@[go_sem] theorem ty.aaq:tk Tryz.prog 168= .st [(0,1,false),(1,1,false)] 2:=by kernel_rfl
@[go_sem] theorem ty.z168:zD Tryz.prog 168= .agg [.v (.int .u64 0),.v (.int .i64 0)]:=by kernel_rfl
@[go_sem] theorem ty.aah:Tryz.prog.cellsOf 168=2:=by kernel_rfl
@[go_sem] theorem ty.i168:(Tryz.prog.info? 168).isSome=true:=by kernel_rfl
@[go_sem] theorem ty.ZX:tk Tryz.prog 169= .sl 168 2 16 true:=by kernel_rfl
@[go_sem] theorem ty.abd:eG Tryz.prog 169=168:=by kernel_rfl
@[go_sem] theorem ty.aav:tk Tryz.prog 172= .sl 63 1 24 true:=by kernel_rfl
@[go_sem] theorem ty.aaL:eG Tryz.prog 172=63:=by kernel_rfl
@[go_sem] theorem ty.Z8:zD Tryz.prog 172= .sl 0 true []:=by kernel_rfl
@[go_sem] theorem ty.aaP:Tryz.prog.cellsOf 172=1:=by kernel_rfl
@[go_sem] theorem ty.i172:(Tryz.prog.info? 172).isSome=true:=by kernel_rfl
@[go_sem] theorem ty.z182:zD Tryz.prog 182= .v .nilFunc:=by kernel_rfl
@[go_sem] theorem ty.z183:zD Tryz.prog 183= .v .nilFunc:=by kernel_rfl
@[go_sem] theorem ty.aaE:tk Tryz.prog 194= .int .u64:=by kernel_rfl
@[go_sem] theorem ty.aaH:tk Tryz.prog 197= .int .u32:=by kernel_rfl
@[go_sem] theorem ty.aa5:tk Tryz.prog 205= .fn:=by kernel_rfl
@[go_sem] theorem ty.aaG:zD Tryz.prog 205= .v .nilFunc:=by kernel_rfl
@[go_sem] theorem ty.abq:Tryz.prog.cellsOf 205=1:=by kernel_rfl
@[go_sem] theorem ty.i205:(Tryz.prog.info? 205).isSome=true:=by kernel_rfl
@[go_sem] theorem ty.z218:zD Tryz.prog 218= .v .nilFunc:=by kernel_rfl
@[go_sem] theorem ty.z222:zD Tryz.prog 222= .v .nilFunc:=by kernel_rfl
@[go_sem] theorem ty.abu:tk Tryz.prog 228= .sl 230 1 8 true:=by kernel_rfl
@[go_sem] theorem ty.aau:eG Tryz.prog 228=230:=by kernel_rfl
@[go_sem] theorem ty.z228:zD Tryz.prog 228= .sl 0 true []:=by kernel_rfl
@[go_sem] theorem ty.z229:zD Tryz.prog 229= .agg [.v .nilFunc]:=by kernel_rfl
@[go_sem] theorem ty.Z6:tk Tryz.prog 230= .st [(0,1,false)] 1:=by kernel_rfl
@[go_sem] theorem ty.Z9:zD Tryz.prog 230= .agg [.v .nilFunc]:=by kernel_rfl
@[go_sem] theorem ty.aaR:tk Tryz.prog 234= .ar 128 5 1 false 128:=by kernel_rfl
@[go_sem] theorem ty.z234:zD Tryz.prog 234= .agg [.v (.int .u8 0),.v (.int .u8 0),.v (.int .u8 0),.v (.int .u8 0),.v (.int .u8 0),.v (.int .u8 0),.v (.int .u8 0),.v (.int .u8 0),.v (.int .u8 0),.v (.int .u8 0),.v (.int .u8 0),.v (.int .u8 0),.v (.int .u8 0),.v (.int .u8 0),.v (.int .u8 0),.v (.int .u8 0),.v (.int .u8 0),.v (.int .u8 0),.v (.int .u8 0),.v (.int .u8 0),.v (.int .u8 0),.v (.int .u8 0),.v (.int .u8 0),.v (.int .u8 0),.v (.int .u8 0),.v (.int .u8 0),.v (.int .u8 0),.v (.int .u8 0),.v (.int .u8 0),.v (.int .u8 0),.v (.int .u8 0),.v (.int .u8 0),.v (.int .u8 0),.v (.int .u8 0),.v (.int .u8 0),.v (.int .u8 0),.v (.int .u8 0),.v (.int .u8 0),.v (.int .u8 0),.v (.int .u8 0),.v (.int .u8 0),.v (.int .u8 0),.v (.int .u8 0),.v (.int .u8 0),.v (.int .u8 0),.v (.int .u8 0),.v (.int .u8 0),.v (.int .u8 0),.v (.int .u8 0),.v (.int .u8 0),.v (.int .u8 0),.v (.int .u8 0),.v (.int .u8 0),.v (.int .u8 0),.v (.int .u8 0),.v (.int .u8 0),.v (.int .u8 0),.v (.int .u8 0),.v (.int .u8 0),.v (.int .u8 0),.v (.int .u8 0),.v (.int .u8 0),.v (.int .u8 0),.v (.int .u8 0),.v (.int .u8 0),.v (.int .u8 0),.v (.int .u8 0),.v (.int .u8 0),.v (.int .u8 0),.v (.int .u8 0),.v (.int .u8 0),.v (.int .u8 0),.v (.int .u8 0),.v (.int .u8 0),.v (.int .u8 0),.v (.int .u8 0),.v (.int .u8 0),.v (.int .u8 0),.v (.int .u8 0),.v (.int .u8 0),.v (.int .u8 0),.v (.int .u8 0),.v (.int .u8 0),.v (.int .u8 0),.v (.int .u8 0),.v (.int .u8 0),.v (.int .u8 0),.v (.int .u8 0),.v (.int .u8 0),.v (.int .u8 0),.v (.int .u8 0),.v (.int .u8 0),.v (.int .u8 0),.v (.int .u8 0),.v (.int .u8 0),.v (.int .u8 0),.v (.int .u8 0),.v (.int .u8 0),.v (.int .u8 0),.v (.int .u8 0),.v (.int .u8 0),.v (.int .u8 0),.v (.int .u8 0),.v (.int .u8 0),.v (.int .u8 0),.v (.int .u8 0),.v (.int .u8 0),.v (.int .u8 0),.v (.int .u8 0),.v (.int .u8 0),.v (.int .u8 0),.v (.int .u8 0),.v (.int .u8 0),.v (.int .u8 0),.v (.int .u8 0),.v (.int .u8 0),.v (.int .u8 0),.v (.int .u8 0),.v (.int .u8 0),.v (.int .u8 0),.v (.int .u8 0),.v (.int .u8 0),.v (.int .u8 0),.v (.int .u8 0),.v (.int .u8 0),.v (.int .u8 0),.v (.int .u8 0),.v (.int .u8 0)]:=by kernel_rfl
@[go_sem] theorem ty.aan:tk Tryz.prog 245= .fn:=by kernel_rfl
@[go_sem] theorem ty.ZP:zD Tryz.prog 245= .v .nilFunc:=by kernel_rfl
@[go_sem] theorem ty.Z0:Tryz.prog.cellsOf 245=1:=by kernel_rfl
@[go_sem] theorem ty.i245:(Tryz.prog.info? 245).isSome=true:=by kernel_rfl
@[go_sem] theorem ty.aab:tk Tryz.prog 278= .fn:=by kernel_rfl
@[go_sem] theorem ty.aaX:zD Tryz.prog 278= .v .nilFunc:=by kernel_rfl
@[go_sem] theorem ty.abt:Tryz.prog.cellsOf 278=1:=by kernel_rfl
@[go_sem] theorem ty.i278:(Tryz.prog.info? 278).isSome=true:=by kernel_rfl
@[go_sem] theorem ty.aaw:tk Tryz.prog 314= .st [(0,1,false),(1,1,false)] 2:=by kernel_rfl
@[go_sem] theorem ty.ZW:zD Tryz.prog 314= .agg [.sl 0 true [],.sl 0 true []]:=by kernel_rfl
@[go_sem] theorem ty.abj:tk Tryz.prog 316= .map 3 3:=by kernel_rfl
@[go_sem] theorem ty.aaa:tk Tryz.prog 317= .ar 16 197 1 false 16:=by kernel_rfl
@[go_sem] theorem ty.aam:tk Tryz.prog 328= .sl 31 1 24 true:=by kernel_rfl
@[go_sem] theorem ty.aa8:eG Tryz.prog 328=31:=by kernel_rfl
@[go_sem] theorem ty.abp:tk Tryz.prog 330= .sl 29 1 24 true:=by kernel_rfl
@[go_sem] theorem ty.aaJ:eG Tryz.prog 330=29:=by kernel_rfl
@[go_sem] theorem ty.aac:tk Tryz.prog 332= .sl 30 1 24 true:=by kernel_rfl
@[go_sem] theorem ty.aba:eG Tryz.prog 332=30:=by kernel_rfl
@[go_sem] theorem ty.Z4:tk Tryz.prog 338= .sl 353 5 56 true:=by kernel_rfl
@[go_sem] theorem ty.aai:eG Tryz.prog 338=353:=by kernel_rfl
@[go_sem] theorem ty.aaU:tk Tryz.prog 341= .st [(0,1,false),(1,1,false)] 2:=by kernel_rfl
@[go_sem] theorem ty.aax:zD Tryz.prog 341= .agg [.v (.bool false),.sl 0 true []]:=by kernel_rfl
@[go_sem] theorem ty.aaZ:tk Tryz.prog 346= .st [(0,1,false),(1,1,false)] 2:=by kernel_rfl
@[go_sem] theorem ty.ZT:zD Tryz.prog 346= .agg [.v (.string ByteArray.empty),.v (.string ByteArray.empty)]:=by kernel_rfl
@[go_sem] theorem ty.aaf:Tryz.prog.cellsOf 346=2:=by kernel_rfl
@[go_sem] theorem ty.i346:(Tryz.prog.info? 346).isSome=true:=by kernel_rfl
@[go_sem] theorem ty.aar:tk Tryz.prog 351= .st [(0,1,false),(1,1,false),(2,1,false),(3,1,false)] 4:=by kernel_rfl
@[go_sem] theorem ty.aaN:BE Tryz.prog 351=some [.str,.bool,.int .i64,.int .i64]:=by kernel_rfl
@[go_sem] theorem ty.abi:zD Tryz.prog 351= .agg [.v (.string ByteArray.empty),.v (.bool false),.v (.int .i64 0),.v (.int .i64 0)]:=by kernel_rfl
@[go_sem] theorem ty.aaA:Tryz.prog.cellsOf 351=4:=by kernel_rfl
@[go_sem] theorem ty.i351:(Tryz.prog.info? 351).isSome=true:=by kernel_rfl
@[go_sem] theorem ty.Z2:tk Tryz.prog 353= .st [(0,1,false),(1,4,true)] 5:=by kernel_rfl
@[go_sem] theorem ty.aat:zD Tryz.prog 353= .agg [.v (.string ByteArray.empty),.v (.string ByteArray.empty),.v (.bool false),.v (.int .i64 0),.v (.int .i64 0)]:=by kernel_rfl
@[go_sem] theorem ty.aaT:Tryz.prog.cellsOf 353=5:=by kernel_rfl
@[go_sem] theorem ty.i353:(Tryz.prog.info? 353).isSome=true:=by kernel_rfl
@[go_sem] theorem ty.abl:tk Tryz.prog 355= .ptr 357:=by kernel_rfl
@[go_sem] theorem ty.ZY:zD Tryz.prog 355= .v (.pointer none):=by kernel_rfl
@[go_sem] theorem ty.abn:Tryz.prog.cellsOf 355=1:=by kernel_rfl
@[go_sem] theorem ty.i355:(Tryz.prog.info? 355).isSome=true:=by kernel_rfl
@[go_sem] theorem ty.aaC:tk Tryz.prog 357= .st [(0,1,false),(1,1,false)] 2:=by kernel_rfl
@[go_sem] theorem ty.aa0:zD Tryz.prog 357= .agg [.sl 0 true [],.v (.map none)]:=by kernel_rfl
@[go_sem] theorem ty.ZZ:tk Tryz.prog 364= .jM ["jalousie/node.least", "jalousie/node.may", "jalousie/node.put", "jalousie/node.take"]:=by kernel_rfl
@[go_sem] theorem ty.ZK:zD Tryz.prog 364= .v .nilIface:=by kernel_rfl
@[go_sem] theorem ty.aa2:tk Tryz.prog 365= .sl 364 1 16 true:=by kernel_rfl
@[go_sem] theorem ty.aaK:eG Tryz.prog 365=364:=by kernel_rfl
@[go_sem] theorem ty.aaQ:tk Tryz.prog 376= .st [] 0:=by kernel_rfl
@[go_sem] theorem ty.abm:zD Tryz.prog 376= .agg []:=by kernel_rfl
@[go_sem] theorem ty.aaI:tk Tryz.prog 377= .st [] 0:=by kernel_rfl
@[go_sem] theorem ty.abb:zD Tryz.prog 377= .agg []:=by kernel_rfl
@[go_sem] theorem ty.f0:okF Tryz.prog 0=false:=by kernel_rfl
@[go_sem] theorem ty.f1:okF Tryz.prog 1=false:=by kernel_rfl
@[go_sem] theorem ty.f2:okF Tryz.prog 2=true:=by kernel_rfl
@[go_sem] theorem ty.f3:okF Tryz.prog 3=true:=by kernel_rfl
@[go_sem] theorem ty.f4:okF Tryz.prog 4=true:=by kernel_rfl
@[go_sem] theorem ty.f5:okF Tryz.prog 5=true:=by kernel_rfl
@[go_sem] theorem ty.f6:okF Tryz.prog 6=true:=by kernel_rfl
@[go_sem] theorem ty.f7:okF Tryz.prog 7=true:=by kernel_rfl
@[go_sem] theorem ty.f8:okF Tryz.prog 8=true:=by kernel_rfl
@[go_sem] theorem ty.f9:okF Tryz.prog 9=true:=by kernel_rfl
@[go_sem] theorem ty.f11:okF Tryz.prog 11=true:=by kernel_rfl
@[go_sem] theorem ty.f13:okF Tryz.prog 13=true:=by kernel_rfl
@[go_sem] theorem ty.f18:okF Tryz.prog 18=true:=by kernel_rfl
@[go_sem] theorem ty.f25:okF Tryz.prog 25=true:=by kernel_rfl
@[go_sem] theorem ty.f26:okF Tryz.prog 26=true:=by kernel_rfl
@[go_sem] theorem ty.f27:okF Tryz.prog 27=true:=by kernel_rfl
@[go_sem] theorem ty.f28:okF Tryz.prog 28=true:=by kernel_rfl
@[go_sem] theorem ty.f30:okF Tryz.prog 30=true:=by kernel_rfl
@[go_sem] theorem ty.f31:okF Tryz.prog 31=true:=by kernel_rfl
@[go_sem] theorem ty.f32:okF Tryz.prog 32=true:=by kernel_rfl
@[go_sem] theorem ty.f33:okF Tryz.prog 33=true:=by kernel_rfl
@[go_sem] theorem ty.f34:okF Tryz.prog 34=true:=by kernel_rfl
@[go_sem] theorem ty.f45:okF Tryz.prog 45=true:=by kernel_rfl
@[go_sem] theorem ty.f48:okF Tryz.prog 48=true:=by kernel_rfl
@[go_sem] theorem ty.f49:okF Tryz.prog 49=true:=by kernel_rfl
@[go_sem] theorem ty.f50:okF Tryz.prog 50=true:=by kernel_rfl
@[go_sem] theorem ty.f51:okF Tryz.prog 51=true:=by kernel_rfl
@[go_sem] theorem ty.f52:okF Tryz.prog 52=true:=by kernel_rfl
@[go_sem] theorem ty.f58:okF Tryz.prog 58=true:=by kernel_rfl
@[go_sem] theorem ty.f59:okF Tryz.prog 59=true:=by kernel_rfl
@[go_sem] theorem ty.f60:okF Tryz.prog 60=true:=by kernel_rfl
@[go_sem] theorem ty.f61:okF Tryz.prog 61=true:=by kernel_rfl
@[go_sem] theorem ty.f62:okF Tryz.prog 62=true:=by kernel_rfl
@[go_sem] theorem ty.f63:okF Tryz.prog 63=true:=by kernel_rfl
@[go_sem] theorem ty.f64:okF Tryz.prog 64=true:=by kernel_rfl
@[go_sem] theorem ty.f65:okF Tryz.prog 65=true:=by kernel_rfl
@[go_sem] theorem ty.f66:okF Tryz.prog 66=true:=by kernel_rfl
@[go_sem] theorem ty.f67:okF Tryz.prog 67=true:=by kernel_rfl
@[go_sem] theorem ty.f70:okF Tryz.prog 70=true:=by kernel_rfl
@[go_sem] theorem ty.f71:okF Tryz.prog 71=true:=by kernel_rfl
@[go_sem] theorem ty.f73:okF Tryz.prog 73=true:=by kernel_rfl
@[go_sem] theorem ty.f74:okF Tryz.prog 74=true:=by kernel_rfl
@[go_sem] theorem ty.f75:okF Tryz.prog 75=true:=by kernel_rfl
@[go_sem] theorem ty.f76:okF Tryz.prog 76=true:=by kernel_rfl
@[go_sem] theorem ty.f77:okF Tryz.prog 77=true:=by kernel_rfl
@[go_sem] theorem ty.f78:okF Tryz.prog 78=true:=by kernel_rfl
@[go_sem] theorem ty.f79:okF Tryz.prog 79=true:=by kernel_rfl
@[go_sem] theorem ty.f80:okF Tryz.prog 80=true:=by kernel_rfl
@[go_sem] theorem ty.f81:okF Tryz.prog 81=true:=by kernel_rfl
@[go_sem] theorem ty.f82:okF Tryz.prog 82=true:=by kernel_rfl
@[go_sem] theorem ty.f86:okF Tryz.prog 86=true:=by kernel_rfl
@[go_sem] theorem ty.f93:okF Tryz.prog 93=true:=by kernel_rfl
@[go_sem] theorem ty.f94:okF Tryz.prog 94=true:=by kernel_rfl
@[go_sem] theorem ty.f96:okF Tryz.prog 96=true:=by kernel_rfl
@[go_sem] theorem ty.f97:okF Tryz.prog 97=true:=by kernel_rfl
@[go_sem] theorem ty.f98:okF Tryz.prog 98=true:=by kernel_rfl
@[go_sem] theorem ty.f99:okF Tryz.prog 99=true:=by kernel_rfl
@[go_sem] theorem ty.f102:okF Tryz.prog 102=true:=by kernel_rfl
@[go_sem] theorem ty.f103:okF Tryz.prog 103=true:=by kernel_rfl
@[go_sem] theorem ty.f104:okF Tryz.prog 104=true:=by kernel_rfl
@[go_sem] theorem ty.f108:okF Tryz.prog 108=true:=by kernel_rfl
@[go_sem] theorem ty.f109:okF Tryz.prog 109=true:=by kernel_rfl
@[go_sem] theorem ty.f110:okF Tryz.prog 110=true:=by kernel_rfl
@[go_sem] theorem ty.f111:okF Tryz.prog 111=true:=by kernel_rfl
@[go_sem] theorem ty.f112:okF Tryz.prog 112=true:=by kernel_rfl
@[go_sem] theorem ty.f113:okF Tryz.prog 113=false:=by kernel_rfl
@[go_sem] theorem ty.f115:okF Tryz.prog 115=true:=by kernel_rfl
@[go_sem] theorem ty.f116:okF Tryz.prog 116=true:=by kernel_rfl
@[go_sem] theorem ty.f117:okF Tryz.prog 117=true:=by kernel_rfl
@[go_sem] theorem ty.f118:okF Tryz.prog 118=true:=by kernel_rfl
@[go_sem] theorem ty.f119:okF Tryz.prog 119=true:=by kernel_rfl
@[go_sem] theorem ty.f120:okF Tryz.prog 120=true:=by kernel_rfl
@[go_sem] theorem ty.f121:okF Tryz.prog 121=true:=by kernel_rfl
@[go_sem] theorem ty.f122:okF Tryz.prog 122=true:=by kernel_rfl
@[go_sem] theorem ty.f123:okF Tryz.prog 123=true:=by kernel_rfl
@[go_sem] theorem ty.f124:okF Tryz.prog 124=true:=by kernel_rfl
@[go_sem] theorem ty.f125:okF Tryz.prog 125=true:=by kernel_rfl
@[go_sem] theorem ty.f126:okF Tryz.prog 126=true:=by kernel_rfl
@[go_sem] theorem ty.f127:okF Tryz.prog 127=true:=by kernel_rfl
@[go_sem] theorem ty.f128:okF Tryz.prog 128=true:=by kernel_rfl
@[go_sem] theorem ty.f129:okF Tryz.prog 129=true:=by kernel_rfl
@[go_sem] theorem ty.f130:okF Tryz.prog 130=true:=by kernel_rfl
@[go_sem] theorem ty.f131:okF Tryz.prog 131=true:=by kernel_rfl
@[go_sem] theorem ty.f132:okF Tryz.prog 132=true:=by kernel_rfl
@[go_sem] theorem ty.f133:okF Tryz.prog 133=true:=by kernel_rfl
@[go_sem] theorem ty.f134:okF Tryz.prog 134=true:=by kernel_rfl
@[go_sem] theorem ty.f135:okF Tryz.prog 135=true:=by kernel_rfl
@[go_sem] theorem ty.f136:okF Tryz.prog 136=true:=by kernel_rfl
@[go_sem] theorem ty.f137:okF Tryz.prog 137=true:=by kernel_rfl
@[go_sem] theorem ty.f138:okF Tryz.prog 138=true:=by kernel_rfl
@[go_sem] theorem ty.f139:okF Tryz.prog 139=true:=by kernel_rfl
@[go_sem] theorem ty.f140:okF Tryz.prog 140=true:=by kernel_rfl
@[go_sem] theorem ty.f141:okF Tryz.prog 141=true:=by kernel_rfl
@[go_sem] theorem ty.f147:okF Tryz.prog 147=true:=by kernel_rfl
@[go_sem] theorem ty.f148:okF Tryz.prog 148=true:=by kernel_rfl
@[go_sem] theorem ty.f150:okF Tryz.prog 150=true:=by kernel_rfl
@[go_sem] theorem ty.f151:okF Tryz.prog 151=true:=by kernel_rfl
@[go_sem] theorem ty.f158:okF Tryz.prog 158=true:=by kernel_rfl
@[go_sem] theorem ty.f163:okF Tryz.prog 163=true:=by kernel_rfl
@[go_sem] theorem ty.f164:okF Tryz.prog 164=true:=by kernel_rfl
@[go_sem] theorem ty.f165:okF Tryz.prog 165=true:=by kernel_rfl
@[go_sem] theorem ty.f167:okF Tryz.prog 167=true:=by kernel_rfl
@[go_sem] theorem ty.f168:okF Tryz.prog 168=true:=by kernel_rfl
@[go_sem] theorem ty.f169:okF Tryz.prog 169=true:=by kernel_rfl
@[go_sem] theorem ty.f170:okF Tryz.prog 170=true:=by kernel_rfl
@[go_sem] theorem ty.f171:okF Tryz.prog 171=true:=by kernel_rfl
@[go_sem] theorem ty.f172:okF Tryz.prog 172=true:=by kernel_rfl
@[go_sem] theorem ty.f173:okF Tryz.prog 173=true:=by kernel_rfl
@[go_sem] theorem ty.f174:okF Tryz.prog 174=true:=by kernel_rfl
@[go_sem] theorem ty.f175:okF Tryz.prog 175=true:=by kernel_rfl
@[go_sem] theorem ty.f176:okF Tryz.prog 176=true:=by kernel_rfl
@[go_sem] theorem ty.f177:okF Tryz.prog 177=true:=by kernel_rfl
@[go_sem] theorem ty.f178:okF Tryz.prog 178=true:=by kernel_rfl
@[go_sem] theorem ty.f179:okF Tryz.prog 179=true:=by kernel_rfl
@[go_sem] theorem ty.f180:okF Tryz.prog 180=true:=by kernel_rfl
@[go_sem] theorem ty.f181:okF Tryz.prog 181=true:=by kernel_rfl
@[go_sem] theorem ty.f182:okF Tryz.prog 182=true:=by kernel_rfl
@[go_sem] theorem ty.f183:okF Tryz.prog 183=true:=by kernel_rfl
@[go_sem] theorem ty.f184:okF Tryz.prog 184=true:=by kernel_rfl
@[go_sem] theorem ty.f185:okF Tryz.prog 185=true:=by kernel_rfl
@[go_sem] theorem ty.f186:okF Tryz.prog 186=true:=by kernel_rfl
@[go_sem] theorem ty.f187:okF Tryz.prog 187=true:=by kernel_rfl
@[go_sem] theorem ty.f188:okF Tryz.prog 188=true:=by kernel_rfl
@[go_sem] theorem ty.f189:okF Tryz.prog 189=true:=by kernel_rfl
@[go_sem] theorem ty.f190:okF Tryz.prog 190=true:=by kernel_rfl
@[go_sem] theorem ty.f196:okF Tryz.prog 196=true:=by kernel_rfl
@[go_sem] theorem ty.f213:okF Tryz.prog 213=true:=by kernel_rfl
@[go_sem] theorem ty.f214:okF Tryz.prog 214=false:=by kernel_rfl
@[go_sem] theorem ty.f215:okF Tryz.prog 215=true:=by kernel_rfl
@[go_sem] theorem ty.f216:okF Tryz.prog 216=true:=by kernel_rfl
@[go_sem] theorem ty.f217:okF Tryz.prog 217=true:=by kernel_rfl
@[go_sem] theorem ty.f218:okF Tryz.prog 218=true:=by kernel_rfl
@[go_sem] theorem ty.f219:okF Tryz.prog 219=true:=by kernel_rfl
@[go_sem] theorem ty.f220:okF Tryz.prog 220=true:=by kernel_rfl
@[go_sem] theorem ty.f221:okF Tryz.prog 221=true:=by kernel_rfl
@[go_sem] theorem ty.f222:okF Tryz.prog 222=true:=by kernel_rfl
@[go_sem] theorem ty.f223:okF Tryz.prog 223=true:=by kernel_rfl
@[go_sem] theorem ty.f224:okF Tryz.prog 224=true:=by kernel_rfl
@[go_sem] theorem ty.f225:okF Tryz.prog 225=true:=by kernel_rfl
@[go_sem] theorem ty.f226:okF Tryz.prog 226=true:=by kernel_rfl
@[go_sem] theorem ty.f227:okF Tryz.prog 227=true:=by kernel_rfl
@[go_sem] theorem ty.f228:okF Tryz.prog 228=true:=by kernel_rfl
@[go_sem] theorem ty.f229:okF Tryz.prog 229=true:=by kernel_rfl
@[go_sem] theorem ty.f230:okF Tryz.prog 230=true:=by kernel_rfl
@[go_sem] theorem ty.f231:okF Tryz.prog 231=true:=by kernel_rfl
@[go_sem] theorem ty.f243:okF Tryz.prog 243=true:=by kernel_rfl
@[go_sem] theorem ty.f244:okF Tryz.prog 244=true:=by kernel_rfl
@[go_sem] theorem ty.f245:okF Tryz.prog 245=true:=by kernel_rfl
@[go_sem] theorem ty.f246:okF Tryz.prog 246=true:=by kernel_rfl
@[go_sem] theorem ty.f247:okF Tryz.prog 247=true:=by kernel_rfl
@[go_sem] theorem ty.f248:okF Tryz.prog 248=true:=by kernel_rfl
@[go_sem] theorem ty.f249:okF Tryz.prog 249=true:=by kernel_rfl
@[go_sem] theorem ty.f250:okF Tryz.prog 250=true:=by kernel_rfl
@[go_sem] theorem ty.f251:okF Tryz.prog 251=true:=by kernel_rfl
@[go_sem] theorem ty.f252:okF Tryz.prog 252=true:=by kernel_rfl
@[go_sem] theorem ty.f253:okF Tryz.prog 253=true:=by kernel_rfl
@[go_sem] theorem ty.f257:okF Tryz.prog 257=true:=by kernel_rfl
@[go_sem] theorem ty.f258:okF Tryz.prog 258=true:=by kernel_rfl
@[go_sem] theorem ty.f259:okF Tryz.prog 259=true:=by kernel_rfl
@[go_sem] theorem ty.f260:okF Tryz.prog 260=true:=by kernel_rfl
@[go_sem] theorem ty.f261:okF Tryz.prog 261=true:=by kernel_rfl
@[go_sem] theorem ty.f262:okF Tryz.prog 262=true:=by kernel_rfl
@[go_sem] theorem ty.f263:okF Tryz.prog 263=true:=by kernel_rfl
@[go_sem] theorem ty.f264:okF Tryz.prog 264=true:=by kernel_rfl
@[go_sem] theorem ty.f265:okF Tryz.prog 265=true:=by kernel_rfl
@[go_sem] theorem ty.f266:okF Tryz.prog 266=true:=by kernel_rfl
@[go_sem] theorem ty.f267:okF Tryz.prog 267=true:=by kernel_rfl
@[go_sem] theorem ty.f268:okF Tryz.prog 268=true:=by kernel_rfl
@[go_sem] theorem ty.f269:okF Tryz.prog 269=true:=by kernel_rfl
@[go_sem] theorem ty.f270:okF Tryz.prog 270=true:=by kernel_rfl
@[go_sem] theorem ty.f271:okF Tryz.prog 271=true:=by kernel_rfl
@[go_sem] theorem ty.f272:okF Tryz.prog 272=true:=by kernel_rfl
@[go_sem] theorem ty.f274:okF Tryz.prog 274=true:=by kernel_rfl
@[go_sem] theorem ty.f275:okF Tryz.prog 275=true:=by kernel_rfl
@[go_sem] theorem ty.f293:okF Tryz.prog 293=true:=by kernel_rfl
@[go_sem] theorem ty.f294:okF Tryz.prog 294=true:=by kernel_rfl
@[go_sem] theorem ty.f295:okF Tryz.prog 295=true:=by kernel_rfl
@[go_sem] theorem ty.f296:okF Tryz.prog 296=false:=by kernel_rfl
@[go_sem] theorem ty.f297:okF Tryz.prog 297=true:=by kernel_rfl
@[go_sem] theorem ty.f298:okF Tryz.prog 298=true:=by kernel_rfl
@[go_sem] theorem ty.f299:okF Tryz.prog 299=true:=by kernel_rfl
@[go_sem] theorem ty.f300:okF Tryz.prog 300=true:=by kernel_rfl
@[go_sem] theorem ty.f301:okF Tryz.prog 301=true:=by kernel_rfl
@[go_sem] theorem ty.f302:okF Tryz.prog 302=true:=by kernel_rfl
theorem mx:Tryz.prog.follows .mixedOrders=true:=by kernel_rfl
end Go.Proofs.YtpjenciplibdnaaGreatDoor
namespace Aml
open Go Go.RowKit
def wh:List DV→Nat→List Nat→List DV
 |[],_,_=>[]
 |_::ds,i,[]=> .any::wh ds (i+1) []
 |d::ds,i,j::js=>if i=j then d::wh ds (i+1) js else .any::wh ds (i+1) (j::js)
def wk(live:List Nat)(fr:List DV):List DV:=wh fr 0 live
def nK(fr:List DV):List (Nat×DV)→List DV
 |[]=>fr
 |(i,d)::us=>nK (fr.set i d) us
structure VW where
 a0:DV
 a1:DV
 a2:DV
 a3:DV
 a4:DV
 a5:DV
 a6:DV
 a7:DV
 a8:DV
 a9:DV
 bS:DV
 bZ:DV
 a12:DV
 cz:DV
 cJ:DV
 cQ:DV
def rc(r:VW)(l:List DV):List DV:=r.a0::r.a1::r.a2::r.a3::r.a4::r.a5::r.a6::r.a7::r.a8::r.a9::r.bS::r.bZ::r.a12::r.cz::r.cJ::r.cQ::l
def fm(l:List DV):List DV:=l
theorem Mo{g:Gh}:∀{ds es:List DV} {us:List Value},ai g ds us→ds.length=es.length→(∀(i:Nat) (d e:DV),ds[i]? =some d→es[i]? =some e→e=d∨e= .any)→ai g es us:=
 fun{ds es us} h hl hs=>⟨by rw[←hl];exact h.len,fun i e u h1 h2=>by
  have hi:i<ds.length:=by rw[hl];exact(List.getElem?_eq_some_iff.1 h1).1
  rcases hs i _ e (List.getElem?_eq_getElem hi) h1 with rfl|rfl
  ·exact h.at_ i _ u (List.getElem?_eq_getElem hi) h2
  ·exact .any u⟩
theorem mA:∀(ds:List DV) (k:Nat) (js:List Nat),(wh ds k js).length=ds.length∧∀(i:Nat) (d e:DV),ds[i]? =some d→(wh ds k js)[i]? =some e→e=d∨e= .any
 |[],k,js=>⟨by simp[wh],fun i d e h=>by simp at h⟩
 |d::ds,k,[]=>by
  obtain⟨h1,h2⟩:=mA ds (k+1) []
  refine⟨by simp[wh,h1],fun i d' e a b=>?_⟩
  cases i with
  |zero=>simp[wh]at b;exact .inr b.symm
  |succ i=>simp[wh]at a b;exact h2 i d' e a b
 |d::ds,k,j::js=>by
  simp only[wh]
  split
  ·obtain⟨h1,h2⟩:=mA ds (k+1) js
   refine⟨by simp[h1],fun i d' e a b=>?_⟩
   cases i with
   |zero=>simp at a b;exact .inl (b.symm.trans a)
   |succ i=>simp at a b;exact h2 i d' e a b
  ·obtain⟨h1,h2⟩:=mA ds (k+1) (j::js)
   refine⟨by simp[h1],fun i d' e a b=>?_⟩
   cases i with
   |zero=>simp at b;exact .inr b.symm
   |succ i=>simp at a b;exact h2 i d' e a b
theorem wY{g:Gh}{fr:List DV}{us:List Value}(live:List Nat)(h:ai g fr us):ai g (wk live fr) us:=
 Mo h (mA fr 0 live).1.symm (mA fr 0 live).2
section
variable {P:Program} {w0:W0}
theorem Md(i s:Nat)(hs:0<s){c:Code}{fr:List DV}{S:St}{Q:Exit→List DV→St→Prop}{s0:Nat}(hi:fr[i]? =some (.sl s0 true []))
 (h:∀l,jD S.acc l→gk P w0 c (fr.set i (.acc l 0)) ⟨S.box,(l,.arr s [])::S.acc⟩ Q):gk P w0 c fr S Q:=by
 intro g a w h1 h2 h3
 have hlt:i<a.tmps.toList.length:=by rw[←h2.len];exact(List.getElem?_eq_some_iff.1 hi).1
 have hr:=h2.at_ i _ _ hi (List.getElem?_eq_getElem hlt)
 have hr':aK g (.sl s true []) a.tmps.toList[i]:=by obtain⟨o',ho'⟩:=eD hr;rw[ho'];exact .nil _ _ _ _ fun _=>rfl
 obtain⟨l,g',hle,hne,hR,hA⟩:=h1.rf hs hr' (.arr s []) (.inr ⟨rfl,rfl⟩)
 have hfr:=fj (h2.mono hle) (List.getElem?_eq_getElem hlt) hA
 exact eK (h l (dn hne) g' a w hR hfr (hle.dk h3)) fun _ _ _ k=>k.of_le hle
end
end Aml
namespace Aml
open Go Go.RowKit
def F5(xs:List DV)(i:Nat)(F:DV→Prop):Prop:=∀d,xs[i]? =some d→eL d=true∧F d
def Ev(xs:List DV)(i:Nat)(F:DV→Prop):Prop:=∃d,xs[i]? =some d∧eL d=true∧F d
theorem Bq{α:Type}(f:α→DV)(l:List α)(i:Nat)(F:DV→Prop):F5 (List.map f l) i F=∀a,l[i]? =some a→eL (f a)=true∧F (f a):=by
 unfold F5
 refine propext ⟨fun h a ha=>h _ (by rw[List.getElem?_map,ha];rfl),fun h d hd=>?_⟩
 rw[List.getElem?_map,Option.map_eq_some_iff]at hd
 obtain⟨a,ha,rfl⟩:=hd
 exact h a ha
theorem ID(i:Nat)(F:DV→Prop):F5 [] i F=True:=by simp[F5]
theorem HI(x:DV)(xs:List DV)(F:DV→Prop):F5 (x::xs) 0 F=(eL x=true∧F x):=by simp[F5]
theorem HS(x:DV)(xs:List DV)(i:Nat)(F:DV→Prop):F5 (x::xs) (i+1) F=F5 xs i F:=by simp[F5]
theorem yQ{α:Type}(f:α→DV)(l:List α)(i:Nat)(F:DV→Prop):Ev (List.map f l) i F=(i<l.length∧∀a,l[i]? =some a→eL (f a)=true∧F (f a)):=by
 unfold Ev
 refine propext ⟨fun⟨d,hd,h⟩=>?_,fun⟨hi,h⟩=>⟨f l[i],by rw[List.getElem?_map,List.getElem?_eq_getElem hi];rfl,h _ (List.getElem?_eq_getElem hi)⟩⟩
 rw[List.getElem?_map,Option.map_eq_some_iff]at hd
 obtain⟨a,ha,rfl⟩:=hd
 exact⟨(List.getElem?_eq_some_iff.1 ha).1,fun b hb=>by rw[ha]at hb;cases hb;exact h⟩
theorem KV(i:Nat)(F:DV→Prop):Ev [] i F=False:=by simp[Ev]
theorem NH(u:Value):eL (.v u)=true:=rfl
theorem Mt(s:Nat)(f:Bool)(xs:List DV):eL (.sl s f xs)=true:=rfl
theorem HZ(ds:List DV):eL (.agg ds)=true:=rfl
theorem HF(t:TypeId)(d:DV):eL (.jM t d)=true:=rfl
theorem HK(l n:Nat):eL (.acc l n)=true:=rfl
theorem Ty(u:Value):cd (.v u)=[.v u]:=rfl
theorem Qh(s:Nat)(f:Bool)(xs:List DV):cd (.sl s f xs)=[.sl s f xs]:=rfl
theorem Lp(ds:List DV):cd (.agg ds)=ds:=rfl
theorem IA(t:TypeId)(d:DV):cd (.jM t d)=[.jM t d]:=rfl
theorem KH(l n:Nat):cd (.acc l n)=[.acc l n]:=rfl
theorem nF{α:Type}(k:Nat)(x:α)(t:List (Nat×α)):lk ((k,x)::t) k=some x:=by simp[lk]
theorem px{α:Type}{k n:Nat}(h:¬k=n)(x:α)(t:List (Nat×α)):lk ((k,x)::t) n=lk t n:=by simp[lk,h]
theorem GK{α:Type}(k:Nat)(x y:α)(t:List (Nat×α)):up ((k,x)::t) k y=(k,y)::t:=by simp[up]
theorem NQ{α:Type}{k n:Nat}(h:¬k=n)(x y:α)(t:List (Nat×α)):up ((k,x)::t) n y=(k,x)::up t n y:=by simp[up,h]
section
variable {P:Program} {w0:W0} (K:DV→Prop) (K2:DV→St→Prop) (S:St)
theorem J2(k:IntKind)(d:DV)(ds:List DV):p8 (.int k) (d::ds) K=K d:=rfl
theorem JJ(d:DV)(ds:List DV):p8 .one (d::ds) K=K d:=rfl
theorem Py(d:DV)(ds:List DV):p8 .fn (d::ds) K=K d:=rfl
theorem Li(d:DV)(ds:List DV):p8 .str (d::ds) K=K d:=rfl
theorem OO(e s b:Nat)(i:Bool)(d:DV)(ds:List DV):p8 (.sl e s b i) (d::ds) K=K d:=rfl
theorem IV(k e:Nat)(d:DV)(ds:List DV):p8 (.map k e) (d::ds) K=K d:=rfl
theorem I0(e:Nat)(d:DV)(ds:List DV):p8 (.ptr e) (d::ds) K=K d:=rfl
theorem I1(m:List String)(d:DV)(ds:List DV):p8 (.jM m) (d::ds) K=K d:=rfl
theorem PJ(fs:List (Nat×Nat×Bool))(n:Nat)(ds:List DV):p8 (.st fs n) ds K=(n≤ds.length∧K (.agg (ds.take n))):=rfl
theorem HO(k:TK)(ds:List DV):bG k S (.ip ds) K=p8 k ds K:=rfl
theorem Nl(e s b s':Nat)(f:Bool)(xs:List DV)(k:IntKind)(z:Int):aG (.sl e s b true) (.sl s' f xs) (.v (.int k z)) K=(s'=s∧0≤z∧z<xs.length∧F5 xs z.toNat fun d=>K (.ip (cd d))):=rfl
theorem Mp(e s b bb o n c:Nat)(k:IntKind)(z:Int):aG (.sl e s b true) (.v (.slice (some ⟨bb,o,none⟩) n c)) (.v (.int k z)) K=(0≤z∧z<n∧K (.v (.pointer (some ⟨bb,o+z.toNat*s,none⟩)))):=rfl
theorem My(len e s nn bb o:Nat)(a:Bool)(k:IntKind)(z:Int):aG (.ar len e s a nn) (.v (.pointer (some ⟨bb,o,none⟩))) (.v (.int k z)) K=(0<s∧0≤z∧z<len∧K (.v (.pointer (some ⟨bb,o+z.toNat*s,none⟩)))):=rfl
theorem F8(len e s nn:Nat)(a:Bool)(ds:List DV)(k:IntKind)(z:Int):aG (.ar len e s a nn) (.ip ds) (.v (.int k z)) K=(0<s∧0≤z∧z<len∧z.toNat*s≤ds.length∧K (.ip (ds.drop (z.toNat*s)))):=rfl
theorem Mf(e s b l n:Nat)(k:IntKind)(z:Int):aG (.sl e s b true) (.acc l n) (.v (.int k z)) K=(0≤z∧z<n∧K (.ap l n s z.toNat 0)):=rfl
theorem O1(s:ByteArray)(k:IntKind)(z:Int):jJ .str (.v (.string s)) (.v (.int k z)) K=(0≤z∧z<s.size∧∀c,s.data.toList[z.toNat]? =some c→K (.v (.int .u8 c.toNat))):=rfl
theorem IF(op:BinOp)(t:TK)(cx cy:Bool)(k k':IntKind)(m n:Int):r9 op t cx cy (.v (.int k m)) (.v (.int k' n)) K=(sameKind op k k'=true∧nR op k m n K):=rfl
theorem Ju(op:BinOp)(t:TK)(cx cy:Bool)(a b:ByteArray):r9 op t cx cy (.v (.string a)) (.v (.string b)) K=jx op a b K:=rfl
theorem KF(cx cy a b:Bool):r9 .neq .one cx cy (.v (.bool a)) (.v (.bool b)) K=K (.v (.bool (!(a==b)))):=rfl
theorem Ix(b:Bool):GQ .not (.v (.bool b)) K=K (.v (.bool (!b))):=rfl
theorem Lo(k:IntKind)(n:Int):GQ .xor (.v (.int k n)) K=K (.v (.int k (fa .xor k (if k.signed then -1 else k.max) n))):=rfl
theorem IQ(k0 k k1:IntKind)(n:Int):iP (.int k0) (.int k) (.v (.int k1 n)) K=K (.v (.int k (k.wrap n))):=rfl
theorem JW(a:Addr):notNil (.v (.pointer (some a)))=true:=rfl
theorem JB(u:Value):nh S (.v u) K2=K2 (.v u) S:=rfl
theorem Ig(s:Nat)(f:Bool)(xs:List DV):nh S (.sl s f xs) K2=K2 (.sl s f xs) S:=rfl
theorem Af(K3:List DV→St→Prop):mZ S [] K3=K3 [] S:=rfl
theorem wV(d:DV)(ds:List DV)(K3:List DV→St→Prop):mZ S (d::ds) K3=nh S d fun e S=>mZ S ds fun es S=>K3 (e::es) S:=rfl
theorem Ox(u:Value):shr S (.v u) K2=K2 (.v u) S:=rfl
theorem IM(s:Nat)(f:Bool)(xs:List DV):shr S (.sl s f xs) K2=K2 (.sl s f xs) S:=rfl
theorem GD(t:TypeId)(d:DV):shr S (.jM t d) K2=K2 (.jM t d) S:=rfl
theorem FT(l n:Nat):shr S (.acc l n) K2=nh S (.acc l n) K2:=rfl
theorem HC(ds:List DV):shr S (.agg ds) K2=mZ S ds fun ds S=>K2 (.agg ds) S:=rfl
theorem C9(K3:List DV→St→Prop):gy S [] K3=K3 [] S:=rfl
theorem zF(d:DV)(ds:List DV)(K3:List DV→St→Prop):gy S (d::ds) K3=shr S d fun e S=>gy S ds fun es S=>K3 (e::es) S:=rfl
theorem KM(u:Value):oC S (.v u) K2=K2 (.v u) S:=rfl
theorem GJ(s:Nat)(f:Bool)(xs:List DV):oC S (.sl s f xs) K2=K2 (.sl s f xs) S:=rfl
theorem CO(l n:Nat):oC S (.acc l n) K2=nh S (.acc l n) K2:=rfl
theorem Di(ds:List DV):oC S (.agg ds) K2=mZ S ds fun ds S=>K2 (.agg ds) S:=rfl
theorem CZ(ds:List DV):oC S (.bD ds) K2=gy S ds fun ds S=>K2 (.bD ds) S:=rfl
theorem Cd(z:Int)(K4:Int→Prop):kI none z K4=K4 z:=rfl
theorem Cj(k:IntKind)(n z:Int)(K4:Int→Prop):kI (some (.v (.int k n))) z K4=K4 n:=rfl
theorem Cz(e s b s':Nat)(f:Bool)(xs:List DV)(lo hi mx:Option DV):fu (.sl e s b true) (.sl s' f xs) lo hi mx K=((s'=s∨xs=[])∧kI lo 0 fun l=>kI hi xs.length fun h=>kI mx h fun m=>0≤l∧l≤h∧h≤m∧m≤xs.length∧
 K (.sl s (if mx.isSome then decide (m=h)else(f&&(hi.isNone||xs.isEmpty))) ((xs.take h.toNat).drop l.toNat))):=rfl
theorem Am(s:ByteArray)(lo hi mx:Option DV):fu .str (.v (.string s)) lo hi mx K=(mx.isNone=true∧kI lo 0 fun l=>kI hi s.size fun h=>0≤l∧l≤h∧h≤s.size∧K (.v (.string (s.extract l.toNat h.toNat)))):=rfl
theorem Kn(e s b:Nat)(i:Bool)(s':Nat)(f:Bool)(xs:List DV):oI (.sl e s b i) (.sl s' f xs) K=K (.v (.int .i64 xs.length)):=rfl
theorem H3(e s b:Nat)(i:Bool)(l n:Nat):oI (.sl e s b i) (.acc l n) K=K (.v (.int .i64 n)):=rfl
theorem Gf(s:ByteArray):oI .str (.v (.string s)) K=K (.v (.int .i64 s.size)):=rfl
theorem WO(k k':IntKind)(m n:Int):rO (.v (.int k m)) (.v (.int k' n)) K=K (.v (.int k (if n<m then n else m))):=rfl
theorem Wp(k k':IntKind)(m n:Int):rT (.v (.int k m)) (.v (.int k' n)) K=K (.v (.int k (if m<n then n else m))):=rfl
theorem zm(k:TK)(s:Nat)(f:Bool)(xs:List DV)(lo hi mx:Option DV):il k S (.sl s f xs) lo hi mx K2=fu k (.sl s f xs) lo hi mx (K2 · S):=rfl
theorem Ca(k:TK)(u:Value)(lo hi mx:Option DV):il k S (.v u) lo hi mx K2=fu k (.v u) lo hi mx (K2 · S):=rfl
theorem xw(k:TK)(l n:Nat)(lo hi mx:Option DV):il k S (.acc l n) lo hi mx K2=((lo.isNone=true∧mx.isNone=true∧UM n hi∧(∃e s b,k= .sl e s b true)∧wH S (.acc l n) (Wz hi) K2)∨jZ k S (.acc l n) lo hi mx K2):=rfl
theorem V3(k:IntKind)(m:Nat)(n:Int):UM m (some (.v (.int k n)))=((n==0)=true∨(0≤n∧n≤m)):=rfl
theorem VF(k:IntKind)(n:Int):Wz (some (.v (.int k n)))=n.toNat:=rfl
theorem PR(m:Nat):UM m none=False:=rfl
theorem Eg(t:Nat):iM (.tmp t)=false:=rfl
theorem Ef(k:IntKind)(n:Int):iM (.const (.int k n))=false:=rfl
theorem Ed(s:ByteArray):iM (.const (.string s))=false:=rfl
theorem Dh:iM (.const (.slice none 0 0))=true:=rfl
theorem Cl(e s b s':Nat)(i f:Bool)(xs:List DV):mu .eql (.sl e s b i) (.sl s' f xs) K=∀b:Bool,(xs≠[]→b=false)→K (.v (.bool b)):=rfl
theorem CX(e s b n c:Nat)(i:Bool)(p:Addr):mu .eql (.sl e s b i) (.v (.slice (some p) n c)) K=K (.v (.bool false)):=rfl
theorem Lx(e s b s':Nat)(z:DV)(k:IntKind)(n:Int):lR (.sl e s b true) z S (.sl s' true []) (.v (.int k n)) K2=(eL z=true∧0<n∧n*b≤140737488355328∧n≤9223372036854775807∧∀l,jD S.acc l→K2 (.acc l n.toNat) ⟨S.box,(l,.arr s (List.replicate n.toNat z))::S.acc⟩):=rfl
theorem CC(n:Nat)(u:Value)(y:DV)(K5:St→Prop):fE n S (.v u) y K5=oE n S (.v u) y K5:=rfl
theorem zI(e s b:Nat)(z:DV)(k k':IntKind)(n m:Int):fL (.sl e s b true) z (.v (.int k n)) (.v (.int k' m)) S K2=(eL z=true∧0≤n∧n≤m∧m*b≤140737488355328∧m≤9223372036854775807∧∀l,jD S.acc l→K2 (.acc l n.toNat) ⟨S.box,(l,.arr s (List.replicate n.toNat z))::S.acc⟩):=rfl
theorem WV(e s b:Nat)(i:Bool)(s':Nat)(xs:List DV):rX (.sl e s b i) (.sl s' true xs) K=K (.v (.int .i64 xs.length)):=rfl
theorem HM(s:Nat)(f:Bool)(xs:List DV)(K6:Nat→List DV→Prop):fY S (.sl s f xs) K6=K6 s xs:=rfl
theorem C6(b o n c:Nat)(K6:Nat→List DV→Prop):fY S (.v (.slice (some ⟨b,o,none⟩) n c)) K6=oK (lk S.box b) fun ds=>o+n≤ds.length∧K6 1 ((ds.drop o).take n):=by
 cases h:lk S.box b <;>simp[fY,oK,h]
theorem DE(b:ByteArray)(K6:Nat→List DV→Prop):fY S (.v (.string b)) K6=K6 1 (b.data.toList.map fun c=> .v (.int .u8 c.toNat)):=rfl
theorem M9(e s b:Nat)(k2:TK)(x y:DV):lx (.sl e s b true) k2 S x y K2=(ov k2=true∧fY S y fun s2 ys=>(s2=s∨ys=[])∧vy s b S x ys K2):=rfl
theorem HD(s0 s by':Nat)(ys:List DV):vy s by' S (.sl s0 true []) ys K2=(ys.length*by'≤140737488355328∧ys.length≤maxLen∧∀l,jD S.acc l→K2 (.acc l ys.length) ⟨S.box,(l,.arr s ys)::S.acc⟩):=rfl
theorem DP(s0 s by':Nat)(x:DV)(xs ys:List DV):vy s by' S (.sl s0 true (x::xs)) ys K2=(s0=s∧((x::xs).length+ys.length)*by'≤140737488355328∧(x::xs).length+ys.length≤maxLen∧∀l,jD S.acc l→K2 (.acc l ((x::xs)++ys).length) ⟨S.box,(l,.tl s ((x::xs)++ys))::S.acc⟩):=rfl
theorem TJ(f:FuncId)(a cap:Array Value)(ds:List DV):pD P w0 (.v (.func (.func f) a cap)) ds S K2=(cap.toList.all (fun u=>u.oneCell')=true∧Gt a (gX (okF P f) (iD S ds fun ds S=>@AC P w0 f (ds++cap.toList.map .v) S ⟨K2⟩) (@XC P w0 f (ds++cap.toList.map .v) S ⟨K2⟩)) fun us=>okF P f=true∧iD S ds fun ds S=>@AC P w0 f (us.map .v++(ds++cap.toList.map .v)) S ⟨K2⟩):=rfl
theorem GF(A:Prop)(B:List Value→Prop):Gt #[] A B=A:=rfl
theorem Hp(u:Value)(A:Prop)(B:List Value→Prop):Gt #[u] A B=(([u]:List Value).all (fun u=>u.oneCell')=true∧B [u]):=rfl
theorem Wc(t:TypeId)(name:String)(F:FuncId→DV→Prop):tZ P (.jM t (.agg [])) name F=oK (rV P t name) fun f=>okF P f=true∧F f (.agg []):=by
 unfold tZ
 cases h:rV P t name <;>simp only[oK,h]
theorem xE:iI []=false:=rfl
theorem yr(l n:Nat)(ds:List DV):iI (.acc l n::ds)=true:=rfl
theorem Ce(u:Value)(ds:List DV):iI (.v u::ds)=iI ds:=rfl
theorem AF(s:Nat)(f:Bool)(xs ds:List DV):iI (.sl s f xs::ds)=iI ds:=rfl
theorem yi(xs ds:List DV):iI (.agg xs::ds)=iI ds:=rfl
theorem H9(fr:List DV)(t:Nat):rz P fr S K (.tmp t)=K (fr.getD t ud):=rfl
theorem Cs(fr:List DV)(a t:Nat):rz P fr S K (.cell a t)=bG (tk P t) S (fr.getD a ud) K:=rfl
theorem D2(fr:List DV)(r:ResultVar):tO P fr S [r] K=rz P fr S K r:=rfl
theorem DR(fr:List DV):tO P fr S [] K=K (.bD []):=rfl
theorem C3(fr:List DV)(r r':ResultVar)(rs:List ResultVar):tO P fr S (r::r'::rs) K=uB P fr S (r::r'::rs) fun ds=>K (.bD ds):=rfl
end
theorem wP{α:Type}(a:α)(F:α→Prop):oK (some a) F=F a:=rfl
def bK:Option Ob→(Nat→List DV→Prop)→(Nat→List DV→Prop)→Prop
 |some (.arr s xs),F,_=>F s xs
 |some (.tl s xs),_,G=>G s xs
 |_,_,_=>False
theorem LG(s:Nat)(xs:List DV)(F G:Nat→List DV→Prop):bK (some (.arr s xs)) F G=F s xs:=rfl
theorem Ol(s:Nat)(xs:List DV)(F G:Nat→List DV→Prop):bK (some (.tl s xs)) F G=G s xs:=rfl
def SP(p:Option (Nat×Nat×Bool))(x:DV)(K:DV→Prop):Prop:=match p with
 |some (off,sz,_)=>sz≠0∧(match x with
  | .v (.pointer (some ⟨b,o,none⟩))=>K (.v (.pointer (some ⟨b,o+off,none⟩)))
  | .ip ds=>off≤ds.length∧K (.ip (ds.drop off))
  | .ap l n s i o=>K (.ap l n s i (o+off))
  |_=>False)
 |none=>False
def Za(p:Option (Nat×Nat×Bool))(ds:List DV)(K:DV→Prop):Prop:=match p with
 |some (off,sz,true)=>off+sz≤ds.length∧K (.agg ((ds.drop off).take sz))
 |some (off,sz,false)=>off+sz≤ds.length∧oK (ds[off]?) K
 |none=>False
def gD(t:Nat)(d:DV)(fr:List DV)(want:Bool)(A B:List DV→Prop):Prop:=match d with
 | .v (.bool b)=>(b=want→A (fr.set t (.v (.bool want))))∧(b=!want→B (fr.set t (.v (.bool !want))))
 | .bD []=>B fr
 |_=>False
def gK(t:Option Tmp)(fr:List DV)(want:Bool)(A B:List DV→Prop):Prop:=match t with
 |none=>B fr
 |some t=>gD t (fr.getD t ud) fr want A B
def WA(k:TK)(z:DV)(parts:List (Nat×DV))(K:DV→Prop):Prop:=match k,z with
 | .st fs _,.agg zs=>oK (kO fs zs parts) fun ds=>K (.agg ds)
 |_,_=>False
section
variable {P:Program} {w0:W0} (K:DV→Prop) (K2:DV→St→Prop) (S:St)
theorem DZ(k:TK)(b o:Nat):bG k S (.v (.pointer (some ⟨b,o,none⟩))) K=oK (lk S.box b) fun ds=>p8 k (ds.drop o) K:=by
 cases h:lk S.box b <;>simp[bG,oK,h]
theorem F0(k:TK)(l n s i o:Nat):bG k S (.ap l n s i o) K=bK (lk S.acc l) (fun s' xs=>xs.length=n∧s'=s∧Ev xs i fun d=>p8 k ((cd d).drop o) K) (fun s' xs=>xs.length=n∧s'=s∧Ev xs i fun d=>p8 k ((cd d).drop o) K):=by
 cases h:lk S.acc l with
 |none=>simp[bG,bK,h]
 |some o=>cases o <;>simp[bG,bK,h,Ev]
theorem DC(n e s nn bb o:Nat)(a:Bool)(lo hi mx:Option DV):fu (.ar n e s a nn) (.v (.pointer (some ⟨bb,o,none⟩))) lo hi mx K=(0<s∧kI lo 0 fun l=>kI hi n fun h=>kI mx n fun m=>0≤l∧l≤h∧h≤m∧m≤n∧
 K (.v (.slice (some ⟨bb,if m.toNat=l.toNat then o else o+l.toNat*s,none⟩) (h.toNat-l.toNat) (m.toNat-l.toNat)))):=rfl
theorem Bj(e s b bb o n c:Nat)(lo hi mx:Option DV):fu (.sl e s b true) (.v (.slice (some ⟨bb,o,none⟩) n c)) lo hi mx K=kI lo 0 fun l=>kI hi n fun h=>kI mx c fun m=>0≤l∧l≤h∧h≤m∧m≤c∧
 K (.v (.slice (some ⟨bb,if m.toNat=l.toNat then o else o+l.toNat*s,none⟩) (h.toNat-l.toNat) (m.toNat-l.toNat))):=rfl
theorem Gi(e s b:Nat)(i:Bool)(a:Option Addr)(n c:Nat):oI (.sl e s b i) (.v (.slice a n c)) K=K (.v (.int .i64 n)):=rfl
theorem FZ(e s b:Nat)(i:Bool)(a:Option Addr)(n c:Nat):rX (.sl e s b i) (.v (.slice a n c)) K=K (.v (.int .i64 c)):=rfl
theorem zO(a:Addr)(n c:Nat):uu (.v (.slice (some a) n c))=true:=rfl
theorem DX(s:Nat)(f:Bool)(xs:List DV):uu (.sl s f xs)=false:=rfl
theorem zl(l n:Nat):uu (.acc l n)=false:=rfl
theorem CH(s b o m c:Nat)(F:Nat→List DV→Prop):oR S s (.v (.slice (some ⟨b,o,none⟩) m c)) F=oK (lk S.box b) fun es=>o+m*s≤es.length∧F m ((es.drop o).take (m*s)):=by
 cases h:lk S.box b <;>simp[oR,oK,h]
theorem GG(s s':Nat)(f:Bool)(ys:List DV)(F:Nat→List DV→Prop):oR S s (.sl s' f ys) F=((s'=s∨ys=[])∧(∀d,d∈ys→eL d=true)∧F ys.length (ys.flatMap cd)):=rfl
theorem SE(e s b bb o n c:Nat)(y:DV):pd (.sl e s b true) S (.v (.slice (some ⟨bb,o,none⟩) n c)) y K2=oK (lk S.box bb) fun ds=>o+n*s≤ds.length∧wg S s ds o bb n y K2:=by
 cases h:lk S.box bb with
 |none=>simp[pd,oK,h]
 |some ds=>
  simp only[pd,oK,h,wg]
  split
  ·rename_i b2 o2 m c2
   cases h2:lk S.box b2 <;>simp[oK]
  ·rfl
theorem y8(s bb o n:Nat)(ds:List DV)(b2 o2 m c2:Nat):wg S s ds o bb n (.v (.slice (some ⟨b2,o2,none⟩) m c2)) K2=oK (lk S.box b2) fun es=>o2+m*s≤es.length∧K2 (.v (.int .i64 (min m n:Nat))) ⟨up S.box bb (ct ds o ((es.drop o2).take (min m n*s))),S.acc⟩:=rfl
theorem BP(s bb o n:Nat)(ds:List DV)(s':Nat)(f:Bool)(ys:List DV):wg S s ds o bb n (.sl s' f ys) K2=((s'=s∨ys=[])∧(∀d,d∈ys→eL d=true)∧ys.length≤n∧K2 (.v (.int .i64 ys.length)) ⟨up S.box bb (ct ds o (ys.flatMap cd)),S.acc⟩):=rfl
theorem PU(e s b bb o n c:Nat)(z:DV):mw (.sl e s b true) z S (.v (.slice (some ⟨bb,o,none⟩) n c)) K2=oK (lk S.box bb) fun ds=>eL z=true∧o+n*s≤ds.length∧K2 ud ⟨up S.box bb (ct ds o (iQ z n)),S.acc⟩:=by
 cases h:lk S.box bb <;>simp[mw,oK,h]
theorem TE(e s by' b o n c:Nat)(k2:TK)(y:DV):rJ (.sl e s by' true) k2 S (.v (.slice (some ⟨b,o,none⟩) n c)) y K2=oK (lk S.box b) fun ds=>ov k2=true∧o+c*s≤ds.length∧n≤c∧oR S s y fun m cs=>
 (n+m≤c→K2 (.v (.slice (some ⟨b,o,none⟩) (n+m) c)) ⟨up S.box b (ct ds (o+n*s) cs),S.acc⟩)∧
 (c<n+m→(n+m)*by'≤140737488355328∧n+m≤maxLen∧∀C,n+m≤C→C≤maxLen→∀b2,jD S.box b2→
  K2 (.v (.slice (some ⟨b2,0,none⟩) (n+m) C)) ⟨(b2,(ds.drop o).take (n*s)++cs++List.replicate ((C-(n+m))*s) .any)::S.box,S.acc⟩):=by
 cases h:lk S.box b <;>simp[rJ,oK,h]
theorem Ul(e s by' b o n c:Nat)(k:IntKind)(m:Int)(z:DV):rH (.sl e s by' true) z S (.v (.slice (some ⟨b,o,none⟩) n c)) (.v (.int k m)) K2=oK (lk S.box b) fun ds=>eL z=true∧o+c*s≤ds.length∧n≤c∧0<m∧c<n+m.toNat∧(n+m.toNat)*by'≤140737488355328∧n+m.toNat≤maxLen∧∀C,n+m.toNat≤C→C≤maxLen→∀b2,jD S.box b2→
 K2 (.v (.slice (some ⟨b2,0,none⟩) (n+m.toNat) C)) ⟨(b2,(ds.drop o).take (n*s)++iQ z m.toNat++List.replicate ((C-(n+m.toNat))*s) .any)::S.box,S.acc⟩:=by
 cases h:lk S.box b <;>simp[rH,oK,h]
theorem O9(fs:List (Nat×Nat×Bool))(n f:Nat)(x:DV):ia (.st fs n) f x K=SP (fs[f]?) x K:=by
 cases h:fs[f]? <;>simp only[ia,SP,h] <;>cases x <;>rfl
theorem Ly(off sz b o:Nat)(ag:Bool):SP (some (off,sz,ag)) (.v (.pointer (some ⟨b,o,none⟩))) K=(sz≠0∧K (.v (.pointer (some ⟨b,o+off,none⟩)))):=rfl
theorem Nv(off sz:Nat)(ag:Bool)(ds:List DV):SP (some (off,sz,ag)) (.ip ds) K=(sz≠0∧off≤ds.length∧K (.ip (ds.drop off))):=rfl
theorem Oh(off sz l m s i o:Nat)(ag:Bool):SP (some (off,sz,ag)) (.ap l m s i o) K=(sz≠0∧K (.ap l m s i (o+off))):=rfl
theorem F2(i:Nat)(ds:List DV):eg i (.bD ds) K=oK (ds[i]?) K:=by
 cases h:ds[i]? <;>simp[eg,oK,h]
theorem D1(l n:Nat):nh S (.acc l n) K2=bK (lk S.acc l) (fun s xs=>xs.length=n∧K2 (.sl s false xs) ⟨S.box,up S.acc l (.tl s xs)⟩) (fun s xs=>xs.length=n∧K2 (.sl s false xs) S):=by
 cases h:lk S.acc l with
 |none=>simp[nh,bK,h]
 |some o=>cases o <;>simp[nh,bK,h]
theorem P7(n b o:Nat)(y:DV)(K5:St→Prop):oE n S (.v (.pointer (some ⟨b,o,none⟩))) y K5=(eL y=true∧(cd y).length=n∧oK (lk S.box b) fun ds=>o+n≤ds.length∧K5 ⟨up S.box b (gu ds o (cd y)),S.acc⟩):=by
 cases h:lk S.box b <;>simp[oE,oK,h]
theorem zH(n l m s i o:Nat)(y:DV)(K5:St→Prop):fE n S (.ap l m s i o) y K5=(eL y=true∧(cd y).length=n∧bK (lk S.acc l) (fun s' xs=>s'=s∧xs.length=m∧o+n≤s∧Ev xs i fun d=>oK (ru d o n s y) fun d'=>K5 ⟨S.box,up S.acc l (.arr s (xs.set i d'))⟩) (fun _ _=>False)):=by
 cases h:lk S.acc l with
 |none=>simp[fE,bK,h]
 |some o=>cases o with
  |tl s' xs=>simp[fE,bK,h]
  |xo f=>simp[fE,bK,h]
  |arr s' xs=>
   simp only[fE,bK,h,Ev]
   refine propext (and_congr Iff.rfl (and_congr Iff.rfl (and_congr Iff.rfl (and_congr Iff.rfl (and_congr Iff.rfl (exists_congr fun d=>and_congr Iff.rfl (and_congr Iff.rfl ?_)))))))
   cases ru d o n s y with
   |none=>simp[oK]
   |some x=>simp[oK]
theorem B0(l n:Nat)(K6:Nat→List DV→Prop):fY S (.acc l n) K6=bK (lk S.acc l) (fun s xs=>xs.length=n∧K6 s xs) (fun s xs=>xs.length=n∧K6 s xs):=by
 cases h:lk S.acc l with
 |none=>simp[fY,bK,h]
 |some o=>cases o <;>simp[fY,bK,h]
theorem HT(l n s by':Nat)(ys:List DV):vy s by' S (.acc l n) ys K2=bK (lk S.acc l)
 (fun s' xs=>s'=s∧xs.length=n∧(xs.length+ys.length)*by'≤140737488355328∧xs.length+ys.length≤maxLen∧K2 (.acc l (xs++ys).length) ⟨S.box,up S.acc l (.arr s (xs++ys))⟩)
 (fun s' xs=>s'=s∧xs.length=n∧(xs.length+ys.length)*by'≤140737488355328∧xs.length+ys.length≤maxLen∧K2 (.acc l (xs++ys).length) ⟨S.box,up S.acc l (.tl s (xs++ys))⟩):=by
 cases h:lk S.acc l with
 |none=>simp[vy,bK,h]
 |some o=>cases o <;>simp[vy,bK,h]
theorem yx(ops:Array Oper)(fr:List DV)(j:Nat)(want:Bool)(A B:List DV→Prop):bV ops fr (some (j,want)) A B=gK ((ops[j]?).bind (·.dst)) fr want A B:=by
 cases h:(ops[j]?).bind (·.dst) <;>simp only[bV,gK,h] <;>rfl
theorem Gk(t:Nat)(fr:List DV)(want:Bool)(A B:List DV→Prop):gK (some t) fr want A B=gD t (fr.getD t ud) fr want A B:=rfl
theorem PY(t:Nat)(fr:List DV)(want:Bool)(A B:List DV→Prop):gD t ud fr want A B=B fr:=rfl
theorem Sy(fn:Fn)(a b:List DV):mV fn a b K=oK (fg a) fun us=>oK (fg b) fun vs=>K (.v (.func fn us.toArray vs.toArray)):=by
 cases h:fg a <;>cases h':fg b <;>simp[mV,oK,h,h']
theorem Oz(t:TypeId)(parts:List (Nat×DV)):gE P t parts K=WA (tk P t) (zD P t) parts K:=by
 cases h:tk P t <;>cases h':zD P t <;>simp only[gE,WA,h,h'] <;>(rename_i fs _ zs;cases h2:kO fs zs parts <;>simp[oK])
theorem XY(fs:List (Nat×Nat×Bool))(n:Nat)(zs:List DV)(parts:List (Nat×DV)):WA (.st fs n) (.agg zs) parts K=oK (kO fs zs parts) fun ds=>K (.agg ds):=rfl
theorem Vq(e s b len:Nat)(z:DV)(parts:List (Nat×DV)):aP (.sl e s b true) z len parts K=(eL z=true∧(cd z).length=s∧len*s≤16777216∧oK (nQ s (List.replicate len z) parts) fun xs=>K (.sl s true xs)):=by
 cases h:nQ s (List.replicate len z) parts <;>simp[aP,oK,h]
end
end Aml
namespace Aml
open Go Go.RowKit
def QY(P:Program)(w0:W0)(S:St)(o:Oper)(fr:List DV)(d:DV):Prop:=aj P w0 o (ev fr) S fun d' S'=>d'=d∧S'=S
def dA(ops:Array Oper)(fr:List DV)(gd:Option (Nat×Bool)):Option Bool:=match gd with
 |none=>some true
 |some (j,want)=>match(ops[j]?).bind (·.dst)with
  |none=>some false
  |some t=>match fr.getD t ud with
   | .v (.bool b)=>some (b==want)
   | .bD []=>some false
   |_=>none
def LQ(P:Program)(w0:W0)(S:St)(ops:Array Oper)(K:List DV→Prop):List Oper→List DV→Prop
 |[],fr=>K fr
 |o::rest,fr=>bV ops fr o.guard (fun fr=>∃d,QY P w0 S o fr d∧LQ P w0 S ops K rest (pt fr o.dst d)) (fun fr=>LQ P w0 S ops K rest (pt fr o.dst ud))
def qOp(P:Program)(w0:W0)(S:St)(ops:Array Oper)(i:Nat)(K:List DV→Prop)(fr:List DV):Prop:=
 match ops[i]? with
 |none=>K fr
 |some o=>(dA ops fr o.guard=some true∧∃d,QY P w0 S o fr d∧K (pt fr o.dst d))∨(dA ops fr o.guard=some false∧K (pt fr o.dst ud))
def qv(P:Program)(w0:W0)(S:St)(md:Region.Mode)(ops:Array Oper)(K:List DV→Prop):Nat→Array Bool→List DV→Prop
 |0,listed,fr=>Region.ready md ops listed=[]∧K fr
 |fuel+1,listed,fr=>(Region.ready md ops listed=[]→K fr)∧∀i∈Region.ready md ops listed,qOp P w0 S ops i (qv P w0 S md ops K fuel (listed.setIfInBounds i true)) fr
def YD(P:Program)(w0:W0)(S:St)(ops:Array Oper)(o:Oper)(d:DV)(fr:List DV):Prop:=
 (dA ops fr o.guard=some true∧QY P w0 S o fr d)∨(dA ops fr o.guard=some false∧d=ud)
section
variable {P:Program} {w0:W0} {S:St} {ops:Array Oper} {md:Region.Mode}
theorem y5{fr:List DV}{t:Nat}{d:DV}(h:fr.getD t ud=d)(hd:d≠ud):fr.set t d=fr:=by
 rcases Nat.lt_or_ge t fr.length with hl|hl
 ·rw[List.getD_eq_getElem?_getD,List.getElem?_eq_getElem hl,Option.getD_some]at h
  rw[←h,List.set_getElem_self]
 ·rw[List.getD_eq_getElem?_getD,List.getElem?_eq_none hl]at h
  exact absurd h.symm hd
theorem j2{fr:List DV}{gd:Option (Nat×Bool)}{A B:List DV→Prop}(h:bV ops fr gd A B):(dA ops fr gd=some true∧A fr)∨(dA ops fr gd=some false∧B fr):=by
 unfold bV at h
 unfold dA
 split at h
 ·exact .inl ⟨rfl,h⟩
 ·rename_i j want
  split at h
  ·rename_i hj
   exact .inr ⟨by simp only[hj],h⟩
  ·rename_i t hj
   simp only[hj]
   split at h
   ·rename_i b hb
    rw[hb]
    by_cases hw:b=want
    ·have:=h.1 hw
     rw[←hw,y5 hb (by simp[ud])]at this
     exact .inl ⟨by simp[hw],this⟩
    ·have hw':b=!want:=by cases b <;>cases want <;>simp_all
     have:=h.2 hw'
     rw[←hw',y5 hb (by simp[ud])]at this
     exact .inr ⟨by simp[hw],this⟩
   ·rename_i hb
    rw[hb]
    exact .inr ⟨rfl,h⟩
   ·exact h.elim
theorem Cw{fr:List DV}{gd:Option (Nat×Bool)}{x:Bool}(h:dA ops fr gd=some x):bV ops fr gd (fun _=>x=true) (fun _=>x=false):=by
 unfold dA at h
 unfold bV
 split at h
 ·simpa using h.symm
 ·rename_i j want
  split at h
  ·rename_i hj;simp only[hj];simpa using h.symm
  ·rename_i t hj
   simp only[hj]
   split at h
   ·rename_i b hb
    rw[hb]
    simp only[Option.some.injEq]at h
    exact⟨fun e=>by simp[←h,e],fun e=>by simp[←h,e]⟩
   ·rename_i hb;rw[hb];simpa using h.symm
   ·cases h
theorem eu{g:Gh}{fr:List DV}{a:Act}{o:Oper}{x:Bool}(hr:ai g fr a.tmps.toList)(h:dA ops fr o.guard=some x):Region.wanted o (yielded ops a.tmps)=x:=by
 rcases mJ (o:=o) hr (Cw h)with⟨h1,_,_,h2⟩|⟨h1,_,_,h2⟩
 ·rw[h1,h2]
 ·rw[h1,h2]
theorem qOp_mono{i:Nat}{fr:List DV}{K K':List DV→Prop}(h:∀fr,K fr→K' fr)(hh:qOp P w0 S ops i K fr):qOp P w0 S ops i K' fr:=by
 unfold qOp at*
 split
 ·rename_i ho;simp only[ho]at hh;exact h _ hh
 ·rename_i o ho
  simp only[ho]at hh
  rcases hh with⟨h1,d,h2,h3⟩|⟨h1,h2⟩
  ·exact .inl ⟨h1,d,h2,h _ h3⟩
  ·exact .inr ⟨h1,h _ h2⟩
theorem YD.qOp{i:Nat}{o:Oper}{d:DV}{fr:List DV}(hi:ops[i]? =some o)(hy:YD P w0 S ops o d fr){K:List DV→Prop}(h:K (pt fr o.dst d)):qOp P w0 S ops i K fr:=by
 unfold Aml.qOp
 simp only[hi]
 rcases hy with⟨h1,h2⟩|⟨h1,rfl⟩
 ·exact .inl ⟨h1,d,h2,h⟩
 ·exact .inr ⟨h1,h⟩
theorem GL{i:Nat}{o:Oper}{fr:List DV}{K:List DV→Prop}(hi:ops[i]? =some o)(h:qOp P w0 S ops i K fr):∃d,YD P w0 S ops o d fr∧K (pt fr o.dst d):=by
 unfold qOp at h
 simp only[hi]at h
 rcases h with⟨h1,d,h2,h3⟩|⟨h1,h2⟩
 ·exact⟨d,.inl ⟨h1,h2⟩,h3⟩
 ·exact⟨ud,.inr ⟨h1,rfl⟩,h2⟩
theorem aR{o:Oper}{ρD ρD':Operand→DV}{K:DV→St→Prop}(h:∀x,x∈o.op.operands.toList→ρD x=ρD' x)(hy:aj P w0 o ρD S K):aj P w0 o ρD' S K:=
 fun g w ρ h1 h2 h3=>hy g w ρ h1 (fun x hx=>by rw[h x hx];exact h2 x hx) h3
theorem zb{fr:List DV}{t t':Nat}{d:DV}(h:t≠t'):(fr.set t d).getD t' ud=fr.getD t' ud:=by
 simp only[List.getD_eq_getElem?_getD,List.getElem?_set,if_neg h]
theorem fc{fr:List DV}{dst:Option Tmp}{d:DV}{o:Oper}(h:∀t,dst=some t→t∉o.looksAt ops):∀x,x∈o.op.operands.toList→ev (pt fr dst d) x=ev fr x:=by
 intro x hx
 cases dst with
 |none=>rfl
 |some t=>
  cases x with
  |tmp t'=>
   have:t≠t':=by
    rintro rfl
    exact h t rfl (List.mem_append_left _ (List.mem_filterMap.2 ⟨.tmp t,hx,rfl⟩))
   exact zb this
  |_=>rfl
theorem iA{fr:List DV}{dst:Option Tmp}{d:DV}{o:Oper}(h:∀t,dst=some t→t∉o.looksAt ops):dA ops (pt fr dst d) o.guard=dA ops fr o.guard:=by
 cases dst with
 |none=>rfl
 |some t=>
  unfold dA
  cases hg:o.guard with
  |none=>rfl
  |some gw=>
   obtain⟨j,want⟩:=gw
   simp only
   cases ht:(ops[j]?).bind (·.dst)with
   |none=>rfl
   |some t'=>
    have hne:t≠t':=fun e=>h t rfl (by subst e;simp[Oper.looksAt,hg,ht])
    simp only[pt]
    rw[zb hne]
theorem j9(fr:List DV){x y:Option Tmp}(d e:DV)(h:∀t,x=some t→y≠some t):pt (pt fr x d) y e=pt (pt fr y e) x d:=by
 cases x with
 |none=>rfl
 |some t=>
  cases y with
  |none=>rfl
  |some u=>
   have hne:t≠u:=fun he=>h t rfl (he▸rfl)
   simp only[pt]
   exact List.set_comm _ _ hne
theorem YD.put{o:Oper}{d:DV}{fr:List DV}(hy:YD P w0 S ops o d fr){dst:Option Tmp}{e:DV}(h:∀t,dst=some t→t∉o.looksAt ops):YD P w0 S ops o d (pt fr dst e):=by
 unfold YD at*
 rw[iA h]
 exact hy.imp (fun⟨a,b⟩=>⟨a,aR (fun x hx=>(fc (ops:=ops) h x hx).symm) b⟩) id
theorem qOp_put{j:Nat}{oi oj:Oper}{d:DV}(hj:ops[j]? =some oj)(hap:oi.apart ops oj=true){K:List DV→Prop}{fr:List DV}(hy:YD P w0 S ops oi d fr)(h:qOp P w0 S ops j K (pt fr oi.dst d)):
 qOp P w0 S ops j (fun fr'=>YD P w0 S ops oi d fr'∧K (pt fr' oi.dst d)) fr:=by
 obtain⟨h1,h2,h3⟩:=Oper.apart_spec hap
 unfold Aml.qOp at*
 simp only[hj]at*
 rw[iA h1]at h
 rcases h with⟨hw,e,hq,hk⟩|⟨hw,hk⟩
 ·exact .inl ⟨hw,e,aR (fun x hx=>fc (ops:=ops) h1 x hx) hq,hy.put h3,by rw[←j9 fr d e h2];exact hk⟩
 ·exact .inr ⟨hw,hy.put h3,by rw[←j9 fr d ud h2];exact hk⟩
theorem xR{K:List DV→Prop}{i:Nat}{oi:Oper}{d:DV}(hi:ops[i]? =some oi):
 ∀(fuel:Nat) (listed:Array Bool) (fr:List DV),
  (∀j oj,ops[j]? =some oj→j≠i→listed.getD j true=false→(∀e∈oj.after,Region.binds md e=true→e.on≠i)→oi.apart ops oj=true)→
  i∈Region.ready md ops listed→YD P w0 S ops oi d fr→
  qv P w0 S md ops K fuel (listed.setIfInBounds i true) (pt fr oi.dst d)→qv P w0 S md ops K (fuel+1) listed fr:=by
 intro fuel
 induction fuel with
 |zero=>
  intro listed fr _ hr hy H
  refine⟨fun h=>(by rw[h]at hr;cases hr),fun j hj=>?_⟩
  by_cases hji:j=i
  ·subst hji;exact hy.qOp hi H
  ·have:=ready_mono hj hji
   rw[H.1]at this
   cases this
 |succ fuel ih=>
  intro listed fr hfree hr hy H
  refine⟨fun h=>(by rw[h]at hr;cases hr),fun j hj=>?_⟩
  by_cases hji:j=i
  ·subst hji;exact hy.qOp hi H
  ·have h1:=H.2 j (ready_mono hj hji)
   obtain⟨hjun,oj,hoj,hall⟩:=mem_ready.1 hj
   have hnot:∀e∈oj.after,Region.binds md e=true→e.on≠i:=fun e he hb heq=>by
    have h1:=hall e he hb
    have h0:=(mem_ready.1 hr).1
    rw[heq]at h1
    rcases Nat.lt_or_ge i listed.size with h'|h'
    ·simp[h']at h0 h1;rw[h0]at h1;cases h1
    ·simp[Array.getElem?_eq_none h']at h1
   have h2:=qOp_put hoj (hfree j oj hoj hji hjun hnot) hy h1
   have hfree':∀k ok,ops[k]? =some ok→k≠i→(listed.setIfInBounds j true).getD k true=false→
    (∀e∈ok.after,Region.binds md e=true→e.on≠i)→oi.apart ops ok=true:=fun k ok hk hki hun hno=>by
    refine hfree k ok hk hki ?_ hno
    by_cases hjk:j=k
    ·subst hjk;exact hjun
    ·rw[getD_set_ne true hjk]at hun;exact hun
   refine qOp_mono (fun fr' h3=>ih (listed.setIfInBounds j true) fr' hfree' (ready_mono hr (Ne.symm hji)) h3.1 ?_) h2
   rw[Array.setIfInBounds_comm _ _ hji]
   exact h3.2
theorem sX{K:List DV→Prop}:∀(l:List Oper) (k:Nat) (listed:Array Bool) (fr:List DV),(∀j,l[j]? =ops[k+j]?)→
 Region.lexFrom md ops l.length k listed=true→LQ P w0 S ops K l fr→qv P w0 S md ops K l.length listed fr
 |[],_,_,_,_,hB,h=>⟨by simpa[Region.lexFrom]using hB,h⟩
 |o::l,k,listed,fr,hl,hB,h=>by
  have h0:ops[k]? =some o:=by simpa using(hl 0).symm
  simp only[List.length_cons,Region.lexFrom,Bool.and_eq_true]at hB
  obtain⟨⟨hr,hf⟩,hB'⟩:=hB
  have hst:qOp P w0 S ops k (LQ P w0 S ops K l) fr:=by
   unfold qOp
   simp only[h0]
   exact j2 h
  obtain⟨d,hy,hK⟩:=GL h0 hst
  exact xR h0 l.length listed fr (Region.free_spec h0 hf) (by simpa using hr) hy
   (sX l (k+1) _ _ (fun j=>by have:=hl (j+1);simpa[Nat.add_assoc,Nat.add_comm 1 j]using this) hB' hK)
end
end Aml
namespace Aml
open Go Go.RowKit
section
variable {P:Program} {w0:W0} {S:St} {K:DV→Prop}
theorem sS{c a b:DV}(h:jI c a b K):∃d,jI c a b (·=d)∧K d:=by
 unfold jI at*
 split at h
 ·rename_i t
  cases t
  ·exact⟨b,⟨by simp,fun _=>rfl⟩,h.2 rfl⟩
  ·exact⟨a,⟨fun _=>rfl,by simp⟩,h.1 rfl⟩
 ·exact h.elim
theorem RZ{ds:List DV}(h:Ti ds K):∃d,Ti ds (·=d)∧K d:=by
 unfold Ti at*
 split at h
 ·exact⟨_,rfl,h⟩
 ·exact h.elim
theorem xY{k:TK}{ds:List DV}(h:p8 k ds K):∃d,p8 k ds (·=d)∧K d:=by
 unfold p8 at*
 split at h
 ·exact⟨_,⟨h.1,rfl⟩,h.2⟩
 ·exact⟨_,⟨h.1,rfl⟩,h.2⟩
 ·exact h.elim
 ·exact RZ h
theorem pQ{k:TK}{x:DV}(h:bG k S x K):∃d,bG k S x (·=d)∧K d:=by
 unfold bG at*
 split at h
 ·split at h
  ·rename_i hb;(try simp only[hb]);exact xY h
  ·exact h.elim
 ·exact xY h
 ·split at h
  ·rename_i hb
   obtain⟨h1,h2,d,h3,h4,h5⟩:=h
   obtain⟨e,q1,q2⟩:=xY h5
   exact⟨e,by first|exact⟨h1,h2,d,h3,h4,q1⟩|(simp only[hb];exact⟨h1,h2,d,h3,h4,q1⟩),q2⟩
  ·rename_i hb
   obtain⟨h1,h2,d,h3,h4,h5⟩:=h
   obtain⟨e,q1,q2⟩:=xY h5
   exact⟨e,by first|exact⟨h1,h2,d,h3,h4,q1⟩|(simp only[hb];exact⟨h1,h2,d,h3,h4,q1⟩),q2⟩
  ·exact h.elim
 ·exact h.elim
theorem qB{k:TK}{f:Nat}{x:DV}(h:ia k f x K):∃d,ia k f x (·=d)∧K d:=by
 unfold ia at*
 split at h
 ·split at h
  ·rename_i hf
   try simp only[hf]
   obtain⟨h1,h⟩:=h
   split at h
   ·exact⟨_,⟨h1,rfl⟩,h⟩
   ·exact⟨_,⟨h1,h.1,rfl⟩,h.2⟩
   ·exact⟨_,⟨h1,rfl⟩,h⟩
   ·exact h.elim
  ·exact h.elim
 ·exact h.elim
theorem cR{k:TK}{x i:DV}(h:aG k x i K):∃d,aG k x i (·=d)∧K d:=by
 unfold aG at*
 split at h
 ·split at h
  ·obtain⟨h1,h2,h3,h4⟩:=h
   rename_i z _ _ _ xs
   have hlt:z.toNat<xs.length:=by omega
   obtain⟨h5,h6⟩:=h4 _ (List.getElem?_eq_getElem hlt)
   exact⟨_,⟨h1,h2,h3,fun d hd=>by rw[List.getElem?_eq_getElem hlt]at hd;cases hd;exact⟨h5,rfl⟩⟩,h6⟩
  ·exact⟨_,⟨h.1,h.2.1,rfl⟩,h.2.2⟩
  ·exact⟨_,⟨h.1,h.2.1,rfl⟩,h.2.2⟩
  ·exact h.elim
 ·obtain⟨h1,h2,h3,h4⟩:=h
  split at h4
  ·exact⟨_,⟨h1,h2,h3,rfl⟩,h4⟩
  ·exact⟨_,⟨h1,h2,h3,h4.1,rfl⟩,h4.2⟩
  ·exact h4.elim
 ·exact h.elim
theorem Fp{w0:W0}{fr:List DV}{x:Operand}{k:TK}{i:DV}(h:Hv w0 fr x fun d=>aG k d i K):∃d,(Hv w0 fr x fun d'=>aG k d' i (·=d))∧K d:=by
 cases x with
 |global b=>
  obtain⟨us,hg,h⟩:=h
  obtain⟨d,q1,q2⟩:=cR h
  exact⟨d,⟨us,hg,q1⟩,q2⟩
 |tmp n=>exact cR (x:=ev fr (.tmp n)) h
 |const u=>exact cR (x:=ev fr (.const u)) h
 |func f=>exact cR (x:=ev fr (.func f)) h
theorem rp{k:TK}{x i:DV}(h:jJ k x i K):∃d,jJ k x i (·=d)∧K d:=by
 unfold jJ at*
 split at h
 ·obtain⟨h1,h2,h3⟩:=h
  rename_i s _ z
  have hlt:z.toNat<s.data.toList.length:=by simp;have:s.data.size=s.size:=rfl;omega
  exact⟨_,⟨h1,h2,fun d hd=>by rw[List.getElem?_eq_getElem hlt]at hd;cases hd;rfl⟩,h3 _ (List.getElem?_eq_getElem hlt)⟩
 ·exact h.elim
theorem oy{k:TK}{f:Nat}{x:DV}(h:iU k f x K):∃d,iU k f x (·=d)∧K d:=by
 unfold iU at*
 split at h
 ·split at h
  ·rename_i hf
   try simp only[hf]
   split at h
   ·obtain⟨h1,h⟩:=h
    split at h
    ·exact⟨_,⟨h1,rfl⟩,h⟩
    ·split at h
     ·rename_i hd;(try simp only[hd]);exact⟨_,⟨h1,rfl⟩,h⟩
     ·exact h.elim
   ·exact h.elim
  ·exact h.elim
 ·exact h.elim
theorem mQ{i:Nat}{x:DV}(h:eg i x K):∃d,eg i x (·=d)∧K d:=by
 unfold eg at*
 split at h
 ·split at h
  ·rename_i hd;(try simp only[hd]);exact⟨_,rfl,h⟩
  ·exact h.elim
 ·exact h.elim
theorem LB{op:BinOp}{k:IntKind}{m n:Int}(h:nR op k m n K):∃d,nR op k m n (·=d)∧K d:=by
 cases op <;>simp only[nR]at h ⊢ <;>first|exact⟨_,rfl,h⟩|exact⟨_,⟨h.1,rfl⟩,h.2⟩
theorem L2{op:BinOp}{x y:ByteArray}(h:jx op x y K):∃d,jx op x y (·=d)∧K d:=by
 cases op <;>simp only[jx]at h ⊢ <;>first|exact⟨_,rfl,h⟩|exact⟨_,⟨h.1,rfl⟩,h.2⟩
theorem Pp{op:BinOp}{t:TK}{cx cy:Bool}{x y:DV}(h:r9 op t cx cy x y K):∃d,r9 op t cx cy x y (·=d)∧K d:=by
 unfold r9 at*
 split at h
 ·obtain⟨d,q1,q2⟩:=LB h.2
  exact⟨d,⟨h.1,q1⟩,q2⟩
 ·exact L2 h
 ·split at h <;>first|exact⟨_,rfl,h⟩|exact h.elim
 ·split at h <;>first|exact⟨_,⟨h.1,rfl⟩,h.2⟩|exact h.elim
 ·split at h <;>first|exact⟨_,rfl,h⟩|exact h.elim
 ·split at h <;>first|exact⟨_,rfl,h⟩|exact h.elim
 ·split at h <;>first|exact⟨_,⟨h.1,rfl⟩,h.2⟩|exact h.elim
 ·exact h.elim
theorem uf{op:BinOp}{t:TypeId}{cx cy:Bool}{x y:DV}(h:kG P op t cx cy x y K):∃d,kG P op t cx cy x y (·=d)∧K d:=by
 unfold kG at*
 split at h
 ·unfold n8 at*
  split at h
  ·rename_i he
   obtain⟨q,q1,q2⟩:=ni h
   exact⟨_,jb (fun r e=>by rw[e]) q1,q2⟩
  ·rename_i he
   obtain⟨q,q1,q2⟩:=ni h
   exact⟨_,jb (fun r e=>by rw[e]) q1,q2⟩
  ·exact h.elim
 ·exact Pp h
theorem Cx{op:UnOp}{x:DV}(h:GQ op x K):∃d,GQ op x (·=d)∧K d:=by
 unfold GQ at*
 split at h <;>first|exact⟨_,rfl,h⟩|exact h.elim
theorem sW{a b:TK}{x:DV}(h:iP a b x K):∃d,iP a b x (·=d)∧K d:=by
 unfold iP at*
 split at h <;>first|exact⟨_,rfl,h⟩|exact h.elim
theorem uT{fn:Fn}{a b:List DV}(h:mV fn a b K):∃d,mV fn a b (·=d)∧K d:=by
 unfold mV at*
 split at h <;>first|exact⟨_,rfl,h⟩|exact h.elim
theorem gA{x:Option DV}{z:Int}{F:(DV→Prop)→Int→Prop}(hF:∀n,F K n→∃d,F (·=d) n∧K d)(h:kI x z (F K)):∃d,kI x z (F (·=d))∧K d:=by
 unfold kI at*
 split at h <;>first|exact hF _ h|exact h.elim
theorem qy{k:TK}{x:DV}{lo hi mx:Option DV}(h:fu k x lo hi mx K):∃d,fu k x lo hi mx (·=d)∧K d:=by
 unfold fu at*
 split at h
 ·obtain⟨h1,h⟩:=h
  rename_i e s b s' f xs
  obtain⟨d,q1,q2⟩:=gA (F:=fun K l=>kI hi xs.length fun h=>kI mx h fun m=>0≤l∧l≤h∧h≤m∧m≤xs.length∧
   K (.sl s (if mx.isSome then decide (m=h)else(f&&(hi.isNone||xs.isEmpty))) ((xs.take h.toNat).drop l.toNat))) (fun l h=>gA (F:=fun K h=>kI mx h fun m=>0≤l∧l≤h∧h≤m∧m≤xs.length∧
   K (.sl s (if mx.isSome then decide (m=h)else(f&&(hi.isNone||xs.isEmpty))) ((xs.take h.toNat).drop l.toNat))) (fun hh h=>gA (F:=fun K m=>0≤l∧l≤hh∧hh≤m∧m≤xs.length∧
   K (.sl s (if mx.isSome then decide (m=hh)else(f&&(hi.isNone||xs.isEmpty))) ((xs.take hh.toNat).drop l.toNat))) (fun m h=>⟨_,⟨h.1,h.2.1,h.2.2.1,h.2.2.2.1,rfl⟩,h.2.2.2.2⟩) h) h) h
  exact⟨d,⟨h1,q1⟩,q2⟩
 ·obtain⟨h1,h⟩:=h
  rename_i s
  obtain⟨d,q1,q2⟩:=gA (F:=fun K l=>kI hi s.size fun h=>0≤l∧l≤h∧h≤s.size∧K (.v (.string (s.extract l.toNat h.toNat)))) (fun l h=>gA (F:=fun K h=>0≤l∧l≤h∧h≤s.size∧K (.v (.string (s.extract l.toNat h.toNat))))
   (fun hh h=>⟨_,⟨h.1,h.2.1,h.2.2.1,rfl⟩,h.2.2.2⟩) h) h
  exact⟨d,⟨h1,q1⟩,q2⟩
 ·rename_i e s by' b o n c
  exact gA (F:=fun K l=>kI hi n fun h=>kI mx c fun m=>0≤l∧l≤h∧h≤m∧m≤c∧
   K (.v (.slice (some ⟨b,if m.toNat=l.toNat then o else o+l.toNat*s,none⟩) (h.toNat-l.toNat) (m.toNat-l.toNat)))) (fun l h=>gA (F:=fun K h=>kI mx c fun m=>0≤l∧l≤h∧h≤m∧m≤c∧
   K (.v (.slice (some ⟨b,if m.toNat=l.toNat then o else o+l.toNat*s,none⟩) (h.toNat-l.toNat) (m.toNat-l.toNat)))) (fun hh h=>gA (F:=fun K m=>0≤l∧l≤hh∧hh≤m∧m≤c∧
   K (.v (.slice (some ⟨b,if m.toNat=l.toNat then o else o+l.toNat*s,none⟩) (hh.toNat-l.toNat) (m.toNat-l.toNat)))) (fun m h=>⟨_,⟨h.1,h.2.1,h.2.2.1,h.2.2.2.1,rfl⟩,h.2.2.2.2⟩) h) h) h
 ·obtain⟨h1,h⟩:=h
  rename_i n e s ag nn b o
  obtain⟨d,q1,q2⟩:=gA (F:=fun K l=>kI hi n fun h=>kI mx n fun m=>0≤l∧l≤h∧h≤m∧m≤n∧
   K (.v (.slice (some ⟨b,if m.toNat=l.toNat then o else o+l.toNat*s,none⟩) (h.toNat-l.toNat) (m.toNat-l.toNat)))) (fun l h=>gA (F:=fun K h=>kI mx n fun m=>0≤l∧l≤h∧h≤m∧m≤n∧
   K (.v (.slice (some ⟨b,if m.toNat=l.toNat then o else o+l.toNat*s,none⟩) (h.toNat-l.toNat) (m.toNat-l.toNat)))) (fun hh h=>gA (F:=fun K m=>0≤l∧l≤hh∧hh≤m∧m≤n∧
   K (.v (.slice (some ⟨b,if m.toNat=l.toNat then o else o+l.toNat*s,none⟩) (hh.toNat-l.toNat) (m.toNat-l.toNat)))) (fun m h=>⟨_,⟨h.1,h.2.1,h.2.2.1,h.2.2.2.1,rfl⟩,h.2.2.2.2⟩) h) h) h
  exact⟨d,⟨h1,q1⟩,q2⟩
 ·exact h.elim
theorem xS{k:TK}{x:DV}(h:oI k x K):∃d,oI k x (·=d)∧K d:=by
 unfold oI at*
 split at h <;>first|exact⟨_,rfl,h⟩|exact h.elim
theorem yE{k:TK}{x:DV}(h:rX k x K):∃d,rX k x (·=d)∧K d:=by
 unfold rX at*
 split at h <;>first|exact⟨_,rfl,h⟩|exact h.elim
theorem xv{x y:DV}(h:rO x y K):∃d,rO x y (·=d)∧K d:=by
 unfold rO at*
 split at h <;>first|exact⟨_,rfl,h⟩|exact h.elim
theorem yb{x y:DV}(h:rT x y K):∃d,rT x y (·=d)∧K d:=by
 unfold rT at*
 split at h <;>first|exact⟨_,rfl,h⟩|exact h.elim
theorem rq{t:TypeId}{parts:List (Nat×DV)}(h:gE P t parts K):∃d,gE P t parts (·=d)∧K d:=by
 unfold gE at*
 split at h
 ·split at h
  ·rename_i hf;(try simp only[hf]);exact⟨_,rfl,h⟩
  ·exact h.elim
 ·exact h.elim
theorem jH{k:TK}{z:DV}{len:Nat}{parts:List (Nat×DV)}(h:aP k z len parts K):∃d,aP k z len parts (·=d)∧K d:=by
 unfold aP at*
 split at h
 ·obtain⟨h1,h2,h3,h⟩:=h
  split at h
  ·rename_i hf;(try simp only[hf]);exact⟨_,⟨h1,h2,h3,rfl⟩,h⟩
  ·exact h.elim
 ·exact h.elim
def vc:DV→Bool
 | .acc _ _=>false
 |_=>true
def gz:DV→Bool
 | .agg ds=>ds.all vc
 |d=>vc d
theorem Fa{K:DV→St→Prop}{d:DV}(hd:vc d=true)(h:K d S):nh S d K:=by
 cases d <;>first|(cases hd;done)|exact h
theorem Gx{K:DV→St→Prop}{k:TK}{x:DV}{lo hi mx:Option DV}(hx:vc x=true)(h:jZ k S x lo hi mx K):il k S x lo hi mx K:=by
 cases x <;>first|(cases hx;done)|exact h
theorem AU:∀{ds:List DV} {K:List DV→St→Prop},ds.all vc=true→K ds S→mZ S ds K
 |[],K,_,h=>h
 |d::ds,K,hd,h=>by
  simp only[List.all_cons,Bool.and_eq_true]at hd
  exact Fa hd.1 (AU hd.2 h)
theorem Mc{K:DV→St→Prop}{d:DV}(hd:gz d=true)(h:K d S):shr S d K:=by
 cases d with
 |agg ds=>exact AU hd h
 |acc l n=>cases hd
 |_=>exact h
theorem sb:∀{ds:List DV} {K:List DV→St→Prop},ds.all gz=true→K ds S→gy S ds K
 |[],K,_,h=>h
 |d::ds,K,hd,h=>by
  simp only[List.all_cons,Bool.and_eq_true]at hd
  exact Mc hd.1 (sb hd.2 h)
theorem mK{ds:List DV}{F:List DV→St→Prop}(hd:ds.all gz=true)(h:F ds S):iD S ds F:=by
 unfold iD
 split
 ·exact .inl h
 ·exact sb hd h
def my(P:Program)(w0:W0)(cal:DV)(ds:List DV)(S:St)(K:DV→Prop):Prop:=match cal with
 | .v (.func (.func f) a cap)=>a.size=0∧okF P f=true∧cap.toList.all (fun u=>u.oneCell')=true∧ds.all gz=true∧∃d,aa P w0 f (ds++cap.toList.map .v) S (fun d' S'=>d'=d∧S'=S)∧K d
 |_=>False
theorem uk{m:Option (KK×DV)}{S:St}{x y:DV}{ok:Bool}{K:DV→Prop}(h:dv m S x y ok K):∃d,dv m S x y ok (·=d)∧K d:=by
 unfold dv at*
 cases m with
 |none=>exact h.elim
 |some p=>
  simp only[oK]at h ⊢
  obtain⟨h0,h⟩:=h
  cases hk:qh y with
  |none=>rw[hk]at h;exact h.elim
  |some k=>
   rw[hk]at h
   simp only at h ⊢
   obtain⟨h1,h⟩:=h
   split at h
   ·exact⟨_,⟨h0,h1,rfl⟩,h⟩
   ·split at h
    ·obtain⟨h2,h⟩:=h
     cases hg:iE _ k with
     |none=>rw[hg]at h;exact⟨_,⟨h0,h1,h2,rfl⟩,h⟩
     |some d=>rw[hg]at h;exact⟨_,⟨h0,h1,h2,rfl⟩,h⟩
    ·exact h.elim
   ·exact h.elim
def aH(P:Program)(w0:W0)(op:Op)(fr:List DV)(S:St)(K:DV→Prop):Prop:=match op with
 | .move x=>K (ev fr x)
 | .assign x=>K (ev fr x)
 | .pick c a b=>jI (ev fr c) (ev fr a) (ev fr b) K
 | .load t x=>bG (tk P t) S (ev fr x) K
 | .fieldAddr t x f=>ia (tk P t) f (ev fr x) K
 | .indexAddr t x i=>Hv w0 fr x fun d=>aG (tk P t) d (ev fr i) K
 | .index t x i=>jJ (tk P t) (ev fr x) (ev fr i) K
 | .field t x f=>iU (tk P t) f (ev fr x) K
 | .extract x i=>eg i (ev fr x) K
 | .nilCheck x=>notNil (ev fr x)=true∧K (ev fr x)
 | .binOp b t x y _=>iM y=false∧kG P b t (Bl x) (Bl y) (ev fr x) (ev fr y) K
 | .unOp b _ x=>GQ b (ev fr x) K
 | .convert s d x=>iP (tk P s) (tk P d) (ev fr x) K
 | .makeInterface t x=>ry (tk P t)=false∧gz (ev fr x)=true∧K (.jM t (ev fr x))
 | .makeFunc fn a b=>mV fn (a.toList.map (ev fr)) (b.toList.map (ev fr)) K
 | .slice t x lo hi mx=>(mx.isSome=true→hi.isSome=true)∧vc (ev fr x)=true∧fu (tk P t) (ev fr x) (lo.map (ev fr)) (hi.map (ev fr)) (mx.map (ev fr)) K
 | .build t parts=>(parts.toList.map fun p=>ev fr p.2).all gz=true∧gE P t ((parts.toList.map (·.1)).zip (parts.toList.map fun p=>ev fr p.2)) K
 | .buildSlice t len parts=>(parts.toList.map fun p=>ev fr p.2).all gz=true∧aP (tk P t) (zD P (eG P t)) len ((parts.toList.map (·.1)).zip (parts.toList.map fun p=>ev fr p.2)) K
 | .lookup t x y ok=>dv (sB P t) S (ev fr x) (ev fr y) ok K
 | .call c=>match c.callee with
  | .builtin .len=>(match c.args.toList,c.argTypes.toList with
   |[x],[t]=>oI (tk P t) (ev fr x) K
   |_,_=>False)
  | .builtin .cap=>(match c.args.toList,c.argTypes.toList with
   |[x],[t]=>rX (tk P t) (ev fr x) K
   |_,_=>False)
  | .builtin .min=>(match c.args.toList with
   |[x,y]=>rO (ev fr x) (ev fr y) K
   |_=>False)
  | .builtin .max=>(match c.args.toList with
   |[x,y]=>rT (ev fr x) (ev fr y) K
   |_=>False)
  | .value cal=>my P w0 (ev fr cal) (c.args.toList.map (ev fr)) S K
  | .invoke r name=>tZ P (ev fr r) name fun f d=>my P w0 (.v (.func (.func f) #[] #[])) (d::c.args.toList.map (ev fr)) S K
  |_=>False
 |_=>False
theorem jV{o:Oper}{fr:List DV}(hs:gR o.op=true)(h:aH P w0 o.op fr S K):∃d,QY P w0 S o fr d∧K d:=by
 have fin:∀{d:DV},aI P w0 o.op fr S (fun d' S'=>d'=d∧S'=S)→K d→∃d,QY P w0 S o fr d∧K d:=fun h1 h2=>⟨_,bC hs h1,h2⟩
 cases hop:o.op with
 |move x=>rw[hop]at h;exact fin (by rw[hop];exact⟨rfl,rfl⟩) h
 |assign x=>rw[hop]at h;exact fin (by rw[hop];exact⟨rfl,rfl⟩) h
 |pick c a b=>rw[hop]at h;obtain⟨d,q1,q2⟩:=sS h;exact fin (by rw[hop];simpa[aI]using q1) q2
 |load t x=>rw[hop]at h;obtain⟨d,q1,q2⟩:=pQ h;exact fin (by rw[hop];simpa[aI]using q1) q2
 |fieldAddr t x f=>rw[hop]at h;obtain⟨d,q1,q2⟩:=qB h;exact fin (by rw[hop];simpa[aI]using q1) q2
 |indexAddr t x i=>
  rw[hop]at h
  cases x with
  |global b=>
   obtain⟨us,hg,h⟩:=(show rF w0 b fun d=>aG (tk P t) d (ev fr i) K from h)
   obtain⟨d,q1,q2⟩:=cR h
   exact fin (by rw[hop];exact⟨us,hg,by simpa using q1⟩) q2
  |tmp n=>obtain⟨d,q1,q2⟩:=cR (show aG (tk P t) (ev fr (.tmp n)) (ev fr i) K from h);exact fin (by rw[hop];simpa[aI,Hv]using q1) q2
  |const u=>obtain⟨d,q1,q2⟩:=cR (show aG (tk P t) (ev fr (.const u)) (ev fr i) K from h);exact fin (by rw[hop];simpa[aI,Hv]using q1) q2
  |func f=>obtain⟨d,q1,q2⟩:=cR (show aG (tk P t) (ev fr (.func f)) (ev fr i) K from h);exact fin (by rw[hop];simpa[aI,Hv]using q1) q2
 |index t x i=>rw[hop]at h;obtain⟨d,q1,q2⟩:=rp h;exact fin (by rw[hop];simpa[aI]using q1) q2
 |field t x f=>rw[hop]at h;obtain⟨d,q1,q2⟩:=oy h;exact fin (by rw[hop];simpa[aI]using q1) q2
 |extract x i=>rw[hop]at h;obtain⟨d,q1,q2⟩:=mQ h;exact fin (by rw[hop];simpa[aI]using q1) q2
 |nilCheck x=>rw[hop]at h;exact fin (by rw[hop];exact⟨h.1,rfl,rfl⟩) h.2
 |binOp b t x y t'=>rw[hop]at h;obtain⟨d,q1,q2⟩:=uf h.2;exact fin (by rw[hop];simp only[aI,h.1];simpa using q1) q2
 |unOp b t x=>rw[hop]at h;obtain⟨d,q1,q2⟩:=Cx h;exact fin (by rw[hop];simpa[aI]using q1) q2
 |convert s d x=>rw[hop]at h;obtain⟨d',q1,q2⟩:=sW h;exact fin (by rw[hop];simpa[aI]using HA (ke:=tk P (eG P s)) (kb:=tk P (eG P d)) (S:=S) q1) q2
 |makeInterface t x=>rw[hop]at h;exact fin (by rw[hop];exact⟨h.1,Mc h.2.1 ⟨rfl,rfl⟩⟩) h.2.2
 |makeFunc fn a b=>rw[hop]at h;obtain⟨d,q1,q2⟩:=uT h;exact fin (by rw[hop];simpa[aI]using q1) q2
 |slice t x lo hi mx=>rw[hop]at h;obtain⟨d,q1,q2⟩:=qy h.2.2;exact fin (by rw[hop];exact⟨h.1,Gx h.2.1 (Fa h.2.1 (by simpa using q1))⟩) q2
 |lookup t x y ok=>rw[hop]at h;obtain⟨d,q1,q2⟩:=uk h;exact fin (by rw[hop];simpa[aI]using q1) q2
 |build t parts=>rw[hop]at h;obtain⟨d,q1,q2⟩:=rq h.2;exact fin (by rw[hop];exact sb h.1 (by simpa using q1)) q2
 |buildSlice t len parts=>rw[hop]at h;obtain⟨d,q1,q2⟩:=jH h.2;exact fin (by rw[hop];exact sb h.1 (by simpa using q1)) q2
 |call c=>
  rw[hop]at h
  obtain⟨callee,args,ts⟩:=c
  simp only[aH]at h
  split at h
  ·split at h
   ·rename_i x t e1 e2
    obtain⟨d,q1,q2⟩:=xS h
    exact fin (by rw[hop];simp only[aI,e1,e2];simpa using q1) q2
   ·exact h.elim
  ·split at h
   ·rename_i x t e1 e2
    obtain⟨d,q1,q2⟩:=yE h
    exact fin (by rw[hop];simp only[aI,e1,e2];simpa using q1) q2
   ·exact h.elim
  ·split at h
   ·rename_i x y e1
    obtain⟨d,q1,q2⟩:=xv h
    exact fin (by rw[hop];simp only[aI,e1];simpa using q1) q2
   ·exact h.elim
  ·split at h
   ·rename_i x y e1
    obtain⟨d,q1,q2⟩:=yb h
    exact fin (by rw[hop];simp only[aI,e1];simpa using q1) q2
   ·exact h.elim
  ·rename_i cal
   unfold my at h
   split at h
   ·rename_i f a cap hcal
    obtain⟨h1,h2,h3,h4,d,h5,h6⟩:=h
    exact fin (by rw[hop];simp only[aI,hcal];exact pC h1 h3 (by rw[h2,Lf];exact mK h4 h5)) h6
   ·exact h.elim
  ·rename_i r name
   unfold tZ at h
   split at h
   ·rename_i t hx
    split at h
    ·rename_i f hi
     obtain⟨hf,_,h2,h3,h4,d,h5,h6⟩:=h
     have h5':aa P w0 f (.agg []::args.toList.map (ev fr)) S (fun d' S'=>d'=d∧S'=S):=by simpa using h5
     exact fin (by rw[hop];simp only[aI,tZ,hx,hi];exact⟨hf,mK h4 h5'⟩) h6
    ·exact h.elim
   ·exact h.elim
  ·exact h.elim
 |_=>rw[hop]at h;exact h.elim
end
end Aml
namespace Aml
open Go Go.RowKit
def dI(n:Int):DV:= .v (.int .i64 n)
def dU(n:Int):DV:= .v (.int .u64 n)
def dY(n:Int):DV:= .v (.int .u8 n)
def dB(b:Bool):DV:= .v (.bool b)
def dS(s:ByteArray):DV:= .v (.string s)
theorem gJ{n:Int}(h0:0≤n)(h1:n≤18446744073709551615):IntKind.u64.wrap n=n:=by
 show n%18446744073709551616=n
 omega
theorem ZB{n:Int}(h0:0≤n)(h1:n≤255):IntKind.u8.wrap n=n:=by
 show n%256=n
 omega
section
variable {P:Program} {w0:W0}
end
end Aml
namespace Aml
open Go Go.RowKit
def pY:Op→Bool
 | .store ..| .box ..| .alloc ..| .makeSlice ..| .mapUpdate ..| .makeMap ..=>false
 | .call c=>match c.callee with
  | .builtin .append| .builtin .clear| .builtin .delete| .builtin .copy=>false
  |_=>true
 |_=>true
def uZ(md:Region.Mode)(ops:Array Oper):Nat→Nat→Nat→Bool
 |0,_,_=>false
 |n+1,k,i=>match ops[k]? with
  |none=>false
  |some o=>o.after.any fun e=>Region.binds md e&&(e.on==i||uZ md ops n e.on i)
def Rm(md:Region.Mode)(ops:Array Oper):Bool:=(List.range ops.size).all fun k=>match ops[k]? with
 |none=>true
 |some o=>o.after.all fun e=>!Region.binds md e||decide (e.on<k)
def rN(md:Region.Mode)(ops:Array Oper)(n:Nat):Bool:=Rm md ops&&
 ((List.range ops.size).all fun k=>decide (k<n)||(List.range k).all fun i=>uZ md ops ops.size k i)&&
 (ops.toList.take n).all fun o=>match o.guard with|none=>true|some (j,_)=>decide (j<n)
section
variable {P:Program} {w0:W0} {ops:Array Oper} {md:Region.Mode}
theorem lg(h:Rm md ops=true){k:Nat}{o:Oper}(hk:ops[k]? =some o):∀e∈o.after,Region.binds md e=true→e.on<k:=by
 intro e he hb
 have hlt:k<ops.size:=(Array.getElem?_eq_some_iff.1 hk).1
 have:=List.all_eq_true.1 h k (List.mem_range.2 hlt)
 simp only[hk]at this
 have:=Array.all_eq_true'.1 this e he
 simpa[hb]using this
def Ph(md:Region.Mode)(ops:Array Oper)(L:Array Bool):Prop:=∀(j:Nat) (o:Oper),ops[j]? =some o→L[j]? =some true→∀e∈o.after,Region.binds md e=true→L[e.on]? =some true
theorem lM{L:Array Bool}(hc:Ph md ops L):∀(n k i:Nat) (o:Oper),ops[k]? =some o→(∀e∈o.after,Region.binds md e=true→L[e.on]? =some true)→uZ md ops n k i=true→L[i]? =some true
 |0,_,_,_,_,_,h=>by cases h
 |n+1,k,i,o,hk,ha,h=>by
  simp only[uZ,hk]at h
  obtain⟨e,he,h⟩:=Array.any_eq_true'.1 h
  simp only[Bool.and_eq_true,Bool.or_eq_true,beq_iff_eq]at h
  rcases h.2 with h'|h'
  ·rw[←h'];exact ha e he h.1
  ·have hl:=ha e he h.1
   cases ho:ops[e.on]? with
   |none=>cases n <;>simp[uZ,ho]at h'
   |some o'=>exact lM hc n e.on i o' ho (hc e.on o' ho hl) h'
theorem dF{L:Array Bool}{i:Nat}:L.getD i false=true↔L[i]? =some true:=by
 rw[Array.getD_eq_getD_getElem?]
 cases L[i]? <;>simp
theorem dZ{L:Array Bool}{i:Nat}:L.getD i true=false↔L[i]? =some false:=by
 rw[Array.getD_eq_getD_getElem?]
 cases L[i]? <;>simp
theorem P3{ro:Option Nat}{g0 g:Gh}{Q:Exit→List DV→St→Prop}{o:Oper}{fr:List DV}{S:St}{a:Act}{w:World}{K:List DV→St→Prop}{K':Act→World→Prop}(k:g0.le g)(h1:Rel w0 g S w)(h2:ai g fr a.tmps.toList)(h3:Dk w0 g.obj a w)
 (hK:∀fr S g a w,g0.le g→Rel w0 g S w→ai g fr a.tmps.toList→Dk w0 g.obj a w→K fr S→K' a w)
 (h:bV ops fr o.guard (fun fr=>aj P w0 o (ev fr) S fun d S'=>K (pt fr o.dst d) S') (fun fr=>K (pt fr o.dst ud) S)) {i:Nat} (hi:ops[i]? =some o):
 wpOpIn (fz ro) 0 P ops (Good w0 g0 Q) i K' a w:=by
 unfold wpOpIn
 simp only[hi]
 rcases mJ h2 h with⟨hw,fr',h2',hA⟩|⟨hw,fr',h2',hB⟩
 ·rw[if_pos hw]
  refine ef hA h1 (fun x _=>mi h2' x) h3 fun g' d u S' w' k1 k2 k3 k4 k5=>?_
  exact hK _ _ g' _ _ (k.trans k1) k2 (dq (h2'.mono k1) _ k3) (k1.dk k5) k4
 ·rw[if_neg (by simp[hw])]
  exact⟨fun _ _=>trivial,hK _ _ g _ _ k h1 (dq h2' _ (jq g)) (h3.keep (put_defers _ _ _) fun _ _ h _=>h) hB⟩
theorem xn{S:St}{K K':List DV→Prop}(hk:∀fr,K fr→K' fr):∀{l:List Oper} {fr:List DV},LQ P w0 S ops K l fr→LQ P w0 S ops K' l fr
 |[],fr,h=>hk _ h
 |o::rest,fr,h=>iz (fun fr ⟨d,q1,q2⟩=>⟨d,q1,xn hk q2⟩) (fun fr h=>xn hk h) h
theorem Cp{ro:Option Nat}{g0:Gh}{Q:Exit→List DV→St→Prop}{n:Nat}(hB:rN md ops n=true):∀(l:List Oper) (k fuel:Nat) (L:Array Bool) (fr:List DV) (S:St) (g:Gh) (a:Act) (w:World),
 (∀j,l[j]? =ops[k+j]?)→n≤k→k≤ops.size→l.length≤fuel→L.size=ops.size→(∀i,i<k→L[i]? =some true)→(∀i,k≤i→i<ops.size→L[i]? =some false)→g0.le g→Rel w0 g S w→ai g fr a.tmps.toList→Dk w0 g.obj a w→
 Ax P w0 ops (fun fr S=>Q .normal fr S) l fr S→wpAnyIn (fz ro) 0 P md ops (Good w0 g0 Q) fuel L a w:=by
 simp only[rN,Bool.and_eq_true]at hB
 obtain⟨⟨hb,ha⟩, -⟩:=hB
 have none_ready:∀(k:Nat) (L:Array Bool),ops.size≤k→L.size=ops.size→(∀i,i<k→L[i]? =some true∨ops.size≤i)→∀i,i∉Region.ready md ops L:=by
  intro k L hk hs hl i hi
  obtain⟨h1,o,ho,_⟩:=mem_ready.1 hi
  rw[dZ]at h1
  have hlt:i<ops.size:=(Array.getElem?_eq_some_iff.1 ho).1
  rcases hl i (by omega)with h|h
  ·rw[h]at h1;cases h1
  ·omega
 intro l
 induction l with
 |nil=>
  intro k fuel L fr S g a w hl hn hk hf hs ht hu k1 h1 h2 h3 h
  have hk':ops.size≤k:=by
   have:=hl 0
   simp only[List.getElem?_nil,Nat.add_zero]at this
   exact Array.getElem?_eq_none_iff.1 this.symm
  have hno:=none_ready k L hk' hs (fun i hi=> .inl (ht i hi))
  have hemp:Region.ready md ops L=[]:=List.eq_nil_iff_forall_not_mem.2 hno
  cases fuel with
  |zero=>exact⟨hemp,k1.kd h3,g,fr,S,k1,h1,h2,h⟩
  |succ fuel=>exact⟨fun _=>⟨k1.kd h3,g,fr,S,k1,h1,h2,h⟩,fun i hi=>absurd hi (hno i)⟩
 |cons o rest ih=>
  intro k fuel L fr S g a w hl hn hk hf hs ht hu k1 h1 h2 h3 h
  have h0:ops[k]? =some o:=by simpa using(hl 0).symm
  have hklt:k<ops.size:=(Array.getElem?_eq_some_iff.1 h0).1
  have hready:k∈Region.ready md ops L:=mem_ready.2 ⟨dZ.2 (hu k (Nat.le_refl _) hklt),o,h0,fun e he hbe=>dF.2 (ht _ (lg hb h0 e he hbe))⟩
  cases fuel with
  |zero=>simp at hf
  |succ fuel=>
   refine⟨fun h=>(by rw[h]at hready;cases hready),fun i hi=>?_⟩
   obtain⟨hi1,oi,hoi,hia⟩:=mem_ready.1 hi
   rw[dZ]at hi1
   have hilt:i<ops.size:=(Array.getElem?_eq_some_iff.1 hoi).1
   have hclo:Ph md ops L:=fun j oj hj hlj e he hbe=>by
    have hjk:j<k:=by
     rcases Nat.lt_or_ge j k with h|h
     ·exact h
     ·rw[hu j h (Array.getElem?_eq_some_iff.1 hj).1]at hlj;cases hlj
    exact ht _ (Nat.lt_trans (lg hb hj e he hbe) hjk)
   have hik:i=k:=by
    rcases Nat.lt_trichotomy i k with h|h|h
    ·rw[ht i h]at hi1;cases hi1
    ·exact h
    ·have hr:=List.all_eq_true.1 ha i (List.mem_range.2 hilt)
     rw[Bool.or_eq_true]at hr
     rcases hr with hr|hr
     ·have:=of_decide_eq_true hr;omega
     ·have hr:=List.all_eq_true.1 hr k (List.mem_range.2 h)
      have:=lM hclo _ i k oi hoi (fun e he hbe=>dF.1 (hia e he hbe)) hr
      rw[hu k (Nat.le_refl _) hklt]at this;cases this
   subst hik
   refine P3 (o:=o) k1 h1 h2 h3 (K:=Ax P w0 ops (fun fr S=>Q .normal fr S) rest) ?_ h h0
   intro fr' S' g' a' w' q1 q2 q3 q4 q5
   refine ih (i+1) fuel (L.setIfInBounds i true) fr' S' g' a' w' (fun j=>by have:=hl (j+1);simpa[Nat.add_assoc,Nat.add_comm 1 j]using this) (by omega) (by omega) (by simpa using hf) (by simpa using hs) ?_ ?_ q1 q2 q3 q4 q5
   ·intro j hj
    rw[Array.getElem?_setIfInBounds]
    split
    ·rename_i e;rw[if_pos (by omega)]
    ·exact ht j (by omega)
   ·intro j hj hj'
    rw[Array.getElem?_setIfInBounds,if_neg (by omega)]
    exact hu j (by omega) hj'
theorem Ih{ro:Option Nat}{g0:Gh}{Q:Exit→List DV→St→Prop}{S:St}{n:Nat}(hB:rN md ops n=true)(hn:n≤ops.size):∀(fuel F:Nat) (L M:Array Bool) (fr:List DV) (g:Gh) (a:Act) (w:World),
 L.size=n→M.size=ops.size→(∀i,i<n→M[i]? =L[i]?)→(∀i,n≤i→i<ops.size→M[i]? =some false)→Ph md ops M→fuel+(ops.size-n)≤F→g0.le g→Rel w0 g S w→ai g fr a.tmps.toList→Dk w0 g.obj a w→
 qv P w0 S md (ops.toList.take n).toArray (fun fr=>Ax P w0 ops (fun fr S=>Q .normal fr S) (ops.toList.drop n) fr S) fuel L fr→wpAnyIn (fz ro) 0 P md ops (Good w0 g0 Q) F M a w:=by
 have hB':=hB
 simp only[rN,Bool.and_eq_true]at hB'
 obtain⟨⟨hb,ha⟩,hg⟩:=hB'
 have hpre:∀i,i<n→(ops.toList.take n).toArray[i]? =ops[i]? :=fun i hi=>by simp[List.getElem?_take,hi]
 have full:∀(L M:Array Bool),L.size=n→M.size=ops.size→(∀i,i<n→M[i]? =L[i]?)→Region.ready md (ops.toList.take n).toArray L=[]→∀i,i<n→M[i]? =some true:=by
  intro L M hs hM hLM hr i
  induction i using Nat.strongRecOn with
  |_ i ih=>
   intro hi
   have hlt:i<M.size:=by omega
   have hsome:∃o,ops[i]? =some o:=⟨_,Array.getElem?_eq_getElem (by omega)⟩
   obtain⟨o,ho⟩:=hsome
   cases hx:M[i]? with
   |none=>rw[Array.getElem?_eq_getElem hlt]at hx;cases hx
   |some x=>
    cases x with
    |true=>rfl
    |false=>
     have:i∈Region.ready md (ops.toList.take n).toArray L:=mem_ready.2 ⟨dZ.2 (by rw[←hLM i hi];exact hx),o,by rw[hpre i hi];exact ho,fun e he hbe=>by
      have hlt':=lg hb ho e he hbe
      rw[dF,←hLM _ (by omega)]
      exact ih _ hlt' (by omega)⟩
     rw[hr]at this;cases this
 have tail:∀(F:Nat) (L M:Array Bool) (fr:List DV) (g:Gh) (a:Act) (w:World),L.size=n→M.size=ops.size→(∀i,i<n→M[i]? =L[i]?)→(∀i,n≤i→i<ops.size→M[i]? =some false)→ops.size-n≤F→g0.le g→Rel w0 g S w→ai g fr a.tmps.toList→Dk w0 g.obj a w→
  Region.ready md (ops.toList.take n).toArray L=[]→Ax P w0 ops (fun fr S=>Q .normal fr S) (ops.toList.drop n) fr S→wpAnyIn (fz ro) 0 P md ops (Good w0 g0 Q) F M a w:=by
  intro F L M fr g a w hs hM hLM hM0 hF q1 q2 q3 q4 hr h
  exact Cp hB (ops.toList.drop n) n F M fr S g a w (fun j=>by simp[List.getElem?_drop]) (Nat.le_refl _) hn (by simp;omega) hM (full L M hs hM hLM hr) hM0 q1 q2 q3 q4 h
 intro fuel
 induction fuel with
 |zero=>
  intro F L M fr g a w hs hM hLM hM0 hc hF q1 q2 q3 q4 h
  exact tail F L M fr g a w hs hM hLM hM0 (by omega) q1 q2 q3 q4 h.1 h.2
 |succ fuel ih=>
  intro F L M fr g a w hs hM hLM hM0 hc hF q1 q2 q3 q4 h
  by_cases hr:Region.ready md (ops.toList.take n).toArray L=[]
  ·exact tail F L M fr g a w hs hM hLM hM0 (by omega) q1 q2 q3 q4 hr (h.1 hr)
  ·obtain⟨F,rfl⟩:∃F',F=F'+1:=⟨F-1,by omega⟩
   have up:∀i,i∈Region.ready md (ops.toList.take n).toArray L→i∈Region.ready md ops M:=by
    intro i hi
    obtain⟨h1,o,ho,h2⟩:=mem_ready.1 hi
    have hi':i<n:=by have:=(Array.getElem?_eq_some_iff.1 ho).1;simp at this;omega
    rw[hpre i hi']at ho
    refine mem_ready.2 ⟨dZ.2 (by rw[hLM i hi'];exact dZ.1 h1),o,ho,fun e he hbe=>?_⟩
    have hlt:=lg hb ho e he hbe
    rw[dF,hLM _ (by omega)]
    exact dF.1 (h2 e he hbe)
   refine⟨fun h0=>?_,fun i hi=>?_⟩
   ·exfalso
    obtain⟨x,xs,hx⟩:∃x xs,Region.ready md (ops.toList.take n).toArray L=x::xs:=by
     cases he:Region.ready md (ops.toList.take n).toArray L with
     |nil=>exact absurd he hr
     |cons x xs=>exact⟨x,xs,rfl⟩
    have:=up x (by rw[hx];exact List.mem_cons_self)
    rw[h0]at this;cases this
   ·obtain⟨hi1,oi,hoi,hia⟩:=mem_ready.1 hi
    rw[dZ]at hi1
    have hilt:i<ops.size:=(Array.getElem?_eq_some_iff.1 hoi).1
    by_cases hin:i<n
    ·have hiL:i∈Region.ready md (ops.toList.take n).toArray L:=mem_ready.2 ⟨dZ.2 (by rw[←hLM i hin];exact hi1),oi,by rw[hpre i hin];exact hoi,fun e he hbe=>by
      have hlt:=lg hb hoi e he hbe
      rw[dF,←hLM _ (by omega)]
      exact dF.1 (hia e he hbe)⟩
     have hq:=h.2 i hiL
     have hgi:∀j want,oi.guard=some (j,want)→j<n:=by
      intro j want hgj
      have hmem:oi∈ops.toList.take n:=by
       have:(ops.toList.take n)[i]? =some oi:=by rw[List.getElem?_take,if_pos hin];simpa using hoi
       exact List.mem_of_getElem? this
      have:=List.all_eq_true.1 hg oi hmem
      simpa[hgj]using this
     have hwant:∀fr,dA (ops.toList.take n).toArray fr oi.guard=dA ops fr oi.guard:=by
      intro fr
      cases hgo:oi.guard with
      |none=>rfl
      |some p=>
       obtain⟨j,want⟩:=p
       simp only[dA,hpre j (hgi j want hgo)]
     have hLs:(L.setIfInBounds i true).size=n:=by simpa using hs
     have hMs:(M.setIfInBounds i true).size=ops.size:=by simpa using hM
     have hLM':∀j,j<n→(M.setIfInBounds i true)[j]? =(L.setIfInBounds i true)[j]? :=by
      intro j hj
      rw[Array.getElem?_setIfInBounds,Array.getElem?_setIfInBounds,hLM j hj]
      split
      ·rw[if_pos (by omega),if_pos (by omega)]
      ·rfl
     have hM0':∀j,n≤j→j<ops.size→(M.setIfInBounds i true)[j]? =some false:=by
      intro j hj hj'
      rw[Array.getElem?_setIfInBounds,if_neg (by omega)]
      exact hM0 j hj hj'
     have hc':Ph md ops (M.setIfInBounds i true):=by
      intro j oj hj hlj e he hbe
      rw[Array.getElem?_setIfInBounds]
      split
      ·rw[if_pos (by omega)]
      ·rw[Array.getElem?_setIfInBounds]at hlj
       split at hlj
       ·rename_i hij
        subst hij
        rw[hoi]at hj;cases hj
        exact dF.1 (hia e he hbe)
       ·exact hc j oj hj hlj e he hbe
     have cont:∀fr' g' a' w',g0.le g'→Rel w0 g' S w'→ai g' fr' a'.tmps.toList→Dk w0 g'.obj a' w'→qv P w0 S md (ops.toList.take n).toArray (fun fr=>Ax P w0 ops (fun fr S=>Q .normal fr S) (ops.toList.drop n) fr S) fuel (L.setIfInBounds i true) fr'→
      wpAnyIn (fz ro) 0 P md ops (Good w0 g0 Q) F (M.setIfInBounds i true) a' w':=fun fr' g' a' w' p1 p2 p3 p4 p5=>
      ih F _ _ fr' g' a' w' hLs hMs hLM' hM0' hc' (by omega) p1 p2 p3 p4 p5
     unfold qOp at hq
     rw[hpre i hin]at hq
     unfold wpOpIn
     simp only[hoi]at hq ⊢
     rcases hq with⟨hw,d,hy,hk⟩|⟨hw,hk⟩
     ·rw[hwant]at hw
      have hw':=eu (o:=oi) q3 hw
      rw[if_pos hw']
      refine ef hy q2 (fun x _=>mi q3 x) q4 fun g' d' u S' w' k1 k2 k3 k4 k5=>?_
      obtain⟨hd,hS⟩:=k4
      rw[hS]at k2
      rw[hd]at k3
      exact cont _ g' _ _ (q1.trans k1) k2 (dq (q3.mono k1) _ k3) (k1.dk k5) hk
     ·rw[hwant]at hw
      have hw':=eu (o:=oi) q3 hw
      rw[if_neg (by simp[hw'])]
      exact⟨fun _ _=>trivial,cont _ g _ _ q1 q2 (dq q3 _ (jq g)) (q4.keep (put_defers _ _ _) fun _ _ h _=>h) hk⟩
    ·exfalso
     have hall:∀j,j<n→M[j]? =some true:=by
      intro j hj
      have hr':=List.all_eq_true.1 ha i (List.mem_range.2 hilt)
      rw[Bool.or_eq_true]at hr'
      rcases hr' with hr'|hr'
      ·exact absurd (of_decide_eq_true hr') hin
      ·have hr':=List.all_eq_true.1 hr' j (List.mem_range.2 (by omega))
       exact lM hc _ i j oi hoi (fun e he hbe=>dF.1 (hia e he hbe)) hr'
     refine hr (List.eq_nil_iff_forall_not_mem.2 fun j hj=>?_)
     obtain⟨h1,o,ho,_⟩:=mem_ready.1 hj
     have hj':j<n:=by have:=(Array.getElem?_eq_some_iff.1 ho).1;simp at this;omega
     rw[dZ,←hLM j hj',hall j hj']at h1
     cases h1
def nM(l:List Oper):Nat:=(l.takeWhile fun o=>pY o.op).length
theorem Ir{id:Nat}{l:List Oper}{fr:List DV}{S:St}{Q:Exit→List DV→St→Prop}(n:Nat)(hn:n≤l.length)(hm:P.follows .mixedOrders=true)(hB:Region.lexB .any (l.take n).toArray=true)(hT:rN .any l.toArray n=true)(hs:l.all (fun o=>gR o.op)=true)
 (h:LQ P w0 S (l.take n).toArray (fun fr=>yu P w0 l.toArray (fun fr S=>Q .normal fr S) (l.drop n) fr S) (l.take n) fr):gk P w0 (.region id l.toArray true) fr S Q:=by
 intro g a w h1 h2 h3
 simp only[Region.lexB,Bool.and_eq_true]at hB
 refine gv hm fun ro=>?_
 have hR:Rel w0 g S {w with drawn:=w.drawn+1}:=h1.grow (lC w)
 have hs1:(l.take n).all (fun o=>gR o.op)=true:=List.all_eq_true.2 fun o ho=>List.all_eq_true.1 hs o (List.mem_of_mem_take ho)
 have hs2:(l.drop n).all (fun o=>gR o.op)=true:=List.all_eq_true.2 fun o ho=>List.all_eq_true.1 hs o (List.mem_of_mem_drop ho)
 have hLQ:LQ P w0 S (l.take n).toArray (fun fr=>Ax P w0 l.toArray (fun fr S=>Q .normal fr S) (l.drop n) fr S) (l.take n) fr:=by
  exact xn (fun fr h=>nD _ hs2 h) h
 have:=sX (P:=P) (w0:=w0) (S:=S) (md:= .any) (ops:=(l.take n).toArray) (l.take n) 0 (Array.replicate (l.take n).toArray.size false) fr (by simp) (by simpa using hB.2) hLQ
 refine Ih (n:=n) (S:=S) hT (by simpa using hn) (l.take n).length _ (Array.replicate (l.take n).toArray.size false) _ fr g a _ (by simp;omega) (by simp) ?_ ?_ ?_ (by simp;omega) (.refl g) hR h2 (h3.keep rfl fun _ _ h _=>h) (by simpa using this)
 ·intro i hi
  simp only[Array.getElem?_replicate,List.size_toArray,List.length_take]
  rw[if_pos (by omega),if_pos (by omega)]
 ·intro i hi hi'
  simp only[Array.getElem?_replicate]
  rw[if_pos hi']
 ·intro j o hj hl
  simp[Array.getElem?_replicate]at hl
end
end Aml
namespace Aml
open Go Go.RowKit
@[congr] theorem Xj {d:DV} {d':DV} {A:Prop} {B:Prop} (hd:d=d'):fV d A B=fV d' A B:=by cases hd;rfl
@[congr] theorem ZC {ds:List DV} {ds':List DV} {K:DV→Prop} (hds:ds=ds'):Ti ds K=Ti ds' K:=by cases hds;rfl
@[congr] theorem ZD {k:TK} {k':TK} {ds:List DV} {ds':List DV} {K:DV→Prop} (hk:k=k') (hds:ds=ds'):p8 k ds K=p8 k' ds' K:=by cases hk;cases hds;rfl
@[congr] theorem Xt {c:DV} {c':DV} {a:DV} {a':DV} {b:DV} {b':DV} {K:DV→Prop} (hc:c=c') (ha:a=a') (hb:b=b'):jI c a b K=jI c' a' b' K:=by cases hc;cases ha;cases hb;rfl
@[congr] theorem Xr {k:TK} {k':TK} {S:St} {S':St} {x:DV} {x':DV} {K:DV→Prop} (hk:k=k') (hS:S=S') (hx:x=x'):bG k S x K=bG k' S' x' K:=by cases hk;cases hS;cases hx;rfl
@[congr] theorem U6 {k:TK} {k':TK} {f:Nat} {f':Nat} {x:DV} {x':DV} {K:DV→Prop} (hk:k=k') (hf:f=f') (hx:x=x'):ia k f x K=ia k' f' x' K:=by cases hk;cases hf;cases hx;rfl
@[congr] theorem N5 {k:TK} {k':TK} {x:DV} {x':DV} {i:DV} {i':DV} {K:DV→Prop} (hk:k=k') (hx:x=x') (hi:i=i'):aG k x i K=aG k' x' i' K:=by cases hk;cases hx;cases hi;rfl
@[congr] theorem TZ {i:Nat} {i':Nat} {x:DV} {x':DV} {K:DV→Prop} (hi:i=i') (hx:x=x'):eg i x K=eg i' x' K:=by cases hi;cases hx;rfl
@[congr] theorem UB {k:TK} {k':TK} {f:Nat} {f':Nat} {x:DV} {x':DV} {K:DV→Prop} (hk:k=k') (hf:f=f') (hx:x=x'):iU k f x K=iU k' f' x' K:=by cases hk;cases hf;cases hx;rfl
@[congr] theorem Xc {op:BinOp} {k:IntKind} {m:Int} {m':Int} {n:Int} {n':Int} {K:DV→Prop} (hm:m=m') (hn:n=n'):nR op k m n K=nR op k m' n' K:=by cases hm;cases hn;rfl
@[congr] theorem W7 {op:BinOp} {x:ByteArray} {x':ByteArray} {y:ByteArray} {y':ByteArray} {K:DV→Prop} (hx:x=x') (hy:y=y'):jx op x y K=jx op x' y' K:=by cases hx;cases hy;rfl
@[congr] theorem XQ {op:BinOp} {t:TK} {t':TK} {cx:Bool} {cx':Bool} {cy:Bool} {cy':Bool} {x:DV} {x':DV} {y:DV} {y':DV} {K:DV→Prop} (ht:t=t') (hcx:cx=cx') (hcy:cy=cy') (hx:x=x') (hy:y=y'):r9 op t cx cy x y K=r9 op t' cx' cy' x' y' K:=by cases ht;cases hcx;cases hcy;cases hx;cases hy;rfl
@[congr] theorem Wx {o:Option (List FK)} {o':Option (List FK)} {op:BinOp} {al:List DV} {al':List DV} {y:DV} {y':DV} {K:DV→Prop} (ho:o=o') (hal:al=al') (hy:y=y'):n8 o op al y K=n8 o' op al' y' K:=by cases ho;cases hal;cases hy;rfl
@[congr] theorem YA {ks:List FK} {al:List DV} {al':List DV} {bs:List DV} {bs':List DV} {r:Bool} {r':Bool} {F:Bool→Prop} (hal:al=al') (hbs:bs=bs') (hr:r=r'):gr ks al bs r F=gr ks al' bs' r' F:=by cases hal;cases hbs;cases hr;rfl
@[congr] theorem Zg {op:UnOp} {x:DV} {x':DV} {K:DV→Prop} (hx:x=x'):GQ op x K=GQ op x' K:=by cases hx;rfl
@[congr] theorem XB {a:TK} {a':TK} {b:TK} {b':TK} {x:DV} {x':DV} {K:DV→Prop} (ha:a=a') (hb:b=b') (hx:x=x'):iP a b x K=iP a' b' x' K:=by cases ha;cases hb;cases hx;rfl
@[congr] theorem Vh {a:TK} {a':TK} {b:TK} {b':TK} {ke:TK} {ke':TK} {kb:TK} {kb':TK} {S:St} {S':St} {x:DV} {x':DV} {K:DV→Prop} (ha:a=a') (hb:b=b') (hke:ke=ke') (hkb:kb=kb') (hS:S=S') (hx:x=x'):jK a b ke kb S x K=jK a' b' ke' kb' S' x' K:=by cases ha;cases hb;cases hke;cases hkb;cases hS;cases hx;rfl
@[congr] theorem WI {k:TK} {k':TK} {x:DV} {x':DV} {i:DV} {i':DV} {K:DV→Prop} (hk:k=k') (hx:x=x') (hi:i=i'):jJ k x i K=jJ k' x' i' K:=by cases hk;cases hx;cases hi;rfl
@[congr] theorem Zd {d:Option DV} {d':Option DV} {z:Int} {z':Int} {K:Int→Prop} (hd:d=d') (hz:z=z'):kI d z K=kI d' z' K:=by cases hd;cases hz;rfl
@[congr] theorem VQ {k:TK} {k':TK} {x:DV} {x':DV} {lo:Option DV} {lo':Option DV} {hi:Option DV} {hi':Option DV} {mx:Option DV} {mx':Option DV} {K:DV→Prop} (hk:k=k') (hx:x=x') (hlo:lo=lo') (hhi:hi=hi') (hmx:mx=mx'):fu k x lo hi mx K=fu k' x' lo' hi' mx' K:=by cases hk;cases hx;cases hlo;cases hhi;cases hmx;rfl
@[congr] theorem YZ {k:TK} {k':TK} {x:DV} {x':DV} {K:DV→Prop} (hk:k=k') (hx:x=x'):oI k x K=oI k' x' K:=by cases hk;cases hx;rfl
@[congr] theorem YF {k:TK} {k':TK} {x:DV} {x':DV} {K:DV→Prop} (hk:k=k') (hx:x=x'):rX k x K=rX k' x' K:=by cases hk;cases hx;rfl
@[congr] theorem XL {x:DV} {x':DV} {y:DV} {y':DV} {K:DV→Prop} (hx:x=x') (hy:y=y'):rO x y K=rO x' y' K:=by cases hx;cases hy;rfl
@[congr] theorem Ys {x:DV} {x':DV} {y:DV} {y':DV} {K:DV→Prop} (hx:x=x') (hy:y=y'):rT x y K=rT x' y' K:=by cases hx;cases hy;rfl
@[congr] theorem Wn {n:Nat} {n':Nat} {S:St} {S':St} {x:DV} {x':DV} {y:DV} {y':DV} {K:St→Prop} (hn:n=n') (hS:S=S') (hx:x=x') (hy:y=y'):oE n S x y K=oE n' S' x' y' K:=by cases hn;cases hS;cases hx;cases hy;rfl
@[congr] theorem UD {n:Nat} {n':Nat} {S:St} {S':St} {x:DV} {x':DV} {y:DV} {y':DV} {K:St→Prop} (hn:n=n') (hS:S=S') (hx:x=x') (hy:y=y'):fE n S x y K=fE n' S' x' y' K:=by cases hn;cases hS;cases hx;cases hy;rfl
@[congr] theorem Nf {k:TK} {k':TK} {z:DV} {z':DV} {len:Nat} {len':Nat} {parts:List (Nat×DV)} {parts':List (Nat×DV)} {K:DV→Prop} (hk:k=k') (hz:z=z') (hlen:len=len') (hparts:parts=parts'):aP k z len parts K=aP k' z' len' parts' K:=by cases hk;cases hz;cases hlen;cases hparts;rfl
@[congr] theorem XA {S:St} {S':St} {d:DV} {d':DV} {K:Nat→List DV→Prop} (hS:S=S') (hd:d=d'):fY S d K=fY S' d' K:=by cases hS;cases hd;rfl
@[congr] theorem Yx {s:Nat} {s':Nat} {b:Nat} {b':Nat} {S:St} {S':St} {x:DV} {x':DV} {ys:List DV} {ys':List DV} {K:DV→St→Prop} (hs:s=s') (hb:b=b') (hS:S=S') (hx:x=x') (hys:ys=ys'):vy s b S x ys K=vy s' b' S' x' ys' K:=by cases hs;cases hb;cases hS;cases hx;cases hys;rfl
@[congr] theorem UK {k:TK} {k':TK} {k2:TK} {k2':TK} {S:St} {S':St} {x:DV} {x':DV} {y:DV} {y':DV} {K:DV→St→Prop} (hk:k=k') (hk2:k2=k2') (hS:S=S') (hx:x=x') (hy:y=y'):lx k k2 S x y K=lx k' k2' S' x' y' K:=by cases hk;cases hk2;cases hS;cases hx;cases hy;rfl
@[congr] theorem UF {k:TK} {k':TK} {z:DV} {z':DV} {S:St} {S':St} {x:DV} {x':DV} {y:DV} {y':DV} {K:DV→St→Prop} (hk:k=k') (hz:z=z') (hS:S=S') (hx:x=x') (hy:y=y'):lR k z S x y K=lR k' z' S' x' y' K:=by cases hk;cases hz;cases hS;cases hx;cases hy;rfl
@[congr] theorem Xl {k:TK} {k':TK} {k2:TK} {k2':TK} {S:St} {S':St} {x:DV} {x':DV} {y:DV} {y':DV} {K:DV→St→Prop} (hk:k=k') (hk2:k2=k2') (hS:S=S') (hx:x=x') (hy:y=y'):rJ k k2 S x y K=rJ k' k2' S' x' y' K:=by cases hk;cases hk2;cases hS;cases hx;cases hy;rfl
@[congr] theorem Xw {k:TK} {k':TK} {z:DV} {z':DV} {S:St} {S':St} {x:DV} {x':DV} {y:DV} {y':DV} {K:DV→St→Prop} (hk:k=k') (hz:z=z') (hS:S=S') (hx:x=x') (hy:y=y'):rH k z S x y K=rH k' z' S' x' y' K:=by cases hk;cases hz;cases hS;cases hx;cases hy;rfl
@[congr] theorem Xx {k:TK} {k':TK} {S:St} {S':St} {x:DV} {x':DV} {y:DV} {y':DV} {K:DV→St→Prop} (hk:k=k') (hS:S=S') (hx:x=x') (hy:y=y'):pd k S x y K=pd k' S' x' y' K:=by cases hk;cases hS;cases hx;cases hy;rfl
@[congr] theorem UO {k:TK} {k':TK} {z:DV} {z':DV} {S:St} {S':St} {x:DV} {x':DV} {K:DV→St→Prop} (hk:k=k') (hz:z=z') (hS:S=S') (hx:x=x'):mw k z S x K=mw k' z' S' x' K:=by cases hk;cases hz;cases hS;cases hx;rfl
@[congr] theorem Xe {S:St} {S':St} {s:Nat} {s':Nat} {ds:List DV} {ds':List DV} {o:Nat} {o':Nat} {b:Nat} {n:Nat} {n':Nat} {y:DV} {y':DV} {K:DV→St→Prop} (hS:S=S') (hs:s=s') (hds:ds=ds') (ho:o=o') (hn:n=n') (hy:y=y'):wg S s ds o b n y K=wg S' s' ds' o' b n' y' K:=by cases hS;cases hs;cases hds;cases ho;cases hn;cases hy;rfl
@[congr] theorem W5 {S:St} {S':St} {s:Nat} {s':Nat} {y:DV} {y':DV} {F:Nat→List DV→Prop} (hS:S=S') (hs:s=s') (hy:y=y'):oR S s y F=oR S' s' y' F:=by cases hS;cases hs;cases hy;rfl
@[congr] theorem U9 {op:BinOp} {k:TK} {k':TK} {x:DV} {x':DV} {K:DV→Prop} (hk:k=k') (hx:x=x'):mu op k x K=mu op k' x' K:=by cases hk;cases hx;rfl
@[congr] theorem Xm {S:St} {S':St} {x:DV} {x':DV} {z:Nat} {z':Nat} {K:DV→St→Prop} (hS:S=S') (hx:x=x') (hz:z=z'):wH S x z K=wH S' x' z' K:=by cases hS;cases hx;cases hz;rfl
@[congr] theorem Uy {k:TK} {k':TK} {S:St} {S':St} {x:DV} {x':DV} {lo:Option DV} {lo':Option DV} {hi:Option DV} {hi':Option DV} {mx:Option DV} {mx':Option DV} {K:DV→St→Prop} (hk:k=k') (hS:S=S') (hx:x=x') (hlo:lo=lo') (hhi:hi=hi') (hmx:mx=mx'):il k S x lo hi mx K=il k' S' x' lo' hi' mx' K:=by cases hk;cases hS;cases hx;cases hlo;cases hhi;cases hmx;rfl
@[congr] theorem UG {k:TK} {k':TK} {S:St} {S':St} {x:DV} {x':DV} {lo:Option DV} {lo':Option DV} {hi:Option DV} {hi':Option DV} {mx:Option DV} {mx':Option DV} {K:DV→St→Prop} (hk:k=k') (hS:S=S') (hx:x=x') (hlo:lo=lo') (hhi:hi=hi') (hmx:mx=mx'):jZ k S x lo hi mx K=jZ k' S' x' lo' hi' mx' K:=by cases hk;cases hS;cases hx;cases hlo;cases hhi;cases hmx;rfl
@[congr] theorem Qo {k:TK} {k':TK} {z:DV} {z':DV} {x:DV} {x':DV} {y:DV} {y':DV} {S:St} {S':St} {K:DV→St→Prop} (hk:k=k') (hz:z=z') (hx:x=x') (hy:y=y') (hS:S=S'):fL k z x y S K=fL k' z' x' y' S' K:=by cases hk;cases hz;cases hx;cases hy;cases hS;rfl
@[congr] theorem XG {S:St} {S':St} {d:DV} {d':DV} {K:DV→St→Prop} (hS:S=S') (hd:d=d'):nh S d K=nh S' d' K:=by cases hS;cases hd;rfl
@[congr] theorem Xo {S:St} {S':St} {d:List DV} {d':List DV} {K:List DV→St→Prop} (hS:S=S') (hd:d=d'):mZ S d K=mZ S' d' K:=by cases hS;cases hd;rfl
@[congr] theorem ZH {S:St} {S':St} {d:DV} {d':DV} {K:DV→St→Prop} (hS:S=S') (hd:d=d'):shr S d K=shr S' d' K:=by cases hS;cases hd;rfl
@[congr] theorem XZ {S:St} {S':St} {d:List DV} {d':List DV} {K:List DV→St→Prop} (hS:S=S') (hd:d=d'):gy S d K=gy S' d' K:=by cases hS;cases hd;rfl
@[congr] theorem Yi {S:St} {S':St} {d:DV} {d':DV} {K:DV→St→Prop} (hS:S=S') (hd:d=d'):oC S d K=oC S' d' K:=by cases hS;cases hd;rfl
@[congr] theorem Xk {S:St} {S':St} {d:List DV} {d':List DV} {F:List DV→St→Prop} (hS:S=S') (hd:d=d'):iD S d F=iD S' d' F:=by cases hS;cases hd;rfl
@[congr] theorem Zi {p:Option (Nat×Nat×Bool)} {p':Option (Nat×Nat×Bool)} {x:DV} {x':DV} {K:DV→Prop} (hp:p=p') (hx:x=x'):SP p x K=SP p' x' K:=by cases hp;cases hx;rfl
@[congr] theorem Y4 {p:Option (Nat×Nat×Bool)} {p':Option (Nat×Nat×Bool)} {ds:List DV} {ds':List DV} {K:DV→Prop} (hp:p=p') (hds:ds=ds'):Za p ds K=Za p' ds' K:=by cases hp;cases hds;rfl
@[congr] theorem ZQ {t:Nat} {t':Nat} {d:DV} {d':DV} {fr:List DV} {fr':List DV} {want:Bool} {want':Bool} {A:List DV→Prop} {B:List DV→Prop} (ht:t=t') (hd:d=d') (hfr:fr=fr') (hwant:want=want'):gD t d fr want A B=gD t' d' fr' want' A B:=by cases ht;cases hd;cases hfr;cases hwant;rfl
@[congr] theorem abh {t:Option Tmp} {t':Option Tmp} {fr:List DV} {fr':List DV} {want:Bool} {want':Bool} {A:List DV→Prop} {B:List DV→Prop} (ht:t=t') (hfr:fr=fr') (hwant:want=want'):gK t fr want A B=gK t' fr' want' A B:=by cases ht;cases hfr;cases hwant;rfl
@[congr] theorem V5 {ops:Array Oper} {fr:List DV} {fr':List DV} {gd:Option (Nat×Bool)} {gd':Option (Nat×Bool)} {A:List DV→Prop} {B:List DV→Prop} (hfr:fr=fr') (hgd:gd=gd'):bV ops fr gd A B=bV ops fr' gd' A B:=by cases hfr;cases hgd;rfl
@[congr] theorem Zr {k:TK} {k':TK} {z:DV} {z':DV} {parts:List (Nat×DV)} {parts':List (Nat×DV)} {K:DV→Prop} (hk:k=k') (hz:z=z') (hparts:parts=parts'):WA k z parts K=WA k' z' parts' K:=by cases hk;cases hz;cases hparts;rfl
@[congr] theorem ZA {xs:List DV} {xs':List DV} {i:Nat} {i':Nat} {F:DV→Prop} (hxs:xs=xs') (hi:i=i'):F5 xs i F=F5 xs' i' F:=by cases hxs;cases hi;rfl
@[congr] theorem Zo {xs:List DV} {xs':List DV} {i:Nat} {i':Nat} {F:DV→Prop} (hxs:xs=xs') (hi:i=i'):Ev xs i F=Ev xs' i' F:=by cases hxs;cases hi;rfl
@[congr] theorem aa4 {o:Option Ob} {o':Option Ob} {F:Nat→List DV→Prop} {G:Nat→List DV→Prop} (ho:o=o'):bK o F G=bK o' F G:=by cases ho;rfl
@[congr] theorem Z7 {o:Option Ob} {o':Option Ob} {F:KK→List (Value×DV×Nat)→Nat→Prop} (ho:o=o'):xK o F=xK o' F:=by cases ho;rfl
@[congr] theorem aao {o:Option Ob} {o':Option Ob} {F:Nat→Nat→List Nat→Nat→Prop} (ho:o=o'):iK o F=iK o' F:=by cases ho;rfl
@[congr] theorem Zy {o:Option DV} {o':Option DV} {F:DV→Prop} {G:Prop} (ho:o=o'):Uz o F G=Uz o' F G:=by cases ho;rfl
@[congr] theorem UH {m:Option (KK×DV)} {m':Option (KK×DV)} {S:St} {S':St} {x:DV} {x':DV} {y:DV} {y':DV} {ok:Bool} {ok':Bool} {K:DV→Prop} (hm:m=m') (hS:S=S') (hx:x=x') (hy:y=y') (hok:ok=ok'):dv m S x y ok K=dv m' S' x' y' ok' K:=by cases hm;cases hS;cases hx;cases hy;cases hok;rfl
@[congr] theorem UJ {m:Option (KK×DV)} {m':Option (KK×DV)} {S:St} {S':St} {x:DV} {x':DV} {y:DV} {y':DV} {d:DV} {d':DV} {K:St→Prop} (hm:m=m') (hS:S=S') (hx:x=x') (hy:y=y') (hd:d=d'):jX m S x y d K=jX m' S' x' y' d' K:=by cases hm;cases hS;cases hx;cases hy;cases hd;rfl
@[congr] theorem UL {m:Option (KK×DV)} {m':Option (KK×DV)} {S:St} {S':St} {x:DV} {x':DV} {y:DV} {y':DV} {K:St→Prop} (hm:m=m') (hS:S=S') (hx:x=x') (hy:y=y'):oO m S x y K=oO m' S' x' y' K:=by cases hm;cases hS;cases hx;cases hy;rfl
@[congr] theorem Vm {m:Option (KK×DV)} {m':Option (KK×DV)} {S:St} {S':St} {x:DV} {x':DV} {K:DV→St→Prop} (hm:m=m') (hS:S=S') (hx:x=x'):xg m S x K=xg m' S' x' K:=by cases hm;cases hS;cases hx;rfl
@[congr] theorem RP {m:Option (KK×DV)} {m':Option (KK×DV)} {r:Option Operand} {S:St} {S':St} {K:DV→St→Prop} (hm:m=m') (hS:S=S'):jh m r S K=jh m' r S' K:=by cases hm;cases hS;rfl
@[congr] theorem Xd {S:St} {S':St} {x:DV} {x':DV} {s:Bool} {s':Bool} {K:DV→St→Prop} (hS:S=S') (hx:x=x') (hs:s=s'):EM S x s K=EM S' x' s' K:=by cases hS;cases hx;cases hs;rfl
@[congr] theorem VH {S:St} {S':St} {x:DV} {x':DV} {K:DV→Prop} (hS:S=S') (hx:x=x'):uE S x K=uE S' x' K:=by cases hS;cases hx;rfl
@[congr] theorem aaz {α:Type} {o o':Option α} {F:α→Prop} (h:o=o'):oK o F=oK o' F:=by cases h;rfl
@[congr] theorem Yh {P:Program} {w0:W0} {op:Op} {fr:List DV} {fr':List DV} {S:St} {S':St} {K:DV→St→Prop} (hfr:fr=fr') (hS:S=S'):aI P w0 op fr S K=aI P w0 op fr' S' K:=by cases hfr;cases hS;rfl
@[congr] theorem Xu {P:Program} {w0:W0} {op:Op} {fr:List DV} {fr':List DV} {S:St} {S':St} {K:DV→Prop} (hfr:fr=fr') (hS:S=S'):aH P w0 op fr S K=aH P w0 op fr' S' K:=by cases hfr;cases hS;rfl
@[congr] theorem Xv {P:Program} {w0:W0} {cal:DV} {cal':DV} {ds:List DV} {ds':List DV} {S:St} {S':St} {K:DV→St→Prop} (hcal:cal=cal') (hds:ds=ds') (hS:S=S'):pD P w0 cal ds S K=pD P w0 cal' ds' S' K:=by cases hcal;cases hds;cases hS;rfl
@[congr] theorem WL {P:Program} {w0:W0} {cal:DV} {cal':DV} {ds:List DV} {ds':List DV} {S:St} {S':St} {K:DV→Prop} (hcal:cal=cal') (hds:ds=ds') (hS:S=S'):my P w0 cal ds S K=my P w0 cal' ds' S' K:=by cases hcal;cases hds;cases hS;rfl
@[congr] theorem ZE {P:Program} {w0:W0} {ops:Array Oper} {K:List DV→St→Prop} {l:List Oper} {fr:List DV} {fr':List DV} {S:St} {S':St} (hfr:fr=fr') (hS:S=S'):yu P w0 ops K l fr S=yu P w0 ops K l fr' S':=by cases hfr;cases hS;rfl
@[congr] theorem Xq {P:Program} {op:BinOp} {t:TypeId} {cx:Bool} {cx':Bool} {cy:Bool} {cy':Bool} {x:DV} {x':DV} {y:DV} {y':DV} {K:DV→Prop} (hcx:cx=cx') (hcy:cy=cy') (hx:x=x') (hy:y=y'):kG P op t cx cy x y K=kG P op t cx' cy' x' y' K:=by cases hcx;cases hcy;cases hx;cases hy;rfl
@[congr] theorem VE {P:Program} {t:TypeId} {parts:List (Nat×DV)} {parts':List (Nat×DV)} {K:DV→Prop} (hparts:parts=parts'):gE P t parts K=gE P t parts' K:=by cases hparts;rfl
@[congr] theorem UN {P:Program} {t:TypeId} {ok:Bool} {ok':Bool} {x:DV} {x':DV} {K:DV→Prop} (hok:ok=ok') (hx:x=x'):sr P t ok x K=sr P t ok' x' K:=by cases hok;cases hx;rfl
@[congr] theorem Xs {P:Program} {fr:List DV} {fr':List DV} {S:St} {S':St} {K:DV→Prop} {r:ResultVar} (hfr:fr=fr') (hS:S=S'):rz P fr S K r=rz P fr' S' K r:=by cases hfr;cases hS;rfl
@[congr] theorem W4 {P:Program} {fr:List DV} {fr':List DV} {S:St} {S':St} {r:List ResultVar} {K:List DV→Prop} (hfr:fr=fr') (hS:S=S'):uB P fr S r K=uB P fr' S' r K:=by cases hfr;cases hS;rfl
@[congr] theorem Yr {P:Program} {fr:List DV} {fr':List DV} {S:St} {S':St} {r:List ResultVar} {K:DV→Prop} (hfr:fr=fr') (hS:S=S'):tO P fr S r K=tO P fr' S' r K:=by cases hfr;cases hS;rfl
def eI(b:Bool)(A B:Prop):Prop:=match b with
 |true=>A
 |false=>B
theorem Pc(A B:Prop):eI true A B=A:=rfl
theorem NR(A B:Prop):eI false A B=B:=rfl
@[congr] theorem XI {b b':Bool} {A B:Prop} (h:b=b'):eI b A B=eI b' A B:=by cases h;rfl
theorem NK(S:St)(ds:List DV)(F:List DV→St→Prop):iD S ds F=eI (iI ds) (F ds S∨gy S ds F) (gy S ds F):=by
 unfold iD eI;cases iI ds <;>rfl
attribute [go_sem ↓] Pc NR NK
def E7(S:St)(d:DV)(K:DV→St→Prop):Prop:=∀b,jD S.box b→K (.v (.pointer (some ⟨b,0,none⟩))) ⟨(b,cd d)::S.box,S.acc⟩
@[congr] theorem Zp {S S':St} {d d':DV} {K:DV→St→Prop} (h1:S=S') (h2:d=d'):E7 S d K=E7 S' d' K:=by cases h1;cases h2;rfl
theorem Dl(x:Operand):pY (.move x)=true:=rfl
theorem xN(x:Operand):pY (.assign x)=true:=rfl
theorem CK(c a b:Operand):pY (.pick c a b)=true:=rfl
theorem Dn(t:TypeId)(x:Operand):pY (.load t x)=true:=rfl
theorem rW(t:TypeId)(x:Operand)(f:Nat):pY (.fieldAddr t x f)=true:=rfl
theorem rR(t:TypeId)(x i:Operand):pY (.indexAddr t x i)=true:=rfl
theorem vr(x:Operand)(i:Nat):pY (.extract x i)=true:=rfl
theorem tn(x:Operand):pY (.nilCheck x)=true:=rfl
theorem Ah(b:BinOp)(t:TypeId)(x y:Operand)(t':TypeId):pY (.binOp b t x y t')=true:=rfl
theorem D6(b:UnOp)(t:TypeId)(x:Operand):pY (.unOp b t x)=true:=rfl
theorem vx(s d:TypeId)(x:Operand):pY (.convert s d x)=true:=rfl
theorem AK(t:TypeId)(parts:Array (Nat×Operand)):pY (.build t parts)=true:=rfl
theorem qw(t:TypeId)(len:Nat)(parts:Array (Nat×Operand)):pY (.buildSlice t len parts)=true:=rfl
theorem Bk(t:TypeId)(x:Operand)(lo hi mx:Option Operand):pY (.slice t x lo hi mx)=true:=rfl
theorem Gj(t:TypeId)(x:Operand):pY (.box t x)=false:=rfl
theorem AA(t:TypeId)(x y:Operand):pY (.store t x y)=false:=rfl
theorem FO(x:Operand)(a:Array Operand)(ts:Array TypeId):pY (.call ⟨.value x,a,ts⟩)=true:=rfl
theorem Ga(x:Operand)(m:String)(a:Array Operand)(ts:Array TypeId):pY (.call ⟨.invoke x m,a,ts⟩)=true:=rfl
theorem zX(a:Array Operand)(ts:Array TypeId):pY (.call ⟨.builtin .len,a,ts⟩)=true:=rfl
theorem y0(a:Array Operand)(ts:Array TypeId):pY (.call ⟨.builtin .min,a,ts⟩)=true:=rfl
theorem th(a:Array Operand)(ts:Array TypeId):pY (.call ⟨.builtin .append,a,ts⟩)=false:=rfl
theorem yz(a:Array Operand)(ts:Array TypeId):pY (.call ⟨.builtin .copy,a,ts⟩)=false:=rfl
theorem IE(fr:List DV)(t:Nat):ev fr (.tmp t)=fr.getD t ud:=rfl
theorem Dx(fr:List DV)(u:Value):ev fr (.const u)=cv u:=rfl
theorem HY(fr:List DV)(f:FuncId):ev fr (.func f)= .v (.func (.func f) #[] #[]):=rfl
theorem GU(fr:List DV)(t:Nat)(d:DV):pt fr (some t) d=fr.set t d:=rfl
theorem HN(fr:List DV)(d:DV):pt fr none d=fr:=rfl
theorem Lz(k:IntKind)(n:Int):cv (.int k n)= .v (.int k n):=rfl
theorem HP(b:Bool):cv (.bool b)= .v (.bool b):=rfl
theorem KN(s:ByteArray):cv (.string s)= .v (.string s):=rfl
theorem Kk:cv (.slice none 0 0)= .sl 0 true []:=rfl
theorem Lr:cv (.nilIface)= .v .nilIface:=rfl
theorem MU:cv (.nilFunc)= .v .nilFunc:=rfl
theorem AR:ry (.str)=false:=rfl
theorem C5(fs:List (Nat×Nat×Bool))(n:Nat):ry (.st fs n)=false:=rfl
theorem B6:sZ (.str)=false:=rfl
theorem De(k:IntKind):sZ (.int k)=true:=rfl
theorem Gr(e s b:Nat)(i:Bool):sZ (.sl e s b i)=false:=rfl
theorem xB:ov (.str)=true:=rfl
theorem AS(e s b:Nat)(i:Bool):ov (.sl e s b i)=true:=rfl
theorem KZ(u:Value):vc (.v u)=true:=rfl
theorem G8(s:Nat)(f:Bool)(xs:List DV):vc (.sl s f xs)=true:=rfl
theorem Gu(u:Value):gz (.v u)=true:=rfl
theorem BS(s:Nat)(f:Bool)(xs:List DV):gz (.sl s f xs)=true:=rfl
theorem zk(ds:List DV):gz (.agg ds)=ds.all vc:=rfl
theorem HX(t:Nat):Bl (.tmp t)=false:=rfl
theorem A0(u:Value):Bl (.const u)=true:=rfl
theorem CR:fg []=some []:=rfl
theorem Ja(u:Value)(ds:List DV):fg (.v u::ds)=(fg ds).map (u::·):=rfl
theorem zh(fs:List (Nat×Nat×Bool))(ds:List DV):kO fs ds []=some ds:=rfl
def X9(p:Option (Nat×Nat×Bool))(fs:List (Nat×Nat×Bool))(d:DV)(ds:List DV)(rest:List (Nat×DV)):Option (List DV):=match p with
 |none=>none
 |some (off,sz,_)=>if eL d&&(cd d).length==sz&&decide (off+sz≤ds.length)then kO fs (gu ds off (cd d)) rest else none
theorem yy(fs:List (Nat×Nat×Bool))(ds:List DV)(i:Nat)(d:DV)(rest:List (Nat×DV)):kO fs ds ((i,d)::rest)=X9 (fs[i]?) fs d ds rest:=by rw[kO];unfold X9;cases fs[i]? <;>rfl
theorem UR(off sz:Nat)(ag:Bool)(fs:List (Nat×Nat×Bool))(d:DV)(ds:List DV)(rest:List (Nat×DV)):X9 (some (off,sz,ag)) fs d ds rest=if eL d&&(cd d).length==sz&&decide (off+sz≤ds.length)then kO fs (gu ds off (cd d)) rest else none:=rfl
theorem AN(s:Nat)(ds:List DV):nQ s ds []=some ds:=rfl
theorem yJ(s:Nat)(ds:List DV)(i:Nat)(d:DV)(rest:List (Nat×DV)):nQ s ds ((i,d)::rest)=if eL d&&(cd d).length==s&&decide (i<ds.length)then nQ s (ds.set i d) rest else none:=rfl
theorem yd(ds:List DV)(o:Nat):gu ds o []=ds:=rfl
theorem vg(ds:List DV)(o:Nat)(c:DV)(cs:List DV):gu ds o (c::cs)=gu (ds.set o c) (o+1) cs:=rfl
theorem Bs(d:DV)(n:Nat)(y:DV):ru d 0 n n y=some y:=by simp[ru]
theorem A7(ds:List DV)(o n s:Nat)(y:DV):ru (.agg ds) o n s y=if o=0∧n=s then some y else some (.agg (gu ds o (cd y))):=rfl
theorem BY(k:Nat)(x:Ob)(t:List (Nat×Ob))(p:Nat×Ob):rB ((k,x)::t) k p=p::t:=by simp[rB]
theorem Ku{k n:Nat}(h:¬k=n)(x:Ob)(t:List (Nat×Ob))(p:Nat×Ob):rB ((k,x)::t) n p=(k,x)::rB t n p:=by simp[rB,h]
theorem DT(k:IntKind):sameKind .add k k=true:=by simp[sameKind]
theorem DU(k:IntKind):sameKind .sub k k=true:=by simp[sameKind]
theorem B4(k:IntKind):sameKind .mul k k=true:=by simp[sameKind]
theorem BU(k:IntKind):sameKind .quo k k=true:=by simp[sameKind]
theorem DQ(k:IntKind):sameKind .rem k k=true:=by simp[sameKind]
theorem Da(k:IntKind):sameKind .and k k=true:=by simp[sameKind]
theorem D3(k:IntKind):sameKind .xor k k=true:=by simp[sameKind]
theorem Dj(k:IntKind):sameKind .eql k k=true:=by simp[sameKind]
theorem Em(k:IntKind):sameKind .neq k k=true:=by simp[sameKind]
theorem DL(k:IntKind):sameKind .lss k k=true:=by simp[sameKind]
theorem D5(k:IntKind):sameKind .leq k k=true:=by simp[sameKind]
theorem En(k:IntKind):sameKind .gtr k k=true:=by simp[sameKind]
theorem C2(k:IntKind):sameKind .geq k k=true:=by simp[sameKind]
theorem Cv(k k':IntKind):sameKind .shr k k'=true:=rfl
theorem va{α:Type}(a:α):List.replicate 0 a=[]:=rfl
theorem vb{α:Type}(n:Nat)(a:α):List.replicate (n+1) a=a::List.replicate n a:=rfl
theorem PI{α:Type}(a b:α)(l:List α):(a::l).set 0 b=b::l:=rfl
theorem OW{α:Type}(a b:α)(l:List α)(n:Nat):(a::l).set (n+1) b=a::l.set n b:=rfl
theorem XS(live:List Nat)(fr:List DV):wk live fr=fm (wh fr 0 live):=rfl
theorem FQ(i:Nat)(js:List Nat):wh [] i js=[]:=rfl
theorem NI(d:DV)(ds:List DV)(i:Nat):wh (d::ds) i []= .any::wh ds (i+1) []:=rfl
theorem O0(d:DV)(ds:List DV)(i j:Nat)(js:List Nat):wh (d::ds) i (j::js)=if i=j then d::wh ds (i+1) js else .any::wh ds (i+1) (j::js):=rfl
theorem Ck(fr:List DV):nK fr []=fr:=rfl
theorem AO(fr:List DV)(i:Nat)(d:DV)(us:List (Nat×DV)):nK fr ((i,d)::us)=nK (fr.set i d) us:=rfl
theorem H5{α:Type}(l:List α):List.append [] l=l:=rfl
theorem CQ{α:Type}(a:α)(l m:List α):List.append (a::l) m=a::List.append l m:=rfl
theorem GC(w0:W0)(fr:List DV)(n:Nat)(F:DV→Prop):Hv w0 fr (.tmp n) F=F (ev fr (.tmp n)):=rfl
theorem B9(w0:W0)(fr:List DV)(b:Nat)(F:DV→Prop):Hv w0 fr (.global b) F=rF w0 b F:=rfl
theorem Sr{P:Program}{w0:W0}{fr:List DV}{S:St}{K:DV→St→Prop}(x:Operand):aI P w0 (.move x) fr S K=(K (ev fr x) S):=rfl
theorem JK{P:Program}{w0:W0}{fr:List DV}{S:St}{K:DV→St→Prop}(x:Operand):aI P w0 (.assign x) fr S K=(K (ev fr x) S):=rfl
theorem Sx{P:Program}{w0:W0}{fr:List DV}{S:St}{K:DV→St→Prop}(c a b:Operand):aI P w0 (.pick c a b) fr S K=(jI (ev fr c) (ev fr a) (ev fr b) (K · S)):=rfl
theorem Uu{P:Program}{w0:W0}{fr:List DV}{S:St}{K:DV→St→Prop}(t:TypeId)(x:Operand):aI P w0 (.load t x) fr S K=(bG (tk P t) S (ev fr x) (K · S)):=rfl
theorem Bz{P:Program}{w0:W0}{fr:List DV}{S:St}{K:DV→St→Prop}(t:TypeId)(x:Operand)(f:Nat):aI P w0 (.fieldAddr t x f) fr S K=(ia (tk P t) f (ev fr x) (K · S)):=rfl
theorem zM{P:Program}{w0:W0}{fr:List DV}{S:St}{K:DV→St→Prop}(t:TypeId)(x i:Operand):aI P w0 (.indexAddr t x i) fr S K=(Hv w0 fr x fun d=>aG (tk P t) d (ev fr i) (K · S)):=rfl
theorem PT{P:Program}{w0:W0}{fr:List DV}{S:St}{K:DV→St→Prop}(t:TypeId)(x i:Operand):aI P w0 (.index t x i) fr S K=(jJ (tk P t) (ev fr x) (ev fr i) (K · S)):=rfl
theorem GW{P:Program}{w0:W0}{fr:List DV}{S:St}{K:DV→St→Prop}(x:Operand)(i:Nat):aI P w0 (.extract x i) fr S K=(eg i (ev fr x) (K · S)):=rfl
theorem Dz{P:Program}{w0:W0}{fr:List DV}{S:St}{K:DV→St→Prop}(x:Operand):aI P w0 (.nilCheck x) fr S K=(notNil (ev fr x)=true∧K (ev fr x) S):=rfl
theorem Oj{P:Program}{w0:W0}{fr:List DV}{S:St}{K:DV→St→Prop}(b:BinOp)(t:TypeId)(x y:Operand)(t':TypeId):aI P w0 (.binOp b t x y t') fr S K=(eI (iM y) (mu b (tk P t) (ev fr x) (K · S)) (kG P b t (Bl x) (Bl y) (ev fr x) (ev fr y) (K · S))):=by simp only[aI];unfold eI;cases iM y <;>rfl
theorem Ts{P:Program}{w0:W0}{fr:List DV}{S:St}{K:DV→St→Prop}(b:UnOp)(t:TypeId)(x:Operand):aI P w0 (.unOp b t x) fr S K=(GQ b (ev fr x) (K · S)):=rfl
theorem Hb{P:Program}{w0:W0}{fr:List DV}{S:St}{K:DV→St→Prop}(s d:TypeId)(x:Operand):aI P w0 (.convert s d x) fr S K=(jK (tk P s) (tk P d) (tk P (eG P s)) (tk P (eG P d)) S (ev fr x) (K · S)):=rfl
theorem NL{P:Program}{w0:W0}{fr:List DV}{S:St}{K:DV→St→Prop}(t:TypeId)(x:Operand):aI P w0 (.makeInterface t x) fr S K=(ry (tk P t)=false∧shr S (ev fr x) fun d S=>K (.jM t d) S):=rfl
theorem Oo{P:Program}{w0:W0}{fr:List DV}{S:St}{K:DV→St→Prop}(t:TypeId)(parts:List (Nat×Operand)):aI P w0 (.build t parts.toArray) fr S K=(gy S (parts.map fun p=>ev fr p.2) fun ds S=>gE P t ((parts.map (·.1)).zip ds) (K · S)):=rfl
theorem xe{P:Program}{w0:W0}{fr:List DV}{S:St}{K:DV→St→Prop}(t:TypeId)(len:Nat)(parts:List (Nat×Operand)):aI P w0 (.buildSlice t len parts.toArray) fr S K=(gy S (parts.map fun p=>ev fr p.2) fun ds S=>aP (tk P t) (zD P (eG P t)) len ((parts.map (·.1)).zip ds) (K · S)):=rfl
theorem Dq{P:Program}{w0:W0}{fr:List DV}{S:St}{K:DV→St→Prop}(fn:Fn)(a b:List Operand):aI P w0 (.makeFunc fn a.toArray b.toArray) fr S K=(mV fn (a.map (ev fr)) (b.map (ev fr)) (K · S)):=rfl
theorem O3{P:Program}{w0:W0}{fr:List DV}{S:St}{K:DV→St→Prop}(t:TypeId)(x:Operand)(lo hi mx:Option Operand):aI P w0 (.slice t x lo hi mx) fr S K=((mx.isSome=true→hi.isSome=true)∧il (tk P t) S (ev fr x) (lo.map (ev fr)) (hi.map (ev fr)) (mx.map (ev fr)) K):=rfl
theorem VC{P:Program}{w0:W0}{fr:List DV}{S:St}{K:DV→St→Prop}(t:TypeId)(x:Operand):aI P w0 (.box t x) fr S K=(eL (ev fr x)=true∧E7 S (ev fr x) K):=rfl
theorem Nz{P:Program}{w0:W0}{fr:List DV}{S:St}{K:DV→St→Prop}(t:TypeId):aI P w0 (.alloc t) fr S K=(eL (zD P t)=true∧E7 S (zD P t) K):=rfl
theorem Nu{P:Program}{w0:W0}{fr:List DV}{S:St}{K:DV→St→Prop}(t:TypeId)(x y:Operand):aI P w0 (.store t x y) fr S K=((P.info? t).isSome=true∧fE (P.cellsOf t) S (ev fr x) (ev fr y) (K ud)):=rfl
theorem AW{P:Program}{w0:W0}{fr:List DV}{S:St}{K:DV→St→Prop}(t:TypeId)(x y:Operand):aI P w0 (.makeSlice t x y) fr S K=(fL (tk P t) (zD P (eG P t)) (ev fr x) (ev fr y) S K):=rfl
theorem Vf{P:Program}{w0:W0}{fr:List DV}{S:St}{K:DV→St→Prop}(x:Operand)(t:TypeId):aI P w0 (.call ⟨.builtin .len, #[x], #[t]⟩) fr S K=(oI (tk P t) (ev fr x) (K · S)):=rfl
theorem WB{P:Program}{w0:W0}{fr:List DV}{S:St}{K:DV→St→Prop}(x:Operand)(t:TypeId):aI P w0 (.call ⟨.builtin .cap, #[x], #[t]⟩) fr S K=(rX (tk P t) (ev fr x) (K · S)):=rfl
theorem JP{P:Program}{w0:W0}{fr:List DV}{S:St}{K:DV→St→Prop}(x y:Operand)(t t':TypeId):aI P w0 (.call ⟨.builtin .append, #[x,y], #[t,t']⟩) fr S K=(eI (uu (ev fr x)) (eI (sZ (tk P t')) (rH (tk P t) (zD P (eG P t)) S (ev fr x) (ev fr y) K) (rJ (tk P t) (tk P t') S (ev fr x) (ev fr y) K)) (eI (sZ (tk P t')) (lR (tk P t) (zD P (eG P t)) S (ev fr x) (ev fr y) K) (lx (tk P t) (tk P t') S (ev fr x) (ev fr y) K))):=by simp only[aI];unfold eI;cases uu (ev fr x) <;>cases sZ (tk P t') <;>rfl
theorem Su{P:Program}{w0:W0}{fr:List DV}{S:St}{K:DV→St→Prop}(x y:Operand)(t t':TypeId):aI P w0 (.call ⟨.builtin .copy, #[x,y], #[t,t']⟩) fr S K=(pd (tk P t) S (ev fr x) (ev fr y) K):=rfl
theorem Pb{P:Program}{w0:W0}{fr:List DV}{S:St}{K:DV→St→Prop}(x:Operand)(t:TypeId):aI P w0 (.call ⟨.builtin .clear, #[x], #[t]⟩) fr S K=(mw (tk P t) (zD P (eG P t)) S (ev fr x) K):=rfl
theorem Ws{P:Program}{w0:W0}{fr:List DV}{S:St}{K:DV→St→Prop}(x y:Operand)(ts:Array TypeId):aI P w0 (.call ⟨.builtin .min, #[x,y],ts⟩) fr S K=(rO (ev fr x) (ev fr y) (K · S)):=rfl
theorem US{P:Program}{w0:W0}{fr:List DV}{S:St}{K:DV→St→Prop}(x y:Operand)(ts:Array TypeId):aI P w0 (.call ⟨.builtin .max, #[x,y],ts⟩) fr S K=(rT (ev fr x) (ev fr y) (K · S)):=rfl
theorem Ry{P:Program}{w0:W0}{fr:List DV}{S:St}{K:DV→St→Prop}(cal:Operand)(a:List Operand)(ts:Array TypeId):aI P w0 (.call ⟨.value cal,a.toArray,ts⟩) fr S K=(pD P w0 (ev fr cal) (a.map (ev fr)) S K):=rfl
theorem Jr{P:Program}{w0:W0}{fr:List DV}{S:St}{K:DV→St→Prop}(r:Operand)(name:String)(a:List Operand)(ts:Array TypeId):aI P w0 (.call ⟨.invoke r name,a.toArray,ts⟩) fr S K=(tZ P (ev fr r) name fun f d=>iD S (d::a.map (ev fr)) fun ds S=>@AC P w0 f ds S ⟨K⟩):=rfl
theorem J7{P:Program}{w0:W0}{fr:List DV}{S:St}{K:DV→St→Prop}(t:TypeId)(x y:Operand)(ok:Bool):aI P w0 (.lookup t x y ok) fr S K=(dv (sB P t) S (ev fr x) (ev fr y) ok (K · S)):=rfl
theorem A4{P:Program}{w0:W0}{fr:List DV}{S:St}{K:DV→St→Prop}(t:TypeId)(x y z:Operand):aI P w0 (.mapUpdate t x y z) fr S K=(jX (sB P t) S (ev fr x) (ev fr y) (ev fr z) (K ud)):=rfl
theorem Im{P:Program}{w0:W0}{fr:List DV}{S:St}{K:DV→St→Prop}(t:TypeId)(r:Option Operand):aI P w0 (.makeMap t r) fr S K=(jh (sB P t) r S K):=rfl
theorem Te{P:Program}{w0:W0}{fr:List DV}{S:St}{K:DV→Prop}(x:Operand):aH P w0 (.move x) fr S K=(K (ev fr x)):=rfl
theorem Mm{P:Program}{w0:W0}{fr:List DV}{S:St}{K:DV→Prop}(x:Operand):aH P w0 (.assign x) fr S K=(K (ev fr x)):=rfl
theorem SH{P:Program}{w0:W0}{fr:List DV}{S:St}{K:DV→Prop}(c a b:Operand):aH P w0 (.pick c a b) fr S K=(jI (ev fr c) (ev fr a) (ev fr b) K):=rfl
theorem Tu{P:Program}{w0:W0}{fr:List DV}{S:St}{K:DV→Prop}(t:TypeId)(x:Operand):aH P w0 (.load t x) fr S K=(bG (tk P t) S (ev fr x) K):=rfl
theorem Aw{P:Program}{w0:W0}{fr:List DV}{S:St}{K:DV→Prop}(t:TypeId)(x:Operand)(f:Nat):aH P w0 (.fieldAddr t x f) fr S K=(ia (tk P t) f (ev fr x) K):=rfl
theorem BA{P:Program}{w0:W0}{fr:List DV}{S:St}{K:DV→Prop}(t:TypeId)(x i:Operand):aH P w0 (.indexAddr t x i) fr S K=(Hv w0 fr x fun d=>aG (tk P t) d (ev fr i) K):=rfl
theorem Ic{P:Program}{w0:W0}{fr:List DV}{S:St}{K:DV→Prop}(x:Operand)(i:Nat):aH P w0 (.extract x i) fr S K=(eg i (ev fr x) K):=rfl
theorem C4{P:Program}{w0:W0}{fr:List DV}{S:St}{K:DV→Prop}(x:Operand):aH P w0 (.nilCheck x) fr S K=(notNil (ev fr x)=true∧K (ev fr x)):=rfl
theorem Qz{P:Program}{w0:W0}{fr:List DV}{S:St}{K:DV→Prop}(b:BinOp)(t:TypeId)(x y:Operand)(t':TypeId):aH P w0 (.binOp b t x y t') fr S K=(iM y=false∧kG P b t (Bl x) (Bl y) (ev fr x) (ev fr y) K):=rfl
theorem Tp{P:Program}{w0:W0}{fr:List DV}{S:St}{K:DV→Prop}(b:UnOp)(t:TypeId)(x:Operand):aH P w0 (.unOp b t x) fr S K=(GQ b (ev fr x) K):=rfl
theorem FV{P:Program}{w0:W0}{fr:List DV}{S:St}{K:DV→Prop}(s d:TypeId)(x:Operand):aH P w0 (.convert s d x) fr S K=(iP (tk P s) (tk P d) (ev fr x) K):=rfl
theorem Ds{P:Program}{w0:W0}{fr:List DV}{S:St}{K:DV→Prop}(fn:Fn)(a b:List Operand):aH P w0 (.makeFunc fn a.toArray b.toArray) fr S K=(mV fn (a.map (ev fr)) (b.map (ev fr)) K):=rfl
theorem Oy{P:Program}{w0:W0}{fr:List DV}{S:St}{K:DV→Prop}(t:TypeId)(x:Operand)(lo hi mx:Option Operand):aH P w0 (.slice t x lo hi mx) fr S K=((mx.isSome=true→hi.isSome=true)∧vc (ev fr x)=true∧fu (tk P t) (ev fr x) (lo.map (ev fr)) (hi.map (ev fr)) (mx.map (ev fr)) K):=rfl
theorem N3{P:Program}{w0:W0}{fr:List DV}{S:St}{K:DV→Prop}(t:TypeId)(parts:List (Nat×Operand)):aH P w0 (.build t parts.toArray) fr S K=((parts.map fun p=>ev fr p.2).all gz=true∧gE P t ((parts.map (·.1)).zip (parts.map fun p=>ev fr p.2)) K):=rfl
theorem yM{P:Program}{w0:W0}{fr:List DV}{S:St}{K:DV→Prop}(t:TypeId)(len:Nat)(parts:List (Nat×Operand)):aH P w0 (.buildSlice t len parts.toArray) fr S K=((parts.map fun p=>ev fr p.2).all gz=true∧aP (tk P t) (zD P (eG P t)) len ((parts.map (·.1)).zip (parts.map fun p=>ev fr p.2)) K):=rfl
theorem VA{P:Program}{w0:W0}{fr:List DV}{S:St}{K:DV→Prop}(x:Operand)(t:TypeId):aH P w0 (.call ⟨.builtin .len, #[x], #[t]⟩) fr S K=(oI (tk P t) (ev fr x) K):=rfl
theorem U8{P:Program}{w0:W0}{fr:List DV}{S:St}{K:DV→Prop}(x y:Operand)(ts:Array TypeId):aH P w0 (.call ⟨.builtin .min, #[x,y],ts⟩) fr S K=(rO (ev fr x) (ev fr y) K):=rfl
theorem WW{P:Program}{w0:W0}{fr:List DV}{S:St}{K:DV→Prop}(x y:Operand)(ts:Array TypeId):aH P w0 (.call ⟨.builtin .max, #[x,y],ts⟩) fr S K=(rT (ev fr x) (ev fr y) K):=rfl
theorem L1{P:Program}{w0:W0}{fr:List DV}{S:St}{K:DV→Prop}(r:Operand)(name:String)(a:List Operand)(ts:Array TypeId):aH P w0 (.call ⟨.invoke r name,a.toArray,ts⟩) fr S K=(tZ P (ev fr r) name fun f d=>my P w0 (.v (.func (.func f) #[] #[])) (d::a.map (ev fr)) S K):=rfl
theorem TY{P:Program}{w0:W0}{fr:List DV}{S:St}{K:DV→Prop}(cal:Operand)(a:List Operand)(ts:Array TypeId):aH P w0 (.call ⟨.value cal,a.toArray,ts⟩) fr S K=(my P w0 (ev fr cal) (a.map (ev fr)) S K):=rfl
attribute [go_sem ↓] Sr JK Sx Uu Bz zM PT GW Dz Oj Ts Hb NL Oo xe Dq O3 VC Nz Nu AW Vf WB JP Su Pb Ws US Ry Jr J7 A4 Im Te
attribute [go_sem ↓] Mm SH Tu Aw BA Ic C4 Qz Tp FV Ds Oy N3 yM VA U8 WW L1 TY
attribute [go_sem] Dl xN CK Dn rW rR vr tn Ah D6 vx AK qw Bk Gj AA FO Ga zX y0 th yz IE
attribute [go_sem] Dx HY GU HN Lz HP KN Kk Lr MU AR C5 B6 De Gr
attribute [go_sem] xB AS KZ G8 Gu BS zk HX A0 CR Ja zh yy UR AN
attribute [go_sem] yJ yd vg Bs A7 BY Ku DT DU B4 BU DQ Da D3 Dj Em DL D5 En C2 Cv va vb PI OW XS FQ NI O0 Ck AO H5 CQ GC
attribute [go_sem] B9
section
variable {P:Program} {w0:W0} {K:DV→Prop} {A B:Prop} {F G:List DV→Prop}
/- Tests:what is known is gone by;what can't be known parts the fQ. -/
theorem MN:fV (.v (.bool true)) A B=A:=by simp[fV]
theorem Mi:fV (.v (.bool false)) A B=B:=by simp[fV]
theorem L6(p:Prop)[Decidable p]:fV (.v (.bool (decide p))) A B=((p→A)∧(¬p→B)):=by simp[fV]
theorem IN(b:Bool):fV (.v (.bool (!b))) A B=fV (.v (.bool b)) B A:=by
 simp only[fV,Bool.not_eq_eq_eq_not,Bool.not_true,Bool.not_false]
 exact propext ⟨fun h=>⟨h.2,h.1⟩,fun h=>⟨h.2,h.1⟩⟩
theorem M7(b:Bool):fV (.v (.bool b)) A B=((b=true→A)∧(b=false→B)):=rfl
theorem KA(a b:DV):jI (.v (.bool true)) a b K=K a:=by simp[jI]
theorem L9(a b:DV):jI (.v (.bool false)) a b K=K b:=by simp[jI]
/- A choice between what is known is the test itself. -/
theorem NM(t:Nat)(fr:List DV):gD t (.v (.bool true)) fr true F G=F (fr.set t (.v (.bool true))):=by simp[gD]
theorem NS(t:Nat)(fr:List DV):gD t (.v (.bool true)) fr false F G=G (fr.set t (.v (.bool true))):=by simp[gD]
theorem Oc(t:Nat)(fr:List DV):gD t (.v (.bool false)) fr true F G=G (fr.set t (.v (.bool false))):=by simp[gD]
theorem OY(t:Nat)(fr:List DV):gD t (.v (.bool false)) fr false F G=F (fr.set t (.v (.bool false))):=by simp[gD]
theorem PM(p:Prop)[Decidable p](t:Nat)(fr:List DV):gD t (.v (.bool (decide p))) fr true F G=((p→F (fr.set t (.v (.bool true))))∧(¬p→G (fr.set t (.v (.bool false))))):=by simp[gD]
theorem Qr(p:Prop)[Decidable p](t:Nat)(fr:List DV):gD t (.v (.bool (decide p))) fr false F G=((p→G (fr.set t (.v (.bool true))))∧(¬p→F (fr.set t (.v (.bool false))))):=by
 simp only[gD,decide_eq_false_iff_not,Bool.not_false,decide_eq_true_eq]
 exact propext ⟨fun h=>⟨h.2,h.1⟩,fun h=>⟨h.2,h.1⟩⟩
theorem Ez(b:Bool)(t:Nat)(fr:List DV):gD t (.v (.bool b)) fr true F G=((b=true→F (fr.set t (.v (.bool true))))∧(b=false→G (fr.set t (.v (.bool false))))):=by simp[gD]
theorem OI(b:Bool)(t:Nat)(fr:List DV):gD t (.v (.bool b)) fr false F G=((b=true→G (fr.set t (.v (.bool true))))∧(b=false→F (fr.set t (.v (.bool false))))):=by
 simp only[gD,Bool.not_false]
 exact propext ⟨fun h=>⟨h.2,h.1⟩,fun h=>⟨h.2,h.1⟩⟩
end
attribute [go_sem ↓] MN Mi L6 IN KA L9 NM NS Oc OY PM Qr
attribute [go_sem ↓ low] M7 Ez OI
attribute [go_sem] List.length_cons List.length_nil List.length_map List.cons_append List.nil_append List.map_cons List.map_nil List.zip_cons_cons List.zip_nil_right
section
variable {P:Program} {w0:W0} {ops:Array Oper} {K:List DV→St→Prop} {fr:List DV} {S:St} {rest:List Oper} {dst:Option Tmp} {op:Op} {ty:TypeId} {pos:String} {aft:Array Edge}
theorem Ii:yu P w0 ops K [] fr S=K fr S:=rfl
theorem DI:yu P w0 ops K (⟨dst,op,ty,pos,aft,none⟩::rest) fr S=aI P w0 op fr S fun d S'=>yu P w0 ops K rest (pt fr dst d) S':=rfl
theorem Cm(j:Nat)(want:Bool):yu P w0 ops K (⟨dst,op,ty,pos,aft,some (j,want)⟩::rest) fr S=gK ((ops[j]?).bind (·.dst)) fr want (fun fr=>aI P w0 op fr S fun d S'=>yu P w0 ops K rest (pt fr dst d) S') (fun fr=>yu P w0 ops K rest (pt fr dst ud) S):=yx _ _ _ _ _ _
end
def QC(P:Program)(w0:W0)(f:FuncId)(ds:List DV)(S:St)[K:Cn (DV→Prop)]:Prop:=∃d,aa P w0 f ds S (fun d' S'=>d'=d∧S'=S)∧K.k d
theorem Oe{P:Program}{w0:W0}(f:FuncId)(a cap:Array Value)(ds:List DV)(S:St)(K:DV→Prop):my P w0 (.v (.func (.func f) a cap)) ds S K=(a.size=0∧okF P f=true∧cap.toList.all (fun u=>u.oneCell')=true∧ds.all gz=true∧@QC P w0 f (ds++cap.toList.map .v) S ⟨K⟩):=rfl
attribute [go_sem ↓] Ii DI Cm Oe jU uJ nR jZ uB wH
attribute [go_sem] List.getD_cons_succ List.getD_cons_zero List.getElem?_cons_succ List.getElem?_cons_zero List.getElem?_toArray Option.bind_some List.all_cons List.all_nil Bool.and_self Bool.and_true
attribute [go_sem] Nat.zero_add true_and and_true List.drop_zero List.drop_succ_cons List.take_succ_cons List.take_zero Option.map_some Option.map_none Option.isSome_some Option.isSome_none Option.isNone_none Option.isNone_some
attribute [go_sem] Bool.false_eq_true if_true if_false or_true true_or false_or or_false forall_const false_implies imp_self Bool.not_true Bool.not_false beq_self_eq_true decide_eq_true_eq decide_eq_false_iff_not decide_true decide_false
attribute [go_sem] Int.toNat_natCast Int.natCast_nonneg Int.ofNat_lt Int.ofNat_le Int.natCast_inj List.getElem?_map Option.map_eq_some_iff forall_exists_index and_imp forall_apply_eq_imp_iff₂ forall_eq_apply_imp_iff ne_eq not_false_eq_true not_true_eq_false
attribute [go_sem] List.size_toArray List.append_nil Int.le_refl Nat.le_refl List.drop_nil List.take_nil Int.toNat_zero Int.natCast_zero Int.natCast_one Int.cast_ofNat_Int Bool.or_true Bool.or_false Bool.true_or Bool.false_or Bool.false_and Bool.and_false Bool.true_and List.isEmpty_nil List.isEmpty_cons
attribute [go_sem] dI dU dY dB dS Nat.lt_add_one forall_eq forall_eq' true_implies implies_true Option.some.injEq
structure FN{α:Type}(l:List (Nat×α)) where
 m:Nat
 h:jD l m
def FN.n{α:Type}{l:List (Nat×α)}(b:FN l):Nat:=b.m
theorem se{α:Type}(l:List (Nat×α))(F:Nat→Prop):(∀b,jD l b→F b)=∀b:FN l,F b.n:=propext ⟨fun h b=>h b.n b.h,fun h b hb=>h ⟨b,hb⟩⟩
theorem mD{α:Type}:∀{l:List (Nat×α)} {b:Nat},jD l b→lk l b=none
 |[],_,_=>rfl
 |(k,x)::t,b,h=>by
  simp only[jD]at h
  unfold lk
  rw[if_neg (by first|exact fun e=>h.1 e|exact fun e=>h.1 e.symm)]
  exact mD (by first|exact h.2|exact h.2.2)
theorem jt{α:Type}{l:List (Nat×α)}(b:FN l):lk l b.n=none:=mD b.h
theorem N8{α:Type}{l:List (Nat×α)}(b:FN l)(c:Nat)(h:(lk l c).isSome=true):(b.n=c)=False:=by
 refine eq_false fun e=>?_
 subst e;rw[show lk l b.n=none from mD b.h]at h;cases h
theorem Le{α:Type}{l:List (Nat×α)}(b:FN l)(c:Nat)(h:(lk l c).isSome=true):(c=b.n)=False:=by
 refine eq_false fun e=>?_
 subst e;rw[show lk l b.n=none from mD b.h]at h;cases h
section
variable {S:St} {K:DV→St→Prop}
theorem Ux(d:DV):E7 S d K=∀b:FN S.box,K (.v (.pointer (some ⟨b.n,0,none⟩))) ⟨(b.n,cd d)::S.box,S.acc⟩:=se S.box fun b=>K (.v (.pointer (some ⟨b,0,none⟩))) ⟨(b,cd d)::S.box,S.acc⟩
theorem M5(ds:List DV):E7 S (.agg ds) K=∀b:FN S.box,K (.v (.pointer (some ⟨b.n,0,none⟩))) ⟨(b.n,ds)::S.box,S.acc⟩:=Ux _
theorem T9(u:Value):E7 S (.v u) K=∀b:FN S.box,K (.v (.pointer (some ⟨b.n,0,none⟩))) ⟨(b.n,[.v u])::S.box,S.acc⟩:=Ux _
theorem Qf(s:Nat)(f:Bool)(xs:List DV):E7 S (.sl s f xs) K=∀b:FN S.box,K (.v (.pointer (some ⟨b.n,0,none⟩))) ⟨(b.n,[.sl s f xs])::S.box,S.acc⟩:=Ux _
end
theorem Hw(kk:KK)(z:DV)(S:St)(K:DV→St→Prop):jh (some (kk,z)) none S K=∀l:FN S.acc,K (.mp l.n) ⟨S.box,(l.n,.xo (.mp kk [] 0))::S.acc⟩:=by
 unfold jh
 simp only[oK,true_and]
 exact se S.acc fun l=>K (.mp l) ⟨S.box,(l,.xo (.mp kk [] 0))::S.acc⟩
attribute [go_sem ↓] Hw
attribute [go_sem ↓] se M5 T9 Qf
attribute [go_sem] N8 Le Option.isSome_some
noncomputable def pB(P:Prop):Bool:=@decide P (Classical.propDecidable P)
theorem lD{P:Prop}(h:P):pB P=true:=@decide_eq_true _ (Classical.propDecidable _) h
theorem pS{P:Prop}(h:¬P):pB P=false:=@decide_eq_false _ (Classical.propDecidable _) h
theorem tp(P:Prop):(pB P=true)=P:=propext ⟨fun h=>@of_decide_eq_true _ (Classical.propDecidable _) h,lD⟩
theorem FC(P:Prop):(pB P=false)=¬P:=propext ⟨fun h=>@of_decide_eq_false _ (Classical.propDecidable _) h,pS⟩
theorem WH(P:Prop):(true=pB P)=P:=(propext eq_comm).trans (tp P)
theorem WG(P:Prop):(false=pB P)=¬P:=(propext eq_comm).trans (FC P)
theorem Yo(P:Prop)[Decidable P]:(false=decide P)=¬P:=(propext eq_comm).trans (propext decide_eq_false_iff_not)
theorem Jy(P A B:Prop):fV (.v (.bool (pB P))) A B=((P→A)∧(¬P→B)):=by
 show((pB P=true→A)∧(pB P=false→B))=_
 rw[tp,FC]
theorem Pg(P:Prop)(t:Nat)(fr:List DV)(F G:List DV→Prop):gD t (.v (.bool (pB P))) fr true F G=((P→F (fr.set t (.v (.bool true))))∧(¬P→G (fr.set t (.v (.bool false))))):=by
 rw[Ez,tp,FC]
theorem MZ(P:Prop):(!pB P)=pB (¬P):=by
 by_cases h:P
 ·rw[lD h,pS (fun k=>k h)];rfl
 ·rw[pS h,lD h];rfl
theorem OE{P Q:Prop}(h:P↔Q):pB P=pB Q:=by rw[propext h]
attribute [go_sem ↓] Jy Pg
attribute [go_sem] tp FC WH WG Yo MZ
theorem Cr{α β:Type}(f:α→β)(n:Nat)(l:List α):List.take n (List.map f l)=List.map f (List.take n l):=List.map_take.symm
theorem D7{α β:Type}(f:α→β)(n:Nat)(l:List α):List.drop n (List.map f l)=List.map f (List.drop n l):=List.map_drop.symm
theorem Hh{α β:Type}(f:α→β)(a b:List α):List.map f a++List.map f b=List.map f (a++b):=List.map_append.symm
attribute [go_sem] Cr D7 Hh List.length_append List.length_take List.length_drop List.take_length List.drop_length Nat.min_self
theorem YX(P Q:Prop)[Decidable P]:(decide P=pB Q)=(P↔Q):=propext ⟨fun h=>⟨fun p=>(tp Q).mp (h▸decide_eq_true p),fun q=>of_decide_eq_true (h.trans (lD q))⟩,fun h=>by
 by_cases p:P
 ·rw[lD (h.1 p),decide_eq_true p]
 ·rw[pS (fun q=>p (h.2 q)),decide_eq_false p]⟩
theorem Yn(P Q:Prop):(pB P=pB Q)=(P↔Q):=propext ⟨fun h=>⟨fun p=>(tp Q).mp (h▸lD p),fun q=>(tp P).mp (h.trans (lD q))⟩,OE⟩
theorem YY(P Q:Prop)[Decidable P][Decidable Q]:(decide P=decide Q)=(P↔Q):=propext decide_eq_decide
attribute [go_sem] YX Yn YY
theorem OT(P:Prop)[Decidable P]:(!decide P)=decide (¬P):=(decide_not).symm
attribute [go_sem] OT Bool.not_eq_true' Bool.not_eq_false'
attribute [go_sem] Value.oneCell' false_and and_false and_self List.length_set
attribute [go_sem] Lf Yj
attribute [go_sem ↓] JT Dd Ta Eb IC IZ JQ
attribute [go_sem ↓] Wq Wy FR K7 NT Yl BM BX J5 J0
attribute [go_sem] zo
attribute [go_sem ↓] Bq ID HI HS yQ KV J2 JJ Py Li OO IV I0 I1 PJ HO Nl Mp My F8 Mf O1 IF Ju KF Ix Lo IQ JB Ig Af wV Ox IM GD FT HC C9 zF KM GJ CO Di CZ Cd Cj Cz Am Kn H3 Gf WO Wp zm Ca xw VF Cl CX Lx CC zI WV HM C6 DE M9 HD DP TJ GF Hp Wc H9 Cs D2 DR C3 wP LG Ol DZ F0 DC Bj Gi FZ CH GG SE y8 BP PU TE Ul O9 Ly Nv Oh F2 D1 P7 zH B0 HT yx Gk PY Sy Oz XY Vq
attribute [go_sem] NH Mt HZ HF HK Ty Qh Lp IA KH nF px GK NQ JW V3 PR Eg Ef Ed Dh xE yr Ce AF yi zO DX zl
theorem LR(r:VW)(l:List DV)(n:Nat)(d:DV):(rc r l).getD (n+16) d=l.getD n d:=rfl
theorem M3(r:VW)(l:List DV)(n:Nat)(d:DV):(rc r l).set (n+16) d=rc r (l.set n d):=rfl
theorem NW(r:VW)(l:List DV)(n:Nat):(rc r l)[n+16]? =l[n]? :=rfl
theorem Ji(a0 a1 a2 a3 a4 a5 a6 a7 a8 a9 bS bZ a12 cz cJ cQ:DV)(l:List DV)(d:DV):(rc ⟨a0,a1,a2,a3,a4,a5,a6,a7,a8,a9,bS,bZ,a12,cz,cJ,cQ⟩ l).getD 0 d=a0:=rfl
theorem Jm(a0 a1 a2 a3 a4 a5 a6 a7 a8 a9 bS bZ a12 cz cJ cQ:DV)(l:List DV)(d:DV):(rc ⟨a0,a1,a2,a3,a4,a5,a6,a7,a8,a9,bS,bZ,a12,cz,cJ,cQ⟩ l).set 0 d=rc ⟨d,a1,a2,a3,a4,a5,a6,a7,a8,a9,bS,bZ,a12,cz,cJ,cQ⟩ l:=rfl
theorem Mq(a0 a1 a2 a3 a4 a5 a6 a7 a8 a9 bS bZ a12 cz cJ cQ:DV)(l:List DV)(d:DV):(rc ⟨a0,a1,a2,a3,a4,a5,a6,a7,a8,a9,bS,bZ,a12,cz,cJ,cQ⟩ l).getD 1 d=a1:=rfl
theorem Ls(a0 a1 a2 a3 a4 a5 a6 a7 a8 a9 bS bZ a12 cz cJ cQ:DV)(l:List DV)(d:DV):(rc ⟨a0,a1,a2,a3,a4,a5,a6,a7,a8,a9,bS,bZ,a12,cz,cJ,cQ⟩ l).set 1 d=rc ⟨a0,d,a2,a3,a4,a5,a6,a7,a8,a9,bS,bZ,a12,cz,cJ,cQ⟩ l:=rfl
theorem MC(a0 a1 a2 a3 a4 a5 a6 a7 a8 a9 bS bZ a12 cz cJ cQ:DV)(l:List DV)(d:DV):(rc ⟨a0,a1,a2,a3,a4,a5,a6,a7,a8,a9,bS,bZ,a12,cz,cJ,cQ⟩ l).getD 2 d=a2:=rfl
theorem L0(a0 a1 a2 a3 a4 a5 a6 a7 a8 a9 bS bZ a12 cz cJ cQ:DV)(l:List DV)(d:DV):(rc ⟨a0,a1,a2,a3,a4,a5,a6,a7,a8,a9,bS,bZ,a12,cz,cJ,cQ⟩ l).set 2 d=rc ⟨a0,a1,d,a3,a4,a5,a6,a7,a8,a9,bS,bZ,a12,cz,cJ,cQ⟩ l:=rfl
theorem MK(a0 a1 a2 a3 a4 a5 a6 a7 a8 a9 bS bZ a12 cz cJ cQ:DV)(l:List DV)(d:DV):(rc ⟨a0,a1,a2,a3,a4,a5,a6,a7,a8,a9,bS,bZ,a12,cz,cJ,cQ⟩ l).getD 3 d=a3:=rfl
theorem Lw(a0 a1 a2 a3 a4 a5 a6 a7 a8 a9 bS bZ a12 cz cJ cQ:DV)(l:List DV)(d:DV):(rc ⟨a0,a1,a2,a3,a4,a5,a6,a7,a8,a9,bS,bZ,a12,cz,cJ,cQ⟩ l).set 3 d=rc ⟨a0,a1,a2,d,a4,a5,a6,a7,a8,a9,bS,bZ,a12,cz,cJ,cQ⟩ l:=rfl
theorem LH(a0 a1 a2 a3 a4 a5 a6 a7 a8 a9 bS bZ a12 cz cJ cQ:DV)(l:List DV)(d:DV):(rc ⟨a0,a1,a2,a3,a4,a5,a6,a7,a8,a9,bS,bZ,a12,cz,cJ,cQ⟩ l).getD 4 d=a4:=rfl
theorem KY(a0 a1 a2 a3 a4 a5 a6 a7 a8 a9 bS bZ a12 cz cJ cQ:DV)(l:List DV)(d:DV):(rc ⟨a0,a1,a2,a3,a4,a5,a6,a7,a8,a9,bS,bZ,a12,cz,cJ,cQ⟩ l).set 4 d=rc ⟨a0,a1,a2,a3,d,a5,a6,a7,a8,a9,bS,bZ,a12,cz,cJ,cQ⟩ l:=rfl
theorem MV(a0 a1 a2 a3 a4 a5 a6 a7 a8 a9 bS bZ a12 cz cJ cQ:DV)(l:List DV)(d:DV):(rc ⟨a0,a1,a2,a3,a4,a5,a6,a7,a8,a9,bS,bZ,a12,cz,cJ,cQ⟩ l).getD 5 d=a5:=rfl
theorem J3(a0 a1 a2 a3 a4 a5 a6 a7 a8 a9 bS bZ a12 cz cJ cQ:DV)(l:List DV)(d:DV):(rc ⟨a0,a1,a2,a3,a4,a5,a6,a7,a8,a9,bS,bZ,a12,cz,cJ,cQ⟩ l).set 5 d=rc ⟨a0,a1,a2,a3,a4,d,a6,a7,a8,a9,bS,bZ,a12,cz,cJ,cQ⟩ l:=rfl
theorem Mh(a0 a1 a2 a3 a4 a5 a6 a7 a8 a9 bS bZ a12 cz cJ cQ:DV)(l:List DV)(d:DV):(rc ⟨a0,a1,a2,a3,a4,a5,a6,a7,a8,a9,bS,bZ,a12,cz,cJ,cQ⟩ l).getD 6 d=a6:=rfl
theorem MM(a0 a1 a2 a3 a4 a5 a6 a7 a8 a9 bS bZ a12 cz cJ cQ:DV)(l:List DV)(d:DV):(rc ⟨a0,a1,a2,a3,a4,a5,a6,a7,a8,a9,bS,bZ,a12,cz,cJ,cQ⟩ l).set 6 d=rc ⟨a0,a1,a2,a3,a4,a5,d,a7,a8,a9,bS,bZ,a12,cz,cJ,cQ⟩ l:=rfl
theorem IW(a0 a1 a2 a3 a4 a5 a6 a7 a8 a9 bS bZ a12 cz cJ cQ:DV)(l:List DV)(d:DV):(rc ⟨a0,a1,a2,a3,a4,a5,a6,a7,a8,a9,bS,bZ,a12,cz,cJ,cQ⟩ l).getD 7 d=a7:=rfl
theorem KG(a0 a1 a2 a3 a4 a5 a6 a7 a8 a9 bS bZ a12 cz cJ cQ:DV)(l:List DV)(d:DV):(rc ⟨a0,a1,a2,a3,a4,a5,a6,a7,a8,a9,bS,bZ,a12,cz,cJ,cQ⟩ l).set 7 d=rc ⟨a0,a1,a2,a3,a4,a5,a6,d,a8,a9,bS,bZ,a12,cz,cJ,cQ⟩ l:=rfl
theorem OP(a0 a1 a2 a3 a4 a5 a6 a7 a8 a9 bS bZ a12 cz cJ cQ:DV)(l:List DV):(rc ⟨a0,a1,a2,a3,a4,a5,a6,a7,a8,a9,bS,bZ,a12,cz,cJ,cQ⟩ l)[7]? =some a7:=rfl
theorem MJ(a0 a1 a2 a3 a4 a5 a6 a7 a8 a9 bS bZ a12 cz cJ cQ:DV)(l:List DV)(d:DV):(rc ⟨a0,a1,a2,a3,a4,a5,a6,a7,a8,a9,bS,bZ,a12,cz,cJ,cQ⟩ l).getD 8 d=a8:=rfl
theorem KR(a0 a1 a2 a3 a4 a5 a6 a7 a8 a9 bS bZ a12 cz cJ cQ:DV)(l:List DV)(d:DV):(rc ⟨a0,a1,a2,a3,a4,a5,a6,a7,a8,a9,bS,bZ,a12,cz,cJ,cQ⟩ l).set 8 d=rc ⟨a0,a1,a2,a3,a4,a5,a6,a7,d,a9,bS,bZ,a12,cz,cJ,cQ⟩ l:=rfl
theorem Nk(a0 a1 a2 a3 a4 a5 a6 a7 a8 a9 bS bZ a12 cz cJ cQ:DV)(l:List DV):(rc ⟨a0,a1,a2,a3,a4,a5,a6,a7,a8,a9,bS,bZ,a12,cz,cJ,cQ⟩ l)[8]? =some a8:=rfl
theorem KQ(a0 a1 a2 a3 a4 a5 a6 a7 a8 a9 bS bZ a12 cz cJ cQ:DV)(l:List DV)(d:DV):(rc ⟨a0,a1,a2,a3,a4,a5,a6,a7,a8,a9,bS,bZ,a12,cz,cJ,cQ⟩ l).getD 9 d=a9:=rfl
theorem KS(a0 a1 a2 a3 a4 a5 a6 a7 a8 a9 bS bZ a12 cz cJ cQ:DV)(l:List DV)(d:DV):(rc ⟨a0,a1,a2,a3,a4,a5,a6,a7,a8,a9,bS,bZ,a12,cz,cJ,cQ⟩ l).set 9 d=rc ⟨a0,a1,a2,a3,a4,a5,a6,a7,a8,d,bS,bZ,a12,cz,cJ,cQ⟩ l:=rfl
theorem G9(a0 a1 a2 a3 a4 a5 a6 a7 a8 a9 bS bZ a12 cz cJ cQ:DV)(l:List DV)(d:DV):(rc ⟨a0,a1,a2,a3,a4,a5,a6,a7,a8,a9,bS,bZ,a12,cz,cJ,cQ⟩ l).getD 10 d=bS:=rfl
theorem Hq(a0 a1 a2 a3 a4 a5 a6 a7 a8 a9 bS bZ a12 cz cJ cQ:DV)(l:List DV)(d:DV):(rc ⟨a0,a1,a2,a3,a4,a5,a6,a7,a8,a9,bS,bZ,a12,cz,cJ,cQ⟩ l).set 10 d=rc ⟨a0,a1,a2,a3,a4,a5,a6,a7,a8,a9,d,bZ,a12,cz,cJ,cQ⟩ l:=rfl
theorem HE(a0 a1 a2 a3 a4 a5 a6 a7 a8 a9 bS bZ a12 cz cJ cQ:DV)(l:List DV)(d:DV):(rc ⟨a0,a1,a2,a3,a4,a5,a6,a7,a8,a9,bS,bZ,a12,cz,cJ,cQ⟩ l).getD 11 d=bZ:=rfl
theorem Ia(a0 a1 a2 a3 a4 a5 a6 a7 a8 a9 bS bZ a12 cz cJ cQ:DV)(l:List DV)(d:DV):(rc ⟨a0,a1,a2,a3,a4,a5,a6,a7,a8,a9,bS,bZ,a12,cz,cJ,cQ⟩ l).set 11 d=rc ⟨a0,a1,a2,a3,a4,a5,a6,a7,a8,a9,bS,d,a12,cz,cJ,cQ⟩ l:=rfl
theorem Hr(a0 a1 a2 a3 a4 a5 a6 a7 a8 a9 bS bZ a12 cz cJ cQ:DV)(l:List DV)(d:DV):(rc ⟨a0,a1,a2,a3,a4,a5,a6,a7,a8,a9,bS,bZ,a12,cz,cJ,cQ⟩ l).getD 12 d=a12:=rfl
theorem Ib(a0 a1 a2 a3 a4 a5 a6 a7 a8 a9 bS bZ a12 cz cJ cQ:DV)(l:List DV)(d:DV):(rc ⟨a0,a1,a2,a3,a4,a5,a6,a7,a8,a9,bS,bZ,a12,cz,cJ,cQ⟩ l).set 12 d=rc ⟨a0,a1,a2,a3,a4,a5,a6,a7,a8,a9,bS,bZ,d,cz,cJ,cQ⟩ l:=rfl
theorem K1(a0 a1 a2 a3 a4 a5 a6 a7 a8 a9 bS bZ a12 cz cJ cQ:DV)(l:List DV):(rc ⟨a0,a1,a2,a3,a4,a5,a6,a7,a8,a9,bS,bZ,a12,cz,cJ,cQ⟩ l)[12]? =some a12:=rfl
theorem GS(a0 a1 a2 a3 a4 a5 a6 a7 a8 a9 bS bZ a12 cz cJ cQ:DV)(l:List DV)(d:DV):(rc ⟨a0,a1,a2,a3,a4,a5,a6,a7,a8,a9,bS,bZ,a12,cz,cJ,cQ⟩ l).getD 13 d=cz:=rfl
theorem HW(a0 a1 a2 a3 a4 a5 a6 a7 a8 a9 bS bZ a12 cz cJ cQ:DV)(l:List DV)(d:DV):(rc ⟨a0,a1,a2,a3,a4,a5,a6,a7,a8,a9,bS,bZ,a12,cz,cJ,cQ⟩ l).set 13 d=rc ⟨a0,a1,a2,a3,a4,a5,a6,a7,a8,a9,bS,bZ,a12,d,cJ,cQ⟩ l:=rfl
theorem HG(a0 a1 a2 a3 a4 a5 a6 a7 a8 a9 bS bZ a12 cz cJ cQ:DV)(l:List DV)(d:DV):(rc ⟨a0,a1,a2,a3,a4,a5,a6,a7,a8,a9,bS,bZ,a12,cz,cJ,cQ⟩ l).getD 14 d=cJ:=rfl
theorem G5(a0 a1 a2 a3 a4 a5 a6 a7 a8 a9 bS bZ a12 cz cJ cQ:DV)(l:List DV)(d:DV):(rc ⟨a0,a1,a2,a3,a4,a5,a6,a7,a8,a9,bS,bZ,a12,cz,cJ,cQ⟩ l).set 14 d=rc ⟨a0,a1,a2,a3,a4,a5,a6,a7,a8,a9,bS,bZ,a12,cz,d,cQ⟩ l:=rfl
theorem IX(a0 a1 a2 a3 a4 a5 a6 a7 a8 a9 bS bZ a12 cz cJ cQ:DV)(l:List DV):(rc ⟨a0,a1,a2,a3,a4,a5,a6,a7,a8,a9,bS,bZ,a12,cz,cJ,cQ⟩ l)[14]? =some cJ:=rfl
theorem Is(a0 a1 a2 a3 a4 a5 a6 a7 a8 a9 bS bZ a12 cz cJ cQ:DV)(l:List DV)(d:DV):(rc ⟨a0,a1,a2,a3,a4,a5,a6,a7,a8,a9,bS,bZ,a12,cz,cJ,cQ⟩ l).getD 15 d=cQ:=rfl
theorem G1(a0 a1 a2 a3 a4 a5 a6 a7 a8 a9 bS bZ a12 cz cJ cQ:DV)(l:List DV)(d:DV):(rc ⟨a0,a1,a2,a3,a4,a5,a6,a7,a8,a9,bS,bZ,a12,cz,cJ,cQ⟩ l).set 15 d=rc ⟨a0,a1,a2,a3,a4,a5,a6,a7,a8,a9,bS,bZ,a12,cz,cJ,d⟩ l:=rfl
theorem Tx(a0 a1 a2 a3 a4 a5 a6 a7 a8 a9 bS bZ a12 cz cJ cQ:DV)(l:List DV)(i:Nat)(js:List Nat):wh (rc ⟨a0,a1,a2,a3,a4,a5,a6,a7,a8,a9,bS,bZ,a12,cz,cJ,cQ⟩ l) i js=wh (a0::a1::a2::a3::a4::a5::a6::a7::a8::a9::bS::bZ::a12::cz::cJ::cQ::l) i js:=rfl
theorem T5(a0 a1 a2 a3 a4 a5 a6 a7 a8 a9 bS bZ a12 cz cJ cQ:DV)(l:List DV):fm (a0::a1::a2::a3::a4::a5::a6::a7::a8::a9::bS::bZ::a12::cz::cJ::cQ::l)=rc ⟨a0,a1,a2,a3,a4,a5,a6,a7,a8,a9,bS,bZ,a12,cz,cJ,cQ⟩ (fm l):=rfl
theorem Sn:fm []=[]:=rfl
theorem Us(a0:DV):fm [a0]=[a0]:=rfl
theorem TC(a0 a1:DV):fm [a0,a1]=[a0,a1]:=rfl
theorem Tq(a0 a1 a2:DV):fm [a0,a1,a2]=[a0,a1,a2]:=rfl
theorem SJ(a0 a1 a2 a3:DV):fm [a0,a1,a2,a3]=[a0,a1,a2,a3]:=rfl
theorem RN(a0 a1 a2 a3 a4:DV):fm [a0,a1,a2,a3,a4]=[a0,a1,a2,a3,a4]:=rfl
theorem RB(a0 a1 a2 a3 a4 a5:DV):fm [a0,a1,a2,a3,a4,a5]=[a0,a1,a2,a3,a4,a5]:=rfl
theorem Uo(a0 a1 a2 a3 a4 a5 a6:DV):fm [a0,a1,a2,a3,a4,a5,a6]=[a0,a1,a2,a3,a4,a5,a6]:=rfl
theorem Tn(a0 a1 a2 a3 a4 a5 a6 a7:DV):fm [a0,a1,a2,a3,a4,a5,a6,a7]=[a0,a1,a2,a3,a4,a5,a6,a7]:=rfl
theorem SY(a0 a1 a2 a3 a4 a5 a6 a7 a8:DV):fm [a0,a1,a2,a3,a4,a5,a6,a7,a8]=[a0,a1,a2,a3,a4,a5,a6,a7,a8]:=rfl
theorem Ow(a0 a1 a2 a3 a4 a5 a6 a7 a8 a9:DV):fm [a0,a1,a2,a3,a4,a5,a6,a7,a8,a9]=[a0,a1,a2,a3,a4,a5,a6,a7,a8,a9]:=rfl
theorem Px(a0 a1 a2 a3 a4 a5 a6 a7 a8 a9 bS:DV):fm [a0,a1,a2,a3,a4,a5,a6,a7,a8,a9,bS]=[a0,a1,a2,a3,a4,a5,a6,a7,a8,a9,bS]:=rfl
theorem OZ(a0 a1 a2 a3 a4 a5 a6 a7 a8 a9 bS bZ:DV):fm [a0,a1,a2,a3,a4,a5,a6,a7,a8,a9,bS,bZ]=[a0,a1,a2,a3,a4,a5,a6,a7,a8,a9,bS,bZ]:=rfl
theorem Qd(a0 a1 a2 a3 a4 a5 a6 a7 a8 a9 bS bZ a12:DV):fm [a0,a1,a2,a3,a4,a5,a6,a7,a8,a9,bS,bZ,a12]=[a0,a1,a2,a3,a4,a5,a6,a7,a8,a9,bS,bZ,a12]:=rfl
theorem Ot(a0 a1 a2 a3 a4 a5 a6 a7 a8 a9 bS bZ a12 cz:DV):fm [a0,a1,a2,a3,a4,a5,a6,a7,a8,a9,bS,bZ,a12,cz]=[a0,a1,a2,a3,a4,a5,a6,a7,a8,a9,bS,bZ,a12,cz]:=rfl
theorem N4(a0 a1 a2 a3 a4 a5 a6 a7 a8 a9 bS bZ a12 cz cJ:DV):fm [a0,a1,a2,a3,a4,a5,a6,a7,a8,a9,bS,bZ,a12,cz,cJ]=[a0,a1,a2,a3,a4,a5,a6,a7,a8,a9,bS,bZ,a12,cz,cJ]:=rfl
attribute [go_sem] LR M3 NW Ji Jm Mq Ls MC L0 MK Lw LH KY MV J3 Mh MM IW KG OP MJ KR Nk KQ KS G9 Hq HE Ia Hr Ib K1 GS HW HG G5 IX Is G1 Tx T5 Sn Us TC Tq SJ RN RB Uo Tn SY Ow Px OZ Qd Ot N4
end Aml
namespace Aml
open Go Go.RowKit
def oa(P:Program)(w0:W0)(S:St)(ops:Array Oper)(K:List DV→St→Prop):List Oper→List DV→Prop
 |[],fr=>K fr S
 |o::rest,fr=>eI (pY o.op)
  (bV ops fr o.guard (fun fr=>aH P w0 o.op fr S fun d=>oa P w0 S ops K rest (pt fr o.dst d)) (fun fr=>oa P w0 S ops K rest (pt fr o.dst ud)))
  (yu P w0 ops K (o::rest) fr S)
section
variable {P:Program} {w0:W0}
theorem nY{S:St}{ops:Array Oper}{K:List DV→St→Prop}:∀{l:List Oper} {fr:List DV},l.all (fun o=>gR o.op)=true→oa P w0 S ops K l fr→LQ P w0 S ops (fun fr=>yu P w0 ops K (l.drop (nM l)) fr S) (l.take (nM l)) fr
 |[],fr,_,h=>h
 |o::rest,fr,hs,h=>by
  simp only[List.all_cons,Bool.and_eq_true]at hs
  unfold oa eI at h
  cases hq:pY o.op with
  |true=>
   rw[hq]at h
   simp only at h
   have e:nM (o::rest)=nM rest+1:=by simp[nM,List.takeWhile_cons,hq]
   rw[e,List.take_succ_cons,List.drop_succ_cons]
   refine iz (fun fr h=>?_) (fun fr h=>nY hs.2 h) h
   obtain⟨d,q1,q2⟩:=jV hs.1 h
   exact⟨d,q1,nY hs.2 q2⟩
  |false=>
   rw[hq]at h
   have e:nM (o::rest)=0:=by simp[nM,List.takeWhile_cons,hq]
   rw[e]
   exact h
theorem D8{S:St}{a b:Array Oper}{K:List DV→Prop}:∀{l:List Oper} {fr:List DV},(∀o,o∈l→∀j want,o.guard=some (j,want)→a[j]? =b[j]?)→LQ P w0 S a K l fr→LQ P w0 S b K l fr
 |[],fr,_,h=>h
 |o::rest,fr,hg,h=>by
  have h':bV a fr o.guard (fun fr=>∃d,QY P w0 S o fr d∧LQ P w0 S b K rest (pt fr o.dst d)) (fun fr=>LQ P w0 S b K rest (pt fr o.dst ud)):=
   iz (fun fr ⟨d,q1,q2⟩=>⟨d,q1,D8 (fun o ho=>hg o (List.mem_cons_of_mem _ ho)) q2⟩) (fun fr h=>D8 (fun o ho=>hg o (List.mem_cons_of_mem _ ho)) h) h
  unfold bV at h'
  show bV b fr o.guard _ _
  unfold bV
  cases hgo:o.guard with
  |none=>rw[hgo]at h';exact h'
  |some p=>
   obtain⟨j,want⟩:=p
   rw[hgo]at h'
   simp only at h' ⊢
   rw[←hg o List.mem_cons_self j want hgo]
   exact h'
theorem Hk{id:Nat}{l:List Oper}{fr:List DV}{S:St}{Q:Exit→List DV→St→Prop}(hm:P.follows .mixedOrders=true)(hB:Region.lexB .any (l.take (nM l)).toArray=true)(hT:rN .any l.toArray (nM l)=true)(hs:l.all (fun o=>gR o.op)=true)
 (h:oa P w0 S l.toArray (fun fr S=>Q .normal fr S) l fr):gk P w0 (.region id l.toArray true) fr S Q:=by
 have hn:nM l≤l.length:=by
  unfold nM
  exact List.Sublist.length_le (List.takeWhile_sublist _)
 refine Ir (nM l) hn hm hB hT hs (D8 ?_ (nY hs h))
 intro o ho j want hg
 simp only[rN,Bool.and_eq_true]at hT
 have:=List.all_eq_true.1 hT.2 o (by simpa using ho)
 simp only[hg,decide_eq_true_eq]at this
 simp[List.getElem?_take,this]
def AL(P:Program)(w0:W0)(fr:List DV)(S:St)[c:Cn (Code×(Exit→List DV→St→Prop))]:Prop:=gk P w0 c.k.1 fr S c.k.2
def vw(P:Program)(w0:W0)(ss:List Nat):Code→List DV→St→(Exit→List DV→St→Prop)→Prop
 | .skip,fr,S,Q=>Q .normal fr S
 | .seq x y,fr,S,Q=>vw P w0 ss x fr S (jU (fun fr S=>vw P w0 ss y fr S Q) Q)
 | .cond c x y,fr,S,Q=>fV (ev fr c) (vw P w0 ss x fr S Q) (vw P w0 ss y fr S Q)
 | .block n c,fr,S,Q=>eI (ss.contains (n+1000)) (@AL P w0 fr S ⟨((.block n c),Q)⟩) (vw P w0 ss c fr S (uJ n Q))
 | .exit n,fr,S,Q=>Q (.exit n) fr S
 | .ret,fr,S,Q=>Q .ret fr S
 | .region n ops dr,fr,S,Q=>eI (ss.contains n) (@AL P w0 fr S ⟨((.region n ops dr),Q)⟩)
  (eI dr (oa P w0 S ops (fun fr S=>Q .normal fr S) ops.toList fr) (yu P w0 ops (fun fr S=>Q .normal fr S) ops.toList fr S))
 |c,fr,S,Q=>@AL P w0 fr S ⟨(c,Q)⟩
/- How it goes. -/
section
variable {P:Program} {w0:W0} {ss:List Nat} {fr:List DV} {S:St} {Q:Exit→List DV→St→Prop}
theorem Gv:vw P w0 ss .skip fr S Q=Q .normal fr S:=rfl
theorem MT(x y:Code):vw P w0 ss (.seq x y) fr S Q=vw P w0 ss x fr S (jU (fun fr S=>vw P w0 ss y fr S Q) Q):=rfl
theorem FP(c:Operand)(x y:Code):vw P w0 ss (.cond c x y) fr S Q=fV (ev fr c) (vw P w0 ss x fr S Q) (vw P w0 ss y fr S Q):=rfl
theorem Du(n:Nat)(c:Code):vw P w0 ss (.block n c) fr S Q=eI (ss.contains (n+1000)) (@AL P w0 fr S ⟨((.block n c),Q)⟩) (vw P w0 ss c fr S (uJ n Q)):=rfl
theorem GM(n:Nat):vw P w0 ss (.exit n) fr S Q=Q (.exit n) fr S:=rfl
theorem Kh:vw P w0 ss .ret fr S Q=Q .ret fr S:=rfl
def jA(fr:List DV)(F:List DV→Prop):Prop:=F fr
@[congr] theorem Xg {fr fr':List DV} {F:List DV→Prop} (h:fr=fr'):jA fr F=jA fr' F:=by cases h;rfl
theorem Of(d:DV)(fr:List DV)(F:List DV→Prop):jA (d::fr) F=F (d::fr):=rfl
theorem B5(r:VW)(fr:List DV)(F:List DV→Prop):jA (rc r fr) F=F (rc r fr):=rfl
attribute [go_sem ↓] Of B5
theorem H2(n:Nat)(l:List Oper):vw P w0 ss (.region n l.toArray false) fr S Q=eI (ss.contains n) (@AL P w0 fr S ⟨((.region n l.toArray false),Q)⟩) (yu P w0 l.toArray (fun fr S=>jA fr fun fr=>Q .normal fr S) l fr S):=by simp[vw,eI,jA]
theorem GB(n:Nat)(l:List Oper):vw P w0 ss (.region n l.toArray true) fr S Q=eI (ss.contains n) (@AL P w0 fr S ⟨((.region n l.toArray true),Q)⟩) (oa P w0 S l.toArray (fun fr S=>jA fr fun fr=>Q .normal fr S) l fr):=by simp[vw,eI,jA]
section
variable {ops:Array Oper} {K:List DV→St→Prop} {rest:List Oper} {dst:Option Tmp} {op:Op} {ty:TypeId} {pos:String} {aft:Array Edge}
theorem Js:oa P w0 S ops K [] fr=K fr S:=rfl
theorem FX:oa P w0 S ops K (⟨dst,op,ty,pos,aft,none⟩::rest) fr=eI (pY op) (aH P w0 op fr S fun d=>oa P w0 S ops K rest (pt fr dst d)) (yu P w0 ops K (⟨dst,op,ty,pos,aft,none⟩::rest) fr S):=rfl
theorem FM(j:Nat)(want:Bool):oa P w0 S ops K (⟨dst,op,ty,pos,aft,some (j,want)⟩::rest) fr=eI (pY op) (gK ((ops[j]?).bind (·.dst)) fr want (fun fr=>aH P w0 op fr S fun d=>oa P w0 S ops K rest (pt fr dst d)) (fun fr=>oa P w0 S ops K rest (pt fr dst ud))) (yu P w0 ops K (⟨dst,op,ty,pos,aft,some (j,want)⟩::rest) fr S):=by
 rw[←yx];rfl
end
def E6(l:List Oper)(F:List Oper→Prop):Prop:=F l
@[congr] theorem Xp {l l':List Oper} {F:List Oper→Prop} (h:l=l'):E6 l F=E6 l' F:=by cases h;rfl
theorem OG(l:List Oper)(F:List Oper→Prop):E6 l F=F l:=rfl
theorem Iq(n:Nat)(l1 l2:List Oper)(dr:Bool):vw P w0 ss (.region n (l1.append l2).toArray dr) fr S Q=E6 (l1.append l2) (fun l=>vw P w0 ss (.region n l.toArray dr) fr S Q):=rfl
theorem HB(c:Code):vw P w0 ss (.loop c) fr S Q= @AL P w0 fr S ⟨((.loop c),Q)⟩:=rfl
@[congr] theorem aaV {c:Code} {fr':List DV} {S':St} (h1:fr=fr') (h2:S=S'):vw P w0 ss c fr S Q=vw P w0 ss c fr' S' Q:=by cases h1;cases h2;rfl
@[congr] theorem Ya {ops:Array Oper} {K:List DV→St→Prop} {l:List Oper} {fr':List DV} {S':St} (h1:fr=fr') (h2:S=S'):oa P w0 S ops K l fr=oa P w0 S' ops K l fr':=by cases h1;cases h2;rfl
@[congr] theorem ZG {c:Code} {fr':List DV} {S':St} (h1:fr=fr') (h2:S=S'):gk P w0 c fr S Q=gk P w0 c fr' S' Q:=by cases h1;cases h2;rfl
end
attribute [go_sem] OG List.contains_nil List.contains_cons
attribute [go_sem ↓] Js FX FM Gv MT FP Du GM Kh H2 GB HB
attribute [go_sem ↓ high] Iq
section
variable {md:Region.Mode} {ops:Array Oper}
def MS(md:Region.Mode)(ops:Array Oper):Nat→List Oper→Bool
 |_,[]=>true
 |k,o::l=>o.after.toList.all (fun e=>!Region.binds md e||decide (e.on<k))&&l.all (fun oj=>oj.after.toList.any (fun e=>Region.binds md e&&e.on==k)||o.apart ops oj)&&MS md ops (k+1) l
theorem tM:∀(l:List Oper) (k:Nat) (listed:Array Bool),(∀j,l[j]? =ops[k+j]?)→listed.size=ops.size→(∀i,i<k→listed[i]? =some true)→(∀i,k≤i→i<ops.size→listed[i]? =some false)→MS md ops k l=true→Region.lexFrom md ops l.length k listed=true
 |[],k,listed,hl,hs,h1,h2,_=>by
  simp only[List.length_nil,Region.lexFrom]
  have:Region.ready md ops listed=[]:=List.eq_nil_iff_forall_not_mem.2 fun i hi=>by
   obtain⟨hun,o,ho,_⟩:=mem_ready.1 hi
   rw[dZ]at hun
   rcases Nat.lt_or_ge i k with h|h
   ·rw[h1 i h]at hun;cases hun
   ·have:=hl (i-k)
    rw[show k+(i-k)=i by omega,ho]at this
    simp at this
  rw[this];rfl
 |o::l,k,listed,hl,hs,h1,h2,hG=>by
  have h0:ops[k]? =some o:=by simpa using(hl 0).symm
  have hk:k<ops.size:=(Array.getElem?_eq_some_iff.1 h0).1
  simp only[MS,Bool.and_eq_true]at hG
  obtain⟨⟨ha,hb⟩,hc⟩:=hG
  simp only[List.length_cons,Region.lexFrom,Bool.and_eq_true]
  have hr:k∈Region.ready md ops listed:=mem_ready.2 ⟨dZ.2 (h2 k (Nat.le_refl _) hk),o,h0,fun e he hbind=>by
   have:=List.all_eq_true.1 ha e (Array.mem_toList_iff.2 he)
   rw[hbind]at this
   simp at this
   exact dF.2 (h1 _ this)⟩
  refine⟨⟨by simpa using hr,?_⟩,?_⟩
  ·unfold Region.free
   rw[h0]
   simp only[List.all_eq_true,List.mem_range]
   intro j hj
   rcases Nat.lt_trichotomy j k with h|h|h
   ·have:listed.getD j true=true:=by rw[Array.getD_eq_getD_getElem?,h1 j h];rfl
    simp[this]
   ·simp[h]
   ·have hj2:=hl (j-k)
    rw[show k+(j-k)=j by omega,show j-k=(j-k-1)+1 by omega,List.getElem?_cons_succ]at hj2
    rw[←hj2]
    cases hq:l[j-k-1]? with
    |none=>simp
    |some oj=>
     have:=List.all_eq_true.1 hb oj (List.mem_of_getElem? hq)
     simp only[Bool.or_eq_true]at this ⊢
     refine .inr ?_
     rcases this with h|h
     ·refine .inl ?_
      obtain⟨e,he,h⟩:=List.any_eq_true.1 h
      exact Array.any_eq_true'.2 ⟨e,Array.mem_toList_iff.1 he,h⟩
     ·exact .inr h
  ·refine tM l (k+1) _ (fun j=>?_) (by simpa using hs) (fun i hi=>?_) (fun i hi hi2=>?_) hc
   ·have:=hl (j+1)
    simpa[Nat.add_assoc,Nat.add_comm 1 j]using this
   ·rw[Array.getElem?_setIfInBounds]
    by_cases h:k=i
    ·subst h;rw[if_pos rfl,if_pos (by omega)]
    ·rw[if_neg h];exact h1 i (by omega)
   ·rw[Array.getElem?_setIfInBounds,if_neg (by omega)]
    exact h2 i (by omega) hi2
theorem CI{l:List Oper}(hs:Region.noSelect l.toArray=true)(h:MS md l.toArray 0 l=true):Region.lexB md l.toArray=true:=by
 unfold Region.lexB
 rw[hs,Bool.true_and]
 have:=tM (md:=md) (ops:=l.toArray) l 0 (Array.replicate l.toArray.size false) (fun j=>by simp) (by simp) (fun i hi=>absurd hi (by omega)) (fun i _ hi=>by rw[Array.getElem?_replicate,if_pos hi]) h
 simpa using this
end
def ua(ss:List Nat):Code→Bool
 | .seq x y=>ua ss x&&ua ss y
 | .cond _ x y=>ua ss x&&ua ss y
 | .block n c=>ss.contains (n+1000)||ua ss c
 | .region n ops false=>ss.contains n||ops.toList.all (fun o=>gR o.op)
 | .region n ops true=>ss.contains n||(ops.toList.all (fun o=>gR o.op)&&Region.noSelect (ops.toList.take (nM ops.toList)).toArray&&MS .any (ops.toList.take (nM ops.toList)).toArray 0 (ops.toList.take (nM ops.toList))&&rN .any ops (nM ops.toList))
 |_=>true
theorem de{ss:List Nat}(hm:P.follows .mixedOrders=true):∀(c:Code) {fr:List DV} {S:St} {Q:Exit→List DV→St→Prop},ua ss c=true→vw P w0 ss c fr S Q→gk P w0 c fr S Q
 | .skip,fr,S,Q,_,h=>Jv h
 | .seq x y,fr,S,Q,ho,h=>by
  simp only[ua,Bool.and_eq_true]at ho
  exact Pj ((de hm x ho.1 h).mono fun e fr S hq=>by cases e <;>first|exact de hm y ho.2 hq|exact hq)
 | .cond c x y,fr,S,Q,ho,h=>by
  simp only[ua,Bool.and_eq_true]at ho
  exact JS (Dw (fun h=>de hm x ho.1 h) (fun h=>de hm y ho.2 h) h)
 | .block n c,fr,S,Q,ho,h=>by
  unfold vw eI at h
  unfold ua at ho
  split at h
  ·exact h
  ·rename_i hn
   rw[hn,Bool.false_or]at ho
   exact G2 (de hm c ho h)
 | .exit n,fr,S,Q,_,h=>MH h
 | .ret,fr,S,Q,_,h=>Qx h
 | .region n ops false,fr,S,Q,ho,h=>by
  unfold vw at h
  unfold eI at h
  unfold ua at ho
  split at h
  ·exact h
  rename_i hn
  rw[hn,Bool.false_or]at ho
  simp only at h
  have:=nD _ ho h
  have:=sP (id:=n) (l:=ops.toList) this
  simpa using this
 | .region n ops true,fr,S,Q,ho,h=>by
  unfold vw at h
  unfold eI at h
  unfold ua at ho
  split at h
  ·exact h
  rename_i hn
  rw[hn,Bool.false_or]at ho
  simp only[Bool.and_eq_true]at ho
  simp only at h
  have:=Hk (id:=n) (l:=ops.toList) (fr:=fr) (S:=S) (Q:=Q) hm (CI ho.1.1.2 ho.1.2) ho.2 ho.1.1.1 h
  simpa using this
 | .loop c,fr,S,Q,_,h=>h
 | .rangeFunc f ps a b,fr,S,Q,_,h=>h
 | .scope c,fr,S,Q,_,h=>h
 | .label l,fr,S,Q,_,h=>h
 | .goto l,fr,S,Q,_,h=>h
 | .refuse w,fr,S,Q,_,h=>h
theorem mf(ss:List Nat){f:FuncId}{fn:Func}{c:Code}{rs:List ResultVar}{args:List DV}{S:St}{K:DV→St→Prop}(hm:P.follows .mixedOrders=true)(hf:P.funcs[f]? =some fn)(hb:fn.body=some c)(hrs:fn.results=rs.toArray)(hc:ua ss c=true)
 (h:vw P w0 ss c (fm (args++List.replicate (fn.ntmps-args.length) ud)) S fun e fr S'=>(e= .normal∨e= .ret)∧tO P fr S' rs fun d=>K d S'):aa P w0 f args S K:=
 uP hf hb hrs (de hm c hc h)
end
end Aml
