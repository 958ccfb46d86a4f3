/-
  Facts on the types and functions of the translation, printed by program (wip/tools/types.py); Loops by a state; forgetting slots; growing slices out of nil; The equations by which the reckoning goes: each for one form of value; Statements whose order Go leaves open: where each operation hands back one abstract value and leaves the store, every order serves; Reckoning over statements whose order is open; The rules as they are used: functions, loops; plain values; wraps; Statements whose order is open but for their end: what writes comes behind all that reads; Which parts of the walk's words the reckoning may enter: what comes behind a step is entered when the step is done; The walk by reckoning, whole; functions and loops. By an AI agent.
-/
import Derived.Test.YtpjenciplibdnaaGreatDoorMM2
import Derived.Test.YtpjenciplibdnaaGreatDoorProg
import Derived.KernelRfl
import Derived.Still
set_option linter.unusedVariables false
set_option linter.unusedSimpArgs false
set_option maxRecDepth 100000
set_option maxHeartbeats 16000000
namespace Go.Proofs.YtpjenciplibdnaaGreatDoor
open Aml
@[go_sem] theorem ty.k1:tk Tryz.prog 1= .fn:=by kernel_rfl
@[go_sem] theorem ty.z1:zD Tryz.prog 1= .v .nilFunc:=by kernel_rfl
@[go_sem] theorem ty.c1:Tryz.prog.cellsOf 1=1:=by kernel_rfl
@[go_sem] theorem ty.i1:(Tryz.prog.info? 1).isSome=true:=by kernel_rfl
@[go_sem] theorem ty.k2:tk Tryz.prog 2= .int .i64:=by kernel_rfl
@[go_sem] theorem ty.z2:zD Tryz.prog 2= .v (.int .i64 0):=by kernel_rfl
@[go_sem] theorem ty.c2:Tryz.prog.cellsOf 2=1:=by kernel_rfl
@[go_sem] theorem ty.i2:(Tryz.prog.info? 2).isSome=true:=by kernel_rfl
@[go_sem] theorem ty.k3:tk Tryz.prog 3= .int .i64:=by kernel_rfl
@[go_sem] theorem ty.z3:zD Tryz.prog 3= .v (.int .i64 0):=by kernel_rfl
@[go_sem] theorem ty.c3:Tryz.prog.cellsOf 3=1:=by kernel_rfl
@[go_sem] theorem ty.i3:(Tryz.prog.info? 3).isSome=true:=by kernel_rfl
@[go_sem] theorem ty.k4:tk Tryz.prog 4= .one:=by kernel_rfl
@[go_sem] theorem ty.z4:zD Tryz.prog 4= .v (.bool false):=by kernel_rfl
@[go_sem] theorem ty.c4:Tryz.prog.cellsOf 4=1:=by kernel_rfl
@[go_sem] theorem ty.i4:(Tryz.prog.info? 4).isSome=true:=by kernel_rfl
@[go_sem] theorem ty.k5:tk Tryz.prog 5= .int .u8:=by kernel_rfl
@[go_sem] theorem ty.z5:zD Tryz.prog 5= .v (.int .u8 0):=by kernel_rfl
@[go_sem] theorem ty.c5:Tryz.prog.cellsOf 5=1:=by kernel_rfl
@[go_sem] theorem ty.i5:(Tryz.prog.info? 5).isSome=true:=by kernel_rfl
@[go_sem] theorem ty.k6:tk Tryz.prog 6= .int .u8:=by kernel_rfl
@[go_sem] theorem ty.z6:zD Tryz.prog 6= .v (.int .u8 0):=by kernel_rfl
@[go_sem] theorem ty.c6:Tryz.prog.cellsOf 6=1:=by kernel_rfl
@[go_sem] theorem ty.i6:(Tryz.prog.info? 6).isSome=true:=by kernel_rfl
@[go_sem] theorem ty.q7:BF Tryz.prog 7=some [.int .i64,.int .i64,.bool,.int .u8]:=by kernel_rfl
@[go_sem] theorem ty.z7:zD Tryz.prog 7= .agg [.v (.int .i64 0),.v (.int .i64 0),.v (.bool false),.v (.int .u8 0)]:=by kernel_rfl
@[go_sem] theorem ty.c7:Tryz.prog.cellsOf 7=4:=by kernel_rfl
@[go_sem] theorem ty.i7:(Tryz.prog.info? 7).isSome=true:=by kernel_rfl
@[go_sem] theorem ty.q8:BF Tryz.prog 8=some [.int .i64,.int .i64,.bool,.int .u8]:=by kernel_rfl
@[go_sem] theorem ty.z8:zD Tryz.prog 8= .agg [.v (.int .i64 0),.v (.int .i64 0),.v (.bool false),.v (.int .u8 0)]:=by kernel_rfl
@[go_sem] theorem ty.c8:Tryz.prog.cellsOf 8=4:=by kernel_rfl
@[go_sem] theorem ty.k9:tk Tryz.prog 9= .str:=by kernel_rfl
@[go_sem] theorem ty.z9:zD Tryz.prog 9= .v (.string ByteArray.empty):=by kernel_rfl
@[go_sem] theorem ty.c9:Tryz.prog.cellsOf 9=1:=by kernel_rfl
@[go_sem] theorem ty.i9:(Tryz.prog.info? 9).isSome=true:=by kernel_rfl
@[go_sem] theorem ty.k22:tk Tryz.prog 22= .sl 58 4 48 true:=by kernel_rfl
@[go_sem] theorem ty.k26:tk Tryz.prog 26= .int .u64:=by kernel_rfl
@[go_sem] theorem ty.c26:Tryz.prog.cellsOf 26=1:=by kernel_rfl
@[go_sem] theorem ty.i26:(Tryz.prog.info? 26).isSome=true:=by kernel_rfl
@[go_sem] theorem ty.k28:tk Tryz.prog 28= .st [(0,1,false),(1,1,false),(2,1,false),(3,1,false),(4,1,false)] 5:=by kernel_rfl
@[go_sem] theorem ty.z28:zD Tryz.prog 28= .agg [.v (.int .i64 0),.v (.int .u64 0),.v (.int .i64 0),.v (.int .i64 0),.v (.int .i64 0)]:=by kernel_rfl
@[go_sem] theorem ty.k29:tk Tryz.prog 29= .sl 9 1 16 true:=by kernel_rfl
@[go_sem] theorem ty.e29:ef Tryz.prog 29=9:=by kernel_rfl
@[go_sem] theorem ty.z29:zD Tryz.prog 29= .sl 0 true []:=by kernel_rfl
@[go_sem] theorem ty.c29:Tryz.prog.cellsOf 29=1:=by kernel_rfl
@[go_sem] theorem ty.i29:(Tryz.prog.info? 29).isSome=true:=by kernel_rfl
@[go_sem] theorem ty.k30:tk Tryz.prog 30= .sl 143 2 40 true:=by kernel_rfl
@[go_sem] theorem ty.e30:ef Tryz.prog 30=143:=by kernel_rfl
@[go_sem] theorem ty.z30:zD Tryz.prog 30= .sl 0 true []:=by kernel_rfl
@[go_sem] theorem ty.c30:Tryz.prog.cellsOf 30=1:=by kernel_rfl
@[go_sem] theorem ty.i30:(Tryz.prog.info? 30).isSome=true:=by kernel_rfl
@[go_sem] theorem ty.k31:tk Tryz.prog 31= .sl 33 5 88 true:=by kernel_rfl
@[go_sem] theorem ty.e31:ef Tryz.prog 31=33:=by kernel_rfl
@[go_sem] theorem ty.z31:zD Tryz.prog 31= .sl 0 true []:=by kernel_rfl
@[go_sem] theorem ty.c31:Tryz.prog.cellsOf 31=1:=by kernel_rfl
@[go_sem] theorem ty.i31:(Tryz.prog.info? 31).isSome=true:=by kernel_rfl
@[go_sem] theorem ty.k33:tk Tryz.prog 33= .st [(0,1,false),(1,1,false),(2,1,false),(3,1,false),(4,1,false)] 5:=by kernel_rfl
@[go_sem] theorem ty.z33:zD Tryz.prog 33= .agg [.v (.int .i64 0),.v (.bool false),.sl 0 true [],.sl 0 true [],.sl 0 true []]:=by kernel_rfl
@[go_sem] theorem ty.c33:Tryz.prog.cellsOf 33=5:=by kernel_rfl
@[go_sem] theorem ty.i33:(Tryz.prog.info? 33).isSome=true:=by kernel_rfl
@[go_sem] theorem ty.k34:tk Tryz.prog 34= .sl 85 6 104 true:=by kernel_rfl
@[go_sem] theorem ty.e34:ef Tryz.prog 34=85:=by kernel_rfl
@[go_sem] theorem ty.c34:Tryz.prog.cellsOf 34=1:=by kernel_rfl
@[go_sem] theorem ty.i34:(Tryz.prog.info? 34).isSome=true:=by kernel_rfl
@[go_sem] theorem ty.k36:tk Tryz.prog 36= .st [(0,5,true),(5,1,false)] 6:=by kernel_rfl
@[go_sem] theorem ty.z36:zD Tryz.prog 36= .agg [.v (.int .i64 0),.v (.bool false),.sl 0 true [],.sl 0 true [],.sl 0 true [],.sl 0 true []]:=by kernel_rfl
@[go_sem] theorem ty.c36:Tryz.prog.cellsOf 36=6:=by kernel_rfl
@[go_sem] theorem ty.i36:(Tryz.prog.info? 36).isSome=true:=by kernel_rfl
@[go_sem] theorem ty.Z3:tk Tryz.prog 37= .sl 3 1 8 true:=by kernel_rfl
@[go_sem] theorem ty.e37:ef Tryz.prog 37=3:=by kernel_rfl
@[go_sem] theorem ty.z37:zD Tryz.prog 37= .sl 0 true []:=by kernel_rfl
@[go_sem] theorem ty.c37:Tryz.prog.cellsOf 37=1:=by kernel_rfl
@[go_sem] theorem ty.i37:(Tryz.prog.info? 37).isSome=true:=by kernel_rfl
@[go_sem] theorem ty.k38:tk Tryz.prog 38= .sl 93 2 32 true:=by kernel_rfl
@[go_sem] theorem ty.e38:ef Tryz.prog 38=93:=by kernel_rfl
@[go_sem] theorem ty.c38:Tryz.prog.cellsOf 38=1:=by kernel_rfl
@[go_sem] theorem ty.i38:(Tryz.prog.info? 38).isSome=true:=by kernel_rfl
@[go_sem] theorem ty.k40:tk Tryz.prog 40= .st [(0,1,false),(1,1,false),(2,1,false)] 3:=by kernel_rfl
@[go_sem] theorem ty.z40:zD Tryz.prog 40= .agg [.v (.int .i64 0),.sl 0 true [],.sl 0 true []]:=by kernel_rfl
@[go_sem] theorem ty.c40:Tryz.prog.cellsOf 40=3:=by kernel_rfl
@[go_sem] theorem ty.i40:(Tryz.prog.info? 40).isSome=true:=by kernel_rfl
@[go_sem] theorem ty.k42:tk Tryz.prog 42= .st [(0,5,true),(5,6,true),(11,1,false),(12,3,true)] 15:=by kernel_rfl
@[go_sem] theorem ty.z42:zD Tryz.prog 42= .agg [.v (.int .i64 0),.v (.int .u64 0),.v (.int .i64 0),.v (.int .i64 0),.v (.int .i64 0),.v (.int .i64 0),.v (.bool false),.sl 0 true [],.sl 0 true [],.sl 0 true [],.sl 0 true [],.sl 0 true [],.v (.int .i64 0),.sl 0 true [],.sl 0 true []]:=by kernel_rfl
@[go_sem] theorem ty.c42:Tryz.prog.cellsOf 42=15:=by kernel_rfl
@[go_sem] theorem ty.i42:(Tryz.prog.info? 42).isSome=true:=by kernel_rfl
@[go_sem] theorem ty.k45:tk Tryz.prog 45= .sl 90 4 80 true:=by kernel_rfl
@[go_sem] theorem ty.e45:ef Tryz.prog 45=90:=by kernel_rfl
@[go_sem] theorem ty.c45:Tryz.prog.cellsOf 45=1:=by kernel_rfl
@[go_sem] theorem ty.i45:(Tryz.prog.info? 45).isSome=true:=by kernel_rfl
@[go_sem] theorem ty.z46:zD Tryz.prog 46= .agg [.v (.int .i64 0),.v (.bool false),.sl 0 true []]:=by kernel_rfl
@[go_sem] theorem ty.k47:tk Tryz.prog 47= .st [(0,1,false),(1,1,false),(2,1,false)] 3:=by kernel_rfl
@[go_sem] theorem ty.z47:zD Tryz.prog 47= .agg [.v (.int .i64 0),.v (.bool false),.sl 0 true []]:=by kernel_rfl
@[go_sem] theorem ty.c47:Tryz.prog.cellsOf 47=3:=by kernel_rfl
@[go_sem] theorem ty.i47:(Tryz.prog.info? 47).isSome=true:=by kernel_rfl
@[go_sem] theorem ty.k48:tk Tryz.prog 48= .sl 130 4 56 true:=by kernel_rfl
@[go_sem] theorem ty.e48:ef Tryz.prog 48=130:=by kernel_rfl
@[go_sem] theorem ty.c48:Tryz.prog.cellsOf 48=1:=by kernel_rfl
@[go_sem] theorem ty.i48:(Tryz.prog.info? 48).isSome=true:=by kernel_rfl
@[go_sem] theorem ty.k50:tk Tryz.prog 50= .st [(0,3,true),(3,1,false)] 4:=by kernel_rfl
@[go_sem] theorem ty.z50:zD Tryz.prog 50= .agg [.v (.int .i64 0),.v (.bool false),.sl 0 true [],.sl 0 true []]:=by kernel_rfl
@[go_sem] theorem ty.c50:Tryz.prog.cellsOf 50=4:=by kernel_rfl
@[go_sem] theorem ty.i50:(Tryz.prog.info? 50).isSome=true:=by kernel_rfl
@[go_sem] theorem ty.z51:zD Tryz.prog 51= .sl 0 true []:=by kernel_rfl
@[go_sem] theorem ty.z53:zD Tryz.prog 53= .agg [.v (.int .i64 0),.sl 0 true [],.sl 0 true []]:=by kernel_rfl
@[go_sem] theorem ty.k58:tk Tryz.prog 58= .st [(0,1,false),(1,1,false),(2,1,false),(3,1,false)] 4:=by kernel_rfl
@[go_sem] theorem ty.k62:tk Tryz.prog 62= .sl 75 2 32 true:=by kernel_rfl
@[go_sem] theorem ty.e62:ef Tryz.prog 62=75:=by kernel_rfl
@[go_sem] theorem ty.c62:Tryz.prog.cellsOf 62=1:=by kernel_rfl
@[go_sem] theorem ty.i62:(Tryz.prog.info? 62).isSome=true:=by kernel_rfl
@[go_sem] theorem ty.k63:tk Tryz.prog 63= .sl 5 1 1 true:=by kernel_rfl
@[go_sem] theorem ty.e63:ef Tryz.prog 63=5:=by kernel_rfl
@[go_sem] theorem ty.z63:zD Tryz.prog 63= .sl 0 true []:=by kernel_rfl
@[go_sem] theorem ty.k75:tk Tryz.prog 75= .st [(0,1,false),(1,1,false)] 2:=by kernel_rfl
@[go_sem] theorem ty.z75:zD Tryz.prog 75= .agg [.v (.int .i64 0),.sl 0 true []]:=by kernel_rfl
@[go_sem] theorem ty.k85:tk Tryz.prog 85= .st [(0,1,false),(1,5,true)] 6:=by kernel_rfl
@[go_sem] theorem ty.z85:zD Tryz.prog 85= .agg [.v (.string ByteArray.empty),.v (.int .i64 0),.v (.bool false),.sl 0 true [],.sl 0 true [],.sl 0 true []]:=by kernel_rfl
@[go_sem] theorem ty.c85:Tryz.prog.cellsOf 85=6:=by kernel_rfl
@[go_sem] theorem ty.i85:(Tryz.prog.info? 85).isSome=true:=by kernel_rfl
@[go_sem] theorem ty.k87:tk Tryz.prog 87= .st [(0,1,false),(1,1,false)] 2:=by kernel_rfl
@[go_sem] theorem ty.z87:zD Tryz.prog 87= .agg [.v (.string ByteArray.empty),.sl 0 true []]:=by kernel_rfl
@[go_sem] theorem ty.c87:Tryz.prog.cellsOf 87=2:=by kernel_rfl
@[go_sem] theorem ty.i87:(Tryz.prog.info? 87).isSome=true:=by kernel_rfl
@[go_sem] theorem ty.k88:tk Tryz.prog 88= .sl 47 3 40 true:=by kernel_rfl
@[go_sem] theorem ty.e88:ef Tryz.prog 88=47:=by kernel_rfl
@[go_sem] theorem ty.c88:Tryz.prog.cellsOf 88=1:=by kernel_rfl
@[go_sem] theorem ty.i88:(Tryz.prog.info? 88).isSome=true:=by kernel_rfl
@[go_sem] theorem ty.k90:tk Tryz.prog 90= .st [(0,1,false),(1,2,true),(3,1,false)] 4:=by kernel_rfl
@[go_sem] theorem ty.z90:zD Tryz.prog 90= .agg [.v (.string ByteArray.empty),.v (.string ByteArray.empty),.sl 0 true [],.sl 0 true []]:=by kernel_rfl
@[go_sem] theorem ty.c90:Tryz.prog.cellsOf 90=4:=by kernel_rfl
@[go_sem] theorem ty.i90:(Tryz.prog.info? 90).isSome=true:=by kernel_rfl
@[go_sem] theorem ty.k93:tk Tryz.prog 93= .st [(0,1,false),(1,1,false)] 2:=by kernel_rfl
@[go_sem] theorem ty.z93:zD Tryz.prog 93= .agg [.v (.int .u64 0),.sl 0 true []]:=by kernel_rfl
@[go_sem] theorem ty.c93:Tryz.prog.cellsOf 93=2:=by kernel_rfl
@[go_sem] theorem ty.i93:(Tryz.prog.info? 93).isSome=true:=by kernel_rfl
@[go_sem] theorem ty.k94:tk Tryz.prog 94= .int .i64:=by kernel_rfl
@[go_sem] theorem ty.z94:zD Tryz.prog 94= .v (.int .i64 0):=by kernel_rfl
@[go_sem] theorem ty.c94:Tryz.prog.cellsOf 94=1:=by kernel_rfl
@[go_sem] theorem ty.i94:(Tryz.prog.info? 94).isSome=true:=by kernel_rfl
@[go_sem] theorem ty.ZF:tk Tryz.prog 106= .st [(0,15,true),(15,15,true),(30,1,false),(31,1,false),(32,1,false)] 33:=by kernel_rfl
@[go_sem] theorem ty.aab:zD Tryz.prog 106= .agg [.v (.int .i64 0),.v (.int .u64 0),.v (.int .i64 0),.v (.int .i64 0),.v (.int .i64 0),.v (.int .i64 0),.v (.bool false),.sl 0 true [],.sl 0 true [],.sl 0 true [],.sl 0 true [],.sl 0 true [],.v (.int .i64 0),.sl 0 true [],.sl 0 true [],.v (.int .i64 0),.v (.int .u64 0),.v (.int .i64 0),.v (.int .i64 0),.v (.int .i64 0),.v (.int .i64 0),.v (.bool false),.sl 0 true [],.sl 0 true [],.sl 0 true [],.sl 0 true [],.sl 0 true [],.v (.int .i64 0),.sl 0 true [],.sl 0 true [],.v (.int .i64 0),.sl 0 true [],.sl 0 true []]:=by kernel_rfl
@[go_sem] theorem ty.aa4:tk Tryz.prog 107= .sl 111 1 8 true:=by kernel_rfl
@[go_sem] theorem ty.aao:ef Tryz.prog 107=111:=by kernel_rfl
@[go_sem] theorem ty.abg:tk Tryz.prog 109= .fn:=by kernel_rfl
@[go_sem] theorem ty.aa2:tk Tryz.prog 111= .st [(0,1,false)] 1:=by kernel_rfl
@[go_sem] theorem ty.aaY:zD Tryz.prog 111= .agg [.v .nilFunc]:=by kernel_rfl
@[go_sem] theorem ty.aak:Tryz.prog.cellsOf 111=1:=by kernel_rfl
@[go_sem] theorem ty.i111:(Tryz.prog.info? 111).isSome=true:=by kernel_rfl
@[go_sem] theorem ty.aax:tk Tryz.prog 130= .st [(0,1,false),(1,3,true)] 4:=by kernel_rfl
@[go_sem] theorem ty.z130:zD Tryz.prog 130= .agg [.v (.string ByteArray.empty),.v (.int .i64 0),.v (.bool false),.sl 0 true []]:=by kernel_rfl
@[go_sem] theorem ty.z131:zD Tryz.prog 131= .v .nilFunc:=by kernel_rfl
@[go_sem] theorem ty.abe:tk Tryz.prog 143= .st [(0,1,false),(1,1,false)] 2:=by kernel_rfl
@[go_sem] theorem ty.z143:zD Tryz.prog 143= .agg [.v (.string ByteArray.empty),.sl 0 true []]:=by kernel_rfl
@[go_sem] theorem ty.abh:Tryz.prog.cellsOf 143=2:=by kernel_rfl
@[go_sem] theorem ty.i143:(Tryz.prog.info? 143).isSome=true:=by kernel_rfl
@[go_sem] theorem ty.aaR:tk Tryz.prog 165= .sl 37 1 24 true:=by kernel_rfl
@[go_sem] theorem ty.aai:ef Tryz.prog 165=37:=by kernel_rfl
@[go_sem] theorem ty.ZL:zD Tryz.prog 165= .sl 0 true []:=by kernel_rfl
@[go_sem] theorem ty.aaT:Tryz.prog.cellsOf 165=1:=by kernel_rfl
@[go_sem] theorem ty.i165:(Tryz.prog.info? 165).isSome=true:=by kernel_rfl
@[go_sem] theorem ty.aaU:tk Tryz.prog 166= .fn:=by kernel_rfl
@[go_sem] theorem ty.Z9:tk Tryz.prog 168= .st [(0,1,false),(1,1,false)] 2:=by kernel_rfl
@[go_sem] theorem ty.z168:zD Tryz.prog 168= .agg [.v (.int .u64 0),.v (.int .i64 0)]:=by kernel_rfl
@[go_sem] theorem ty.aap:Tryz.prog.cellsOf 168=2:=by kernel_rfl
@[go_sem] theorem ty.i168:(Tryz.prog.info? 168).isSome=true:=by kernel_rfl
@[go_sem] theorem ty.aaO:tk Tryz.prog 169= .sl 168 2 16 true:=by kernel_rfl
@[go_sem] theorem ty.ZX:ef Tryz.prog 169=168:=by kernel_rfl
@[go_sem] theorem ty.ZQ:tk Tryz.prog 172= .sl 63 1 24 true:=by kernel_rfl
@[go_sem] theorem ty.aaz:ef Tryz.prog 172=63:=by kernel_rfl
@[go_sem] theorem ty.ZE:zD Tryz.prog 172= .sl 0 true []:=by kernel_rfl
@[go_sem] theorem ty.ZK:Tryz.prog.cellsOf 172=1:=by kernel_rfl
@[go_sem] theorem ty.i172:(Tryz.prog.info? 172).isSome=true:=by kernel_rfl
@[go_sem] theorem ty.z182:zD Tryz.prog 182= .v .nilFunc:=by kernel_rfl
@[go_sem] theorem ty.z183:zD Tryz.prog 183= .v .nilFunc:=by kernel_rfl
@[go_sem] theorem ty.aat:tk Tryz.prog 194= .int .u64:=by kernel_rfl
@[go_sem] theorem ty.aac:tk Tryz.prog 197= .int .u32:=by kernel_rfl
@[go_sem] theorem ty.ZN:tk Tryz.prog 205= .fn:=by kernel_rfl
@[go_sem] theorem ty.aaZ:zD Tryz.prog 205= .v .nilFunc:=by kernel_rfl
@[go_sem] theorem ty.aaf:Tryz.prog.cellsOf 205=1:=by kernel_rfl
@[go_sem] theorem ty.i205:(Tryz.prog.info? 205).isSome=true:=by kernel_rfl
@[go_sem] theorem ty.z218:zD Tryz.prog 218= .v .nilFunc:=by kernel_rfl
@[go_sem] theorem ty.z222:zD Tryz.prog 222= .v .nilFunc:=by kernel_rfl
@[go_sem] theorem ty.aaL:tk Tryz.prog 228= .sl 230 1 8 true:=by kernel_rfl
@[go_sem] theorem ty.abb:ef Tryz.prog 228=230:=by kernel_rfl
@[go_sem] theorem ty.z228:zD Tryz.prog 228= .sl 0 true []:=by kernel_rfl
@[go_sem] theorem ty.z229:zD Tryz.prog 229= .agg [.v .nilFunc]:=by kernel_rfl
@[go_sem] theorem ty.aaS:tk Tryz.prog 230= .st [(0,1,false)] 1:=by kernel_rfl
@[go_sem] theorem ty.ZB:zD Tryz.prog 230= .agg [.v .nilFunc]:=by kernel_rfl
@[go_sem] theorem ty.aa7:tk Tryz.prog 234= .ar 128 5 1 false 128:=by kernel_rfl
@[go_sem] theorem ty.z234:zD Tryz.prog 234= .agg [.v (.int .u8 0),.v (.int .u8 0),.v (.int .u8 0),.v (.int .u8 0),.v (.int .u8 0),.v (.int .u8 0),.v (.int .u8 0),.v (.int .u8 0),.v (.int .u8 0),.v (.int .u8 0),.v (.int .u8 0),.v (.int .u8 0),.v (.int .u8 0),.v (.int .u8 0),.v (.int .u8 0),.v (.int .u8 0),.v (.int .u8 0),.v (.int .u8 0),.v (.int .u8 0),.v (.int .u8 0),.v (.int .u8 0),.v (.int .u8 0),.v (.int .u8 0),.v (.int .u8 0),.v (.int .u8 0),.v (.int .u8 0),.v (.int .u8 0),.v (.int .u8 0),.v (.int .u8 0),.v (.int .u8 0),.v (.int .u8 0),.v (.int .u8 0),.v (.int .u8 0),.v (.int .u8 0),.v (.int .u8 0),.v (.int .u8 0),.v (.int .u8 0),.v (.int .u8 0),.v (.int .u8 0),.v (.int .u8 0),.v (.int .u8 0),.v (.int .u8 0),.v (.int .u8 0),.v (.int .u8 0),.v (.int .u8 0),.v (.int .u8 0),.v (.int .u8 0),.v (.int .u8 0),.v (.int .u8 0),.v (.int .u8 0),.v (.int .u8 0),.v (.int .u8 0),.v (.int .u8 0),.v (.int .u8 0),.v (.int .u8 0),.v (.int .u8 0),.v (.int .u8 0),.v (.int .u8 0),.v (.int .u8 0),.v (.int .u8 0),.v (.int .u8 0),.v (.int .u8 0),.v (.int .u8 0),.v (.int .u8 0),.v (.int .u8 0),.v (.int .u8 0),.v (.int .u8 0),.v (.int .u8 0),.v (.int .u8 0),.v (.int .u8 0),.v (.int .u8 0),.v (.int .u8 0),.v (.int .u8 0),.v (.int .u8 0),.v (.int .u8 0),.v (.int .u8 0),.v (.int .u8 0),.v (.int .u8 0),.v (.int .u8 0),.v (.int .u8 0),.v (.int .u8 0),.v (.int .u8 0),.v (.int .u8 0),.v (.int .u8 0),.v (.int .u8 0),.v (.int .u8 0),.v (.int .u8 0),.v (.int .u8 0),.v (.int .u8 0),.v (.int .u8 0),.v (.int .u8 0),.v (.int .u8 0),.v (.int .u8 0),.v (.int .u8 0),.v (.int .u8 0),.v (.int .u8 0),.v (.int .u8 0),.v (.int .u8 0),.v (.int .u8 0),.v (.int .u8 0),.v (.int .u8 0),.v (.int .u8 0),.v (.int .u8 0),.v (.int .u8 0),.v (.int .u8 0),.v (.int .u8 0),.v (.int .u8 0),.v (.int .u8 0),.v (.int .u8 0),.v (.int .u8 0),.v (.int .u8 0),.v (.int .u8 0),.v (.int .u8 0),.v (.int .u8 0),.v (.int .u8 0),.v (.int .u8 0),.v (.int .u8 0),.v (.int .u8 0),.v (.int .u8 0),.v (.int .u8 0),.v (.int .u8 0),.v (.int .u8 0),.v (.int .u8 0),.v (.int .u8 0),.v (.int .u8 0),.v (.int .u8 0),.v (.int .u8 0),.v (.int .u8 0)]:=by kernel_rfl
@[go_sem] theorem ty.aaN:tk Tryz.prog 245= .fn:=by kernel_rfl
@[go_sem] theorem ty.ZJ:zD Tryz.prog 245= .v .nilFunc:=by kernel_rfl
@[go_sem] theorem ty.aaD:Tryz.prog.cellsOf 245=1:=by kernel_rfl
@[go_sem] theorem ty.i245:(Tryz.prog.info? 245).isSome=true:=by kernel_rfl
@[go_sem] theorem ty.aah:tk Tryz.prog 278= .fn:=by kernel_rfl
@[go_sem] theorem ty.aa5:zD Tryz.prog 278= .v .nilFunc:=by kernel_rfl
@[go_sem] theorem ty.Zz:Tryz.prog.cellsOf 278=1:=by kernel_rfl
@[go_sem] theorem ty.i278:(Tryz.prog.info? 278).isSome=true:=by kernel_rfl
@[go_sem] theorem ty.ZW:tk Tryz.prog 314= .st [(0,1,false),(1,1,false)] 2:=by kernel_rfl
@[go_sem] theorem ty.aaP:zD Tryz.prog 314= .agg [.sl 0 true [],.sl 0 true []]:=by kernel_rfl
@[go_sem] theorem ty.aaM:tk Tryz.prog 316= .map 3 3:=by kernel_rfl
@[go_sem] theorem ty.ZA:tk Tryz.prog 317= .ar 16 197 1 false 16:=by kernel_rfl
@[go_sem] theorem ty.aaJ:tk Tryz.prog 328= .sl 31 1 24 true:=by kernel_rfl
@[go_sem] theorem ty.ZM:ef Tryz.prog 328=31:=by kernel_rfl
@[go_sem] theorem ty.aas:tk Tryz.prog 330= .sl 29 1 24 true:=by kernel_rfl
@[go_sem] theorem ty.ZU:ef Tryz.prog 330=29:=by kernel_rfl
@[go_sem] theorem ty.aba:tk Tryz.prog 332= .sl 30 1 24 true:=by kernel_rfl
@[go_sem] theorem ty.aaj:ef Tryz.prog 332=30:=by kernel_rfl
@[go_sem] theorem ty.ZH:tk Tryz.prog 338= .sl 353 5 56 true:=by kernel_rfl
@[go_sem] theorem ty.aa0:ef Tryz.prog 338=353:=by kernel_rfl
@[go_sem] theorem ty.aau:tk Tryz.prog 341= .st [(0,1,false),(1,1,false)] 2:=by kernel_rfl
@[go_sem] theorem ty.aam:zD Tryz.prog 341= .agg [.v (.bool false),.sl 0 true []]:=by kernel_rfl
@[go_sem] theorem ty.aad:tk Tryz.prog 346= .st [(0,1,false),(1,1,false)] 2:=by kernel_rfl
@[go_sem] theorem ty.Z5:zD Tryz.prog 346= .agg [.v (.string ByteArray.empty),.v (.string ByteArray.empty)]:=by kernel_rfl
@[go_sem] theorem ty.aaW:Tryz.prog.cellsOf 346=2:=by kernel_rfl
@[go_sem] theorem ty.i346:(Tryz.prog.info? 346).isSome=true:=by kernel_rfl
@[go_sem] theorem ty.aaa:tk Tryz.prog 351= .st [(0,1,false),(1,1,false),(2,1,false),(3,1,false)] 4:=by kernel_rfl
@[go_sem] theorem ty.aa1:BF Tryz.prog 351=some [.str,.bool,.int .i64,.int .i64]:=by kernel_rfl
@[go_sem] theorem ty.aaK:zD Tryz.prog 351= .agg [.v (.string ByteArray.empty),.v (.bool false),.v (.int .i64 0),.v (.int .i64 0)]:=by kernel_rfl
@[go_sem] theorem ty.ZS:Tryz.prog.cellsOf 351=4:=by kernel_rfl
@[go_sem] theorem ty.i351:(Tryz.prog.info? 351).isSome=true:=by kernel_rfl
@[go_sem] theorem ty.aaG:tk Tryz.prog 353= .st [(0,1,false),(1,4,true)] 5:=by kernel_rfl
@[go_sem] theorem ty.ZZ:zD Tryz.prog 353= .agg [.v (.string ByteArray.empty),.v (.string ByteArray.empty),.v (.bool false),.v (.int .i64 0),.v (.int .i64 0)]:=by kernel_rfl
@[go_sem] theorem ty.ZP:Tryz.prog.cellsOf 353=5:=by kernel_rfl
@[go_sem] theorem ty.i353:(Tryz.prog.info? 353).isSome=true:=by kernel_rfl
@[go_sem] theorem ty.aaH:tk Tryz.prog 355= .ptr 357:=by kernel_rfl
@[go_sem] theorem ty.aae:zD Tryz.prog 355= .v (.pointer none):=by kernel_rfl
@[go_sem] theorem ty.ZO:Tryz.prog.cellsOf 355=1:=by kernel_rfl
@[go_sem] theorem ty.i355:(Tryz.prog.info? 355).isSome=true:=by kernel_rfl
@[go_sem] theorem ty.aal:tk Tryz.prog 357= .st [(0,1,false),(1,1,false)] 2:=by kernel_rfl
@[go_sem] theorem ty.Z7:zD Tryz.prog 357= .agg [.sl 0 true [],.v (.map none)]:=by kernel_rfl
@[go_sem] theorem ty.aaX:tk Tryz.prog 364= .jH ["jalousie/node.least", "jalousie/node.may", "jalousie/node.put", "jalousie/node.take"]:=by kernel_rfl
@[go_sem] theorem ty.aar:zD Tryz.prog 364= .v .nilIface:=by kernel_rfl
@[go_sem] theorem ty.aaQ:tk Tryz.prog 365= .sl 364 1 16 true:=by kernel_rfl
@[go_sem] theorem ty.aa3:ef Tryz.prog 365=364:=by kernel_rfl
@[go_sem] theorem ty.ZR:tk Tryz.prog 376= .st [] 0:=by kernel_rfl
@[go_sem] theorem ty.aay:zD Tryz.prog 376= .agg []:=by kernel_rfl
@[go_sem] theorem ty.Z1:tk Tryz.prog 377= .st [] 0:=by kernel_rfl
@[go_sem] theorem ty.abc:zD Tryz.prog 377= .agg []:=by kernel_rfl
@[go_sem] theorem ty.f0:okF Tryz.prog 0=false:=by kernel_rfl
@[go_sem] theorem ty.f1:okF Tryz.prog 1=false:=by kernel_rfl
@[go_sem] theorem ty.f2:okF Tryz.prog 2=true:=by kernel_rfl
@[go_sem] theorem ty.f3:okF Tryz.prog 3=true:=by kernel_rfl
@[go_sem] theorem ty.f4:okF Tryz.prog 4=true:=by kernel_rfl
@[go_sem] theorem ty.f5:okF Tryz.prog 5=true:=by kernel_rfl
@[go_sem] theorem ty.f6:okF Tryz.prog 6=true:=by kernel_rfl
@[go_sem] theorem ty.f7:okF Tryz.prog 7=true:=by kernel_rfl
@[go_sem] theorem ty.f8:okF Tryz.prog 8=true:=by kernel_rfl
@[go_sem] theorem ty.f9:okF Tryz.prog 9=true:=by kernel_rfl
@[go_sem] theorem ty.f11:okF Tryz.prog 11=true:=by kernel_rfl
@[go_sem] theorem ty.f13:okF Tryz.prog 13=true:=by kernel_rfl
@[go_sem] theorem ty.f15:okF Tryz.prog 15=true:=by kernel_rfl
@[go_sem] theorem ty.f18:okF Tryz.prog 18=true:=by kernel_rfl
@[go_sem] theorem ty.f23:okF Tryz.prog 23=true:=by kernel_rfl
@[go_sem] theorem ty.f24:okF Tryz.prog 24=true:=by kernel_rfl
@[go_sem] theorem ty.f26:okF Tryz.prog 26=true:=by kernel_rfl
@[go_sem] theorem ty.f27:okF Tryz.prog 27=true:=by kernel_rfl
@[go_sem] theorem ty.f28:okF Tryz.prog 28=true:=by kernel_rfl
@[go_sem] theorem ty.f30:okF Tryz.prog 30=true:=by kernel_rfl
@[go_sem] theorem ty.f31:okF Tryz.prog 31=true:=by kernel_rfl
@[go_sem] theorem ty.f32:okF Tryz.prog 32=true:=by kernel_rfl
@[go_sem] theorem ty.f33:okF Tryz.prog 33=true:=by kernel_rfl
@[go_sem] theorem ty.f34:okF Tryz.prog 34=true:=by kernel_rfl
@[go_sem] theorem ty.f48:okF Tryz.prog 48=true:=by kernel_rfl
@[go_sem] theorem ty.f49:okF Tryz.prog 49=true:=by kernel_rfl
@[go_sem] theorem ty.f50:okF Tryz.prog 50=true:=by kernel_rfl
@[go_sem] theorem ty.f51:okF Tryz.prog 51=true:=by kernel_rfl
@[go_sem] theorem ty.f52:okF Tryz.prog 52=true:=by kernel_rfl
@[go_sem] theorem ty.f57:okF Tryz.prog 57=true:=by kernel_rfl
@[go_sem] theorem ty.f60:okF Tryz.prog 60=true:=by kernel_rfl
@[go_sem] theorem ty.f61:okF Tryz.prog 61=true:=by kernel_rfl
@[go_sem] theorem ty.f62:okF Tryz.prog 62=true:=by kernel_rfl
@[go_sem] theorem ty.f63:okF Tryz.prog 63=true:=by kernel_rfl
@[go_sem] theorem ty.f64:okF Tryz.prog 64=true:=by kernel_rfl
@[go_sem] theorem ty.f65:okF Tryz.prog 65=true:=by kernel_rfl
@[go_sem] theorem ty.f66:okF Tryz.prog 66=true:=by kernel_rfl
@[go_sem] theorem ty.f67:okF Tryz.prog 67=true:=by kernel_rfl
@[go_sem] theorem ty.f70:okF Tryz.prog 70=true:=by kernel_rfl
@[go_sem] theorem ty.f71:okF Tryz.prog 71=true:=by kernel_rfl
@[go_sem] theorem ty.f73:okF Tryz.prog 73=true:=by kernel_rfl
@[go_sem] theorem ty.f74:okF Tryz.prog 74=true:=by kernel_rfl
@[go_sem] theorem ty.f75:okF Tryz.prog 75=true:=by kernel_rfl
@[go_sem] theorem ty.f76:okF Tryz.prog 76=true:=by kernel_rfl
@[go_sem] theorem ty.f77:okF Tryz.prog 77=true:=by kernel_rfl
@[go_sem] theorem ty.f78:okF Tryz.prog 78=true:=by kernel_rfl
@[go_sem] theorem ty.f79:okF Tryz.prog 79=true:=by kernel_rfl
@[go_sem] theorem ty.f80:okF Tryz.prog 80=true:=by kernel_rfl
@[go_sem] theorem ty.f81:okF Tryz.prog 81=true:=by kernel_rfl
@[go_sem] theorem ty.f82:okF Tryz.prog 82=true:=by kernel_rfl
@[go_sem] theorem ty.f96:okF Tryz.prog 96=true:=by kernel_rfl
@[go_sem] theorem ty.f97:okF Tryz.prog 97=true:=by kernel_rfl
@[go_sem] theorem ty.f98:okF Tryz.prog 98=true:=by kernel_rfl
@[go_sem] theorem ty.f99:okF Tryz.prog 99=true:=by kernel_rfl
@[go_sem] theorem ty.f102:okF Tryz.prog 102=true:=by kernel_rfl
@[go_sem] theorem ty.f103:okF Tryz.prog 103=true:=by kernel_rfl
@[go_sem] theorem ty.f104:okF Tryz.prog 104=true:=by kernel_rfl
@[go_sem] theorem ty.f110:okF Tryz.prog 110=true:=by kernel_rfl
@[go_sem] theorem ty.f111:okF Tryz.prog 111=true:=by kernel_rfl
@[go_sem] theorem ty.f112:okF Tryz.prog 112=true:=by kernel_rfl
@[go_sem] theorem ty.f113:okF Tryz.prog 113=false:=by kernel_rfl
@[go_sem] theorem ty.f115:okF Tryz.prog 115=true:=by kernel_rfl
@[go_sem] theorem ty.f116:okF Tryz.prog 116=true:=by kernel_rfl
@[go_sem] theorem ty.f117:okF Tryz.prog 117=true:=by kernel_rfl
@[go_sem] theorem ty.f118:okF Tryz.prog 118=true:=by kernel_rfl
@[go_sem] theorem ty.f119:okF Tryz.prog 119=true:=by kernel_rfl
@[go_sem] theorem ty.f120:okF Tryz.prog 120=true:=by kernel_rfl
@[go_sem] theorem ty.f121:okF Tryz.prog 121=true:=by kernel_rfl
@[go_sem] theorem ty.f122:okF Tryz.prog 122=true:=by kernel_rfl
@[go_sem] theorem ty.f123:okF Tryz.prog 123=true:=by kernel_rfl
@[go_sem] theorem ty.f124:okF Tryz.prog 124=true:=by kernel_rfl
@[go_sem] theorem ty.f125:okF Tryz.prog 125=true:=by kernel_rfl
@[go_sem] theorem ty.f126:okF Tryz.prog 126=true:=by kernel_rfl
@[go_sem] theorem ty.f127:okF Tryz.prog 127=true:=by kernel_rfl
@[go_sem] theorem ty.f128:okF Tryz.prog 128=true:=by kernel_rfl
@[go_sem] theorem ty.f129:okF Tryz.prog 129=true:=by kernel_rfl
@[go_sem] theorem ty.f130:okF Tryz.prog 130=true:=by kernel_rfl
@[go_sem] theorem ty.f131:okF Tryz.prog 131=true:=by kernel_rfl
@[go_sem] theorem ty.f132:okF Tryz.prog 132=true:=by kernel_rfl
@[go_sem] theorem ty.f133:okF Tryz.prog 133=true:=by kernel_rfl
@[go_sem] theorem ty.f134:okF Tryz.prog 134=true:=by kernel_rfl
@[go_sem] theorem ty.f135:okF Tryz.prog 135=true:=by kernel_rfl
@[go_sem] theorem ty.f136:okF Tryz.prog 136=true:=by kernel_rfl
@[go_sem] theorem ty.f137:okF Tryz.prog 137=true:=by kernel_rfl
@[go_sem] theorem ty.f138:okF Tryz.prog 138=true:=by kernel_rfl
@[go_sem] theorem ty.f139:okF Tryz.prog 139=true:=by kernel_rfl
@[go_sem] theorem ty.f140:okF Tryz.prog 140=true:=by kernel_rfl
@[go_sem] theorem ty.f141:okF Tryz.prog 141=true:=by kernel_rfl
@[go_sem] theorem ty.f150:okF Tryz.prog 150=true:=by kernel_rfl
@[go_sem] theorem ty.f151:okF Tryz.prog 151=true:=by kernel_rfl
@[go_sem] theorem ty.f158:okF Tryz.prog 158=true:=by kernel_rfl
@[go_sem] theorem ty.f163:okF Tryz.prog 163=true:=by kernel_rfl
@[go_sem] theorem ty.f165:okF Tryz.prog 165=true:=by kernel_rfl
@[go_sem] theorem ty.f167:okF Tryz.prog 167=true:=by kernel_rfl
@[go_sem] theorem ty.f168:okF Tryz.prog 168=true:=by kernel_rfl
@[go_sem] theorem ty.f169:okF Tryz.prog 169=true:=by kernel_rfl
@[go_sem] theorem ty.f170:okF Tryz.prog 170=true:=by kernel_rfl
@[go_sem] theorem ty.f171:okF Tryz.prog 171=true:=by kernel_rfl
@[go_sem] theorem ty.f172:okF Tryz.prog 172=true:=by kernel_rfl
@[go_sem] theorem ty.f173:okF Tryz.prog 173=true:=by kernel_rfl
@[go_sem] theorem ty.f174:okF Tryz.prog 174=true:=by kernel_rfl
@[go_sem] theorem ty.f175:okF Tryz.prog 175=true:=by kernel_rfl
@[go_sem] theorem ty.f176:okF Tryz.prog 176=true:=by kernel_rfl
@[go_sem] theorem ty.f177:okF Tryz.prog 177=true:=by kernel_rfl
@[go_sem] theorem ty.f178:okF Tryz.prog 178=true:=by kernel_rfl
@[go_sem] theorem ty.f179:okF Tryz.prog 179=true:=by kernel_rfl
@[go_sem] theorem ty.f180:okF Tryz.prog 180=true:=by kernel_rfl
@[go_sem] theorem ty.f181:okF Tryz.prog 181=true:=by kernel_rfl
@[go_sem] theorem ty.f182:okF Tryz.prog 182=true:=by kernel_rfl
@[go_sem] theorem ty.f183:okF Tryz.prog 183=true:=by kernel_rfl
@[go_sem] theorem ty.f184:okF Tryz.prog 184=true:=by kernel_rfl
@[go_sem] theorem ty.f185:okF Tryz.prog 185=true:=by kernel_rfl
@[go_sem] theorem ty.f186:okF Tryz.prog 186=true:=by kernel_rfl
@[go_sem] theorem ty.f187:okF Tryz.prog 187=true:=by kernel_rfl
@[go_sem] theorem ty.f188:okF Tryz.prog 188=true:=by kernel_rfl
@[go_sem] theorem ty.f189:okF Tryz.prog 189=true:=by kernel_rfl
@[go_sem] theorem ty.f190:okF Tryz.prog 190=true:=by kernel_rfl
@[go_sem] theorem ty.f196:okF Tryz.prog 196=true:=by kernel_rfl
@[go_sem] theorem ty.f213:okF Tryz.prog 213=true:=by kernel_rfl
@[go_sem] theorem ty.f214:okF Tryz.prog 214=false:=by kernel_rfl
@[go_sem] theorem ty.f215:okF Tryz.prog 215=true:=by kernel_rfl
@[go_sem] theorem ty.f216:okF Tryz.prog 216=true:=by kernel_rfl
@[go_sem] theorem ty.f217:okF Tryz.prog 217=true:=by kernel_rfl
@[go_sem] theorem ty.f218:okF Tryz.prog 218=true:=by kernel_rfl
@[go_sem] theorem ty.f219:okF Tryz.prog 219=true:=by kernel_rfl
@[go_sem] theorem ty.f220:okF Tryz.prog 220=true:=by kernel_rfl
@[go_sem] theorem ty.f221:okF Tryz.prog 221=true:=by kernel_rfl
@[go_sem] theorem ty.f222:okF Tryz.prog 222=true:=by kernel_rfl
@[go_sem] theorem ty.f223:okF Tryz.prog 223=true:=by kernel_rfl
@[go_sem] theorem ty.f224:okF Tryz.prog 224=true:=by kernel_rfl
@[go_sem] theorem ty.f225:okF Tryz.prog 225=true:=by kernel_rfl
@[go_sem] theorem ty.f226:okF Tryz.prog 226=true:=by kernel_rfl
@[go_sem] theorem ty.f227:okF Tryz.prog 227=true:=by kernel_rfl
@[go_sem] theorem ty.f228:okF Tryz.prog 228=true:=by kernel_rfl
@[go_sem] theorem ty.f229:okF Tryz.prog 229=true:=by kernel_rfl
@[go_sem] theorem ty.f230:okF Tryz.prog 230=true:=by kernel_rfl
@[go_sem] theorem ty.f231:okF Tryz.prog 231=true:=by kernel_rfl
@[go_sem] theorem ty.f243:okF Tryz.prog 243=true:=by kernel_rfl
@[go_sem] theorem ty.f244:okF Tryz.prog 244=true:=by kernel_rfl
@[go_sem] theorem ty.f245:okF Tryz.prog 245=true:=by kernel_rfl
@[go_sem] theorem ty.f246:okF Tryz.prog 246=true:=by kernel_rfl
@[go_sem] theorem ty.f247:okF Tryz.prog 247=true:=by kernel_rfl
@[go_sem] theorem ty.f248:okF Tryz.prog 248=true:=by kernel_rfl
@[go_sem] theorem ty.f249:okF Tryz.prog 249=true:=by kernel_rfl
@[go_sem] theorem ty.f250:okF Tryz.prog 250=true:=by kernel_rfl
@[go_sem] theorem ty.f251:okF Tryz.prog 251=true:=by kernel_rfl
@[go_sem] theorem ty.f252:okF Tryz.prog 252=true:=by kernel_rfl
@[go_sem] theorem ty.f253:okF Tryz.prog 253=true:=by kernel_rfl
@[go_sem] theorem ty.f257:okF Tryz.prog 257=true:=by kernel_rfl
@[go_sem] theorem ty.f258:okF Tryz.prog 258=true:=by kernel_rfl
@[go_sem] theorem ty.f259:okF Tryz.prog 259=true:=by kernel_rfl
@[go_sem] theorem ty.f260:okF Tryz.prog 260=true:=by kernel_rfl
@[go_sem] theorem ty.f261:okF Tryz.prog 261=true:=by kernel_rfl
@[go_sem] theorem ty.f262:okF Tryz.prog 262=true:=by kernel_rfl
@[go_sem] theorem ty.f263:okF Tryz.prog 263=true:=by kernel_rfl
@[go_sem] theorem ty.f264:okF Tryz.prog 264=true:=by kernel_rfl
@[go_sem] theorem ty.f265:okF Tryz.prog 265=true:=by kernel_rfl
@[go_sem] theorem ty.f266:okF Tryz.prog 266=true:=by kernel_rfl
@[go_sem] theorem ty.f267:okF Tryz.prog 267=true:=by kernel_rfl
@[go_sem] theorem ty.f268:okF Tryz.prog 268=true:=by kernel_rfl
@[go_sem] theorem ty.f269:okF Tryz.prog 269=true:=by kernel_rfl
@[go_sem] theorem ty.f270:okF Tryz.prog 270=true:=by kernel_rfl
@[go_sem] theorem ty.f271:okF Tryz.prog 271=true:=by kernel_rfl
@[go_sem] theorem ty.f272:okF Tryz.prog 272=true:=by kernel_rfl
@[go_sem] theorem ty.f274:okF Tryz.prog 274=true:=by kernel_rfl
@[go_sem] theorem ty.f275:okF Tryz.prog 275=true:=by kernel_rfl
@[go_sem] theorem ty.f293:okF Tryz.prog 293=true:=by kernel_rfl
@[go_sem] theorem ty.f294:okF Tryz.prog 294=true:=by kernel_rfl
@[go_sem] theorem ty.f295:okF Tryz.prog 295=true:=by kernel_rfl
@[go_sem] theorem ty.f296:okF Tryz.prog 296=false:=by kernel_rfl
@[go_sem] theorem ty.f297:okF Tryz.prog 297=true:=by kernel_rfl
@[go_sem] theorem ty.f298:okF Tryz.prog 298=true:=by kernel_rfl
@[go_sem] theorem ty.f299:okF Tryz.prog 299=true:=by kernel_rfl
@[go_sem] theorem ty.f300:okF Tryz.prog 300=true:=by kernel_rfl
@[go_sem] theorem ty.f301:okF Tryz.prog 301=true:=by kernel_rfl
@[go_sem] theorem ty.f302:okF Tryz.prog 302=true:=by kernel_rfl
theorem mx:Tryz.prog.follows .mixedOrders=true:=by kernel_rfl
end Go.Proofs.YtpjenciplibdnaaGreatDoor
namespace Aml
open Go Go.RowKit
def vp:List DV→Nat→List Nat→List DV
 |[],_,_=>[]
 |_::ds,i,[]=> .any::vp ds (i+1) []
 |d::ds,i,j::js=>if i=j then d::vp ds (i+1) js else .any::vp ds (i+1) (j::js)
def wk(live:List Nat)(fr:List DV):List DV:=vp fr 0 live
def pd(fr:List DV):List (Nat×DV)→List DV
 |[]=>fr
 |(i,d)::us=>pd (fr.set i d) us
structure U0 where
 a0:DV
 a1:DV
 a2:DV
 a3:DV
 a4:DV
 a5:DV
 a6:DV
 a7:DV
 a8:DV
 a9:DV
 bU:DV
 ca:DV
 a12:DV
 cu:DV
 cJ:DV
 cS:DV
def rc(r:U0)(l:List DV):List DV:=r.a0::r.a1::r.a2::r.a3::r.a4::r.a5::r.a6::r.a7::r.a8::r.a9::r.bU::r.ca::r.a12::r.cu::r.cJ::r.cS::l
def fq(l:List DV):List DV:=l
theorem IS{g:Gh}:∀{ds es:List DV} {us:List Value},ai g ds us→ds.length=es.length→(∀(i:Nat) (d e:DV),ds[i]? =some d→es[i]? =some e→e=d∨e= .any)→ai g es us:=
 fun{ds es us} h hl hs=>⟨by rw[←hl];exact h.len,fun i e u h1 h2=>by
  have hi:i<ds.length:=by rw[hl];exact(List.getElem?_eq_some_iff.1 h1).1
  rcases hs i _ e (List.getElem?_eq_getElem hi) h1 with rfl|rfl
  ·exact h.at_ i _ u (List.getElem?_eq_getElem hi) h2
  ·exact .any u⟩
theorem mj:∀(ds:List DV) (k:Nat) (js:List Nat),(vp ds k js).length=ds.length∧∀(i:Nat) (d e:DV),ds[i]? =some d→(vp ds k js)[i]? =some e→e=d∨e= .any
 |[],k,js=>⟨by simp[vp],fun i d e h=>by simp at h⟩
 |d::ds,k,[]=>by
  obtain⟨h1,h2⟩:=mj ds (k+1) []
  refine⟨by simp[vp,h1],fun i d' e a b=>?_⟩
  cases i with
  |zero=>simp[vp]at b;exact .inr b.symm
  |succ i=>simp[vp]at a b;exact h2 i d' e a b
 |d::ds,k,j::js=>by
  simp only[vp]
  split
  ·obtain⟨h1,h2⟩:=mj ds (k+1) js
   refine⟨by simp[h1],fun i d' e a b=>?_⟩
   cases i with
   |zero=>simp at a b;exact .inl (b.symm.trans a)
   |succ i=>simp at a b;exact h2 i d' e a b
  ·obtain⟨h1,h2⟩:=mj ds (k+1) (j::js)
   refine⟨by simp[h1],fun i d' e a b=>?_⟩
   cases i with
   |zero=>simp at b;exact .inr b.symm
   |succ i=>simp at a b;exact h2 i d' e a b
theorem Fg{g:Gh}{fr:List DV}{us:List Value}(live:List Nat)(h:ai g fr us):ai g (wk live fr) us:=
 IS h (mj fr 0 live).1.symm (mj fr 0 live).2
section
variable {P:Program} {w0:W0}
theorem Mq(i s:Nat)(hs:0<s){c:Code}{fr:List DV}{S:St}{Q:Exit→List DV→St→Prop}{s0:Nat}(hi:fr[i]? =some (.sl s0 true []))
 (h:∀l,jj S.acc l→gk P w0 c (fr.set i (.acc l 0)) ⟨S.box,(l,.arr s [])::S.acc⟩ Q):gk P w0 c fr S Q:=by
 intro g a w h1 h2 h3
 have hlt:i<a.tmps.toList.length:=by rw[←h2.len];exact(List.getElem?_eq_some_iff.1 hi).1
 have hr:=h2.at_ i _ _ hi (List.getElem?_eq_getElem hlt)
 have hr':aK g (.sl s true []) a.tmps.toList[i]:=by obtain⟨o',ho'⟩:=eF hr;rw[ho'];exact .nil _ _ _ _ fun _=>rfl
 obtain⟨l,g',hle,hne,hR,hA⟩:=h1.qB hs hr' (.arr s []) (.inr ⟨rfl,rfl⟩)
 have hfr:=fh (h2.mono hle) (List.getElem?_eq_getElem hlt) hA
 exact eU (h l (di hne) g' a w hR hfr (hle.dk h3)) fun _ _ _ k=>k.of_le hle
end
end Aml
namespace Aml
open Go Go.RowKit
def Is(xs:List DV)(i:Nat)(F:DV→Prop):Prop:=∀d,xs[i]? =some d→eI d=true∧F d
def FB(xs:List DV)(i:Nat)(F:DV→Prop):Prop:=∃d,xs[i]? =some d∧eI d=true∧F d
theorem AK{α:Type}(f:α→DV)(l:List α)(i:Nat)(F:DV→Prop):Is (List.map f l) i F=∀a,l[i]? =some a→eI (f a)=true∧F (f a):=by
 unfold Is
 refine propext ⟨fun h a ha=>h _ (by rw[List.getElem?_map,ha];rfl),fun h d hd=>?_⟩
 rw[List.getElem?_map,Option.map_eq_some_iff]at hd
 obtain⟨a,ha,rfl⟩:=hd
 exact h a ha
theorem KY(i:Nat)(F:DV→Prop):Is [] i F=True:=by simp[Is]
theorem H3(x:DV)(xs:List DV)(F:DV→Prop):Is (x::xs) 0 F=(eI x=true∧F x):=by simp[Is]
theorem GM(x:DV)(xs:List DV)(i:Nat)(F:DV→Prop):Is (x::xs) (i+1) F=Is xs i F:=by simp[Is]
theorem AR{α:Type}(f:α→DV)(l:List α)(i:Nat)(F:DV→Prop):FB (List.map f l) i F=(i<l.length∧∀a,l[i]? =some a→eI (f a)=true∧F (f a)):=by
 unfold FB
 refine propext ⟨fun⟨d,hd,h⟩=>?_,fun⟨hi,h⟩=>⟨f l[i],by rw[List.getElem?_map,List.getElem?_eq_getElem hi];rfl,h _ (List.getElem?_eq_getElem hi)⟩⟩
 rw[List.getElem?_map,Option.map_eq_some_iff]at hd
 obtain⟨a,ha,rfl⟩:=hd
 exact⟨(List.getElem?_eq_some_iff.1 ha).1,fun b hb=>by rw[ha]at hb;cases hb;exact h⟩
theorem Ma(i:Nat)(F:DV→Prop):FB [] i F=False:=by simp[FB]
theorem Qk(u:Value):eI (.v u)=true:=rfl
theorem KO(s:Nat)(f:Bool)(xs:List DV):eI (.sl s f xs)=true:=rfl
theorem Gr(ds:List DV):eI (.agg ds)=true:=rfl
theorem GZ(t:TypeId)(d:DV):eI (.jH t d)=true:=rfl
theorem Gs(l n:Nat):eI (.acc l n)=true:=rfl
theorem Ui(u:Value):cd (.v u)=[.v u]:=rfl
theorem NV(s:Nat)(f:Bool)(xs:List DV):cd (.sl s f xs)=[.sl s f xs]:=rfl
theorem Mn(ds:List DV):cd (.agg ds)=ds:=rfl
theorem LG(t:TypeId)(d:DV):cd (.jH t d)=[.jH t d]:=rfl
theorem Jd(l n:Nat):cd (.acc l n)=[.acc l n]:=rfl
theorem fg{α:Type}(k:Nat)(x:α)(t:List (Nat×α)):lk ((k,x)::t) k=some x:=by simp[lk]
theorem oI{α:Type}{k n:Nat}(h:¬k=n)(x:α)(t:List (Nat×α)):lk ((k,x)::t) n=lk t n:=by simp[lk,h]
theorem GU{α:Type}(k:Nat)(x y:α)(t:List (Nat×α)):up ((k,x)::t) k y=(k,y)::t:=by simp[up]
theorem Nn{α:Type}{k n:Nat}(h:¬k=n)(x y:α)(t:List (Nat×α)):up ((k,x)::t) n y=(k,x)::up t n y:=by simp[up,h]
section
variable {P:Program} {w0:W0} (K:DV→Prop) (K2:DV→St→Prop) (S:St)
theorem Lc(k:IntKind)(d:DV)(ds:List DV):pP (.int k) (d::ds) K=K d:=rfl
theorem I2(d:DV)(ds:List DV):pP .one (d::ds) K=K d:=rfl
theorem Oo(d:DV)(ds:List DV):pP .fn (d::ds) K=K d:=rfl
theorem JK(d:DV)(ds:List DV):pP .str (d::ds) K=K d:=rfl
theorem O7(e s b:Nat)(i:Bool)(d:DV)(ds:List DV):pP (.sl e s b i) (d::ds) K=K d:=rfl
theorem KF(k e:Nat)(d:DV)(ds:List DV):pP (.map k e) (d::ds) K=K d:=rfl
theorem Js(e:Nat)(d:DV)(ds:List DV):pP (.ptr e) (d::ds) K=K d:=rfl
theorem Ml(m:List String)(d:DV)(ds:List DV):pP (.jH m) (d::ds) K=K d:=rfl
theorem Oe(fs:List (Nat×Nat×Bool))(n:Nat)(ds:List DV):pP (.st fs n) ds K=(n≤ds.length∧K (.agg (ds.take n))):=rfl
theorem HL(k:TK)(ds:List DV):bN k S (.ip ds) K=pP k ds K:=rfl
theorem P6(e s b s':Nat)(f:Bool)(xs:List DV)(k:IntKind)(z:Int):aG (.sl e s b true) (.sl s' f xs) (.v (.int k z)) K=(s'=s∧0≤z∧z<xs.length∧Is xs z.toNat fun d=>K (.ip (cd d))):=rfl
theorem Kd(e s b bb o n c:Nat)(k:IntKind)(z:Int):aG (.sl e s b true) (.v (.slice (some ⟨bb,o,none⟩) n c)) (.v (.int k z)) K=(0≤z∧z<n∧K (.v (.pointer (some ⟨bb,o+z.toNat*s,none⟩)))):=rfl
theorem IT(len e s nn bb o:Nat)(a:Bool)(k:IntKind)(z:Int):aG (.ar len e s a nn) (.v (.pointer (some ⟨bb,o,none⟩))) (.v (.int k z)) K=(0<s∧0≤z∧z<len∧K (.v (.pointer (some ⟨bb,o+z.toNat*s,none⟩)))):=rfl
theorem GK(len e s nn:Nat)(a:Bool)(ds:List DV)(k:IntKind)(z:Int):aG (.ar len e s a nn) (.ip ds) (.v (.int k z)) K=(0<s∧0≤z∧z<len∧z.toNat*s≤ds.length∧K (.ip (ds.drop (z.toNat*s)))):=rfl
theorem L4(e s b l n:Nat)(k:IntKind)(z:Int):aG (.sl e s b true) (.acc l n) (.v (.int k z)) K=(0≤z∧z<n∧K (.ap l n s z.toNat 0)):=rfl
theorem LH(op:BinOp)(t:TK)(cx cy:Bool)(k k':IntKind)(m n:Int):rO op t cx cy (.v (.int k m)) (.v (.int k' n)) K=(sameKind op k k'=true∧nL op k m n K):=rfl
theorem ME(op:BinOp)(t:TK)(cx cy:Bool)(a b:ByteArray):rO op t cx cy (.v (.string a)) (.v (.string b)) K=jT op a b K:=rfl
theorem MK(cx cy a b:Bool):rO .neq .one cx cy (.v (.bool a)) (.v (.bool b)) K=K (.v (.bool (!(a==b)))):=rfl
theorem Ly(b:Bool):Gk .not (.v (.bool b)) K=K (.v (.bool (!b))):=rfl
theorem JE(k:IntKind)(n:Int):Gk .xor (.v (.int k n)) K=K (.v (.int k (fD .xor k (if k.signed then -1 else k.max) n))):=rfl
theorem KE(k0 k k1:IntKind)(n:Int):iM (.int k0) (.int k) (.v (.int k1 n)) K=K (.v (.int k (k.wrap n))):=rfl
theorem J0(a:Addr):notNil (.v (.pointer (some a)))=true:=rfl
theorem Ix(u:Value):mI S (.v u) K2=K2 (.v u) S:=rfl
theorem HP(s:Nat)(f:Bool)(xs:List DV):mI S (.sl s f xs) K2=K2 (.sl s f xs) S:=rfl
theorem AF(K3:List DV→St→Prop):mm S [] K3=K3 [] S:=rfl
theorem w9(d:DV)(ds:List DV)(K3:List DV→St→Prop):mm S (d::ds) K3=mI S d fun e S=>mm S ds fun es S=>K3 (e::es) S:=rfl
theorem O0(u:Value):shr S (.v u) K2=K2 (.v u) S:=rfl
theorem I5(s:Nat)(f:Bool)(xs:List DV):shr S (.sl s f xs) K2=K2 (.sl s f xs) S:=rfl
theorem Ge(t:TypeId)(d:DV):shr S (.jH t d) K2=K2 (.jH t d) S:=rfl
theorem Hp(l n:Nat):shr S (.acc l n) K2=mI S (.acc l n) K2:=rfl
theorem FL(ds:List DV):shr S (.agg ds) K2=mm S ds fun ds S=>K2 (.agg ds) S:=rfl
theorem Cl(K3:List DV→St→Prop):gp S [] K3=K3 [] S:=rfl
theorem Ap(d:DV)(ds:List DV)(K3:List DV→St→Prop):gp S (d::ds) K3=shr S d fun e S=>gp S ds fun es S=>K3 (e::es) S:=rfl
theorem LR(u:Value):oD S (.v u) K2=K2 (.v u) S:=rfl
theorem FX(s:Nat)(f:Bool)(xs:List DV):oD S (.sl s f xs) K2=K2 (.sl s f xs) S:=rfl
theorem Da(l n:Nat):oD S (.acc l n) K2=mI S (.acc l n) K2:=rfl
theorem Cu(ds:List DV):oD S (.agg ds) K2=mm S ds fun ds S=>K2 (.agg ds) S:=rfl
theorem Ej(ds:List DV):oD S (.bI ds) K2=gp S ds fun ds S=>K2 (.bI ds) S:=rfl
theorem Dn(z:Int)(K4:Int→Prop):lq none z K4=K4 z:=rfl
theorem Dc(k:IntKind)(n z:Int)(K4:Int→Prop):lq (some (.v (.int k n))) z K4=K4 n:=rfl
theorem Dq(e s b s':Nat)(f:Bool)(xs:List DV)(lo hi mx:Option DV):fu (.sl e s b true) (.sl s' f xs) lo hi mx K=((s'=s∨xs=[])∧lq lo 0 fun l=>lq hi xs.length fun h=>lq mx h fun m=>0≤l∧l≤h∧h≤m∧m≤xs.length∧
 K (.sl s (if mx.isSome then decide (m=h)else(f&&(hi.isNone||xs.isEmpty))) ((xs.take h.toNat).drop l.toNat))):=rfl
theorem zV(s:ByteArray)(lo hi mx:Option DV):fu .str (.v (.string s)) lo hi mx K=(mx.isNone=true∧lq lo 0 fun l=>lq hi s.size fun h=>0≤l∧l≤h∧h≤s.size∧K (.v (.string (s.extract l.toNat h.toNat)))):=rfl
theorem Mf(e s b:Nat)(i:Bool)(s':Nat)(f:Bool)(xs:List DV):oq (.sl e s b i) (.sl s' f xs) K=K (.v (.int .i64 xs.length)):=rfl
theorem Gm(e s b:Nat)(i:Bool)(l n:Nat):oq (.sl e s b i) (.acc l n) K=K (.v (.int .i64 n)):=rfl
theorem GG(s:ByteArray):oq .str (.v (.string s)) K=K (.v (.int .i64 s.size)):=rfl
theorem WB(k k':IntKind)(m n:Int):rH (.v (.int k m)) (.v (.int k' n)) K=K (.v (.int k (if n<m then n else m))):=rfl
theorem Wi(k k':IntKind)(m n:Int):rR (.v (.int k m)) (.v (.int k' n)) K=K (.v (.int k (if m<n then n else m))):=rfl
theorem Ak(k:TK)(s:Nat)(f:Bool)(xs:List DV)(lo hi mx:Option DV):ic k S (.sl s f xs) lo hi mx K2=fu k (.sl s f xs) lo hi mx (K2 · S):=rfl
theorem Cb(k:TK)(u:Value)(lo hi mx:Option DV):ic k S (.v u) lo hi mx K2=fu k (.v u) lo hi mx (K2 · S):=rfl
theorem yi(k:TK)(l n:Nat)(lo hi mx:Option DV):ic k S (.acc l n) lo hi mx K2=((lo.isNone=true∧mx.isNone=true∧UE n hi∧(∃e s b,k= .sl e s b true)∧wc S (.acc l n) (VZ hi) K2)∨jO k S (.acc l n) lo hi mx K2):=rfl
theorem WH(k:IntKind)(m:Nat)(n:Int):UE m (some (.v (.int k n)))=((n==0)=true∨(0≤n∧n≤m)):=rfl
theorem WT(k:IntKind)(n:Int):VZ (some (.v (.int k n)))=n.toNat:=rfl
theorem NI(m:Nat):UE m none=False:=rfl
theorem Dh(t:Nat):iE (.tmp t)=false:=rfl
theorem Ck(k:IntKind)(n:Int):iE (.const (.int k n))=false:=rfl
theorem BV(s:ByteArray):iE (.const (.string s))=false:=rfl
theorem D0:iE (.const (.slice none 0 0))=true:=rfl
theorem B7(e s b s':Nat)(i f:Bool)(xs:List DV):mQ .eql (.sl e s b i) (.sl s' f xs) K=∀b:Bool,(xs≠[]→b=false)→K (.v (.bool b)):=rfl
theorem Dg(e s b n c:Nat)(i:Bool)(p:Addr):mQ .eql (.sl e s b i) (.v (.slice (some p) n c)) K=K (.v (.bool false)):=rfl
theorem K1(e s b s':Nat)(z:DV)(k:IntKind)(n:Int):lK (.sl e s b true) z S (.sl s' true []) (.v (.int k n)) K2=(eI z=true∧0<n∧n*b≤140737488355328∧n≤9223372036854775807∧∀l,jj S.acc l→K2 (.acc l n.toNat) ⟨S.box,(l,.arr s (List.replicate n.toNat z))::S.acc⟩):=rfl
theorem D4(n:Nat)(u:Value)(y:DV)(K5:St→Prop):fG n S (.v u) y K5=n0 n S (.v u) y K5:=rfl
theorem A9(e s b:Nat)(z:DV)(k k':IntKind)(n m:Int):fN (.sl e s b true) z (.v (.int k n)) (.v (.int k' m)) S K2=(eI z=true∧0≤n∧n≤m∧m*b≤140737488355328∧m≤9223372036854775807∧∀l,jj S.acc l→K2 (.acc l n.toNat) ⟨S.box,(l,.arr s (List.replicate n.toNat z))::S.acc⟩):=rfl
theorem Wh(e s b:Nat)(i:Bool)(s':Nat)(xs:List DV):rG (.sl e s b i) (.sl s' true xs) K=K (.v (.int .i64 xs.length)):=rfl
theorem HX(s:Nat)(f:Bool)(xs:List DV)(K6:Nat→List DV→Prop):fS S (.sl s f xs) K6=K6 s xs:=rfl
theorem Cf(b o n c:Nat)(K6:Nat→List DV→Prop):fS S (.v (.slice (some ⟨b,o,none⟩) n c)) K6=oK (lk S.box b) fun ds=>o+n≤ds.length∧K6 1 ((ds.drop o).take n):=by
 cases h:lk S.box b <;>simp[fS,oK,h]
theorem Du(b:ByteArray)(K6:Nat→List DV→Prop):fS S (.v (.string b)) K6=K6 1 (b.data.toList.map fun c=> .v (.int .u8 c.toNat)):=rfl
theorem MF(e s b:Nat)(k2:TK)(x y:DV):lM (.sl e s b true) k2 S x y K2=(oA k2=true∧fS S y fun s2 ys=>(s2=s∨ys=[])∧u9 s b S x ys K2):=rfl
theorem Hr(s0 s by':Nat)(ys:List DV):u9 s by' S (.sl s0 true []) ys K2=(ys.length*by'≤140737488355328∧ys.length≤maxLen∧∀l,jj S.acc l→K2 (.acc l ys.length) ⟨S.box,(l,.arr s ys)::S.acc⟩):=rfl
theorem DE(s0 s by':Nat)(x:DV)(xs ys:List DV):u9 s by' S (.sl s0 true (x::xs)) ys K2=(s0=s∧((x::xs).length+ys.length)*by'≤140737488355328∧(x::xs).length+ys.length≤maxLen∧∀l,jj S.acc l→K2 (.acc l ((x::xs)++ys).length) ⟨S.box,(l,.tl s ((x::xs)++ys))::S.acc⟩):=rfl
theorem TG(f:FuncId)(a cap:Array Value)(ds:List DV):oS P w0 (.v (.func (.func f) a cap)) ds S K2=(cap.toList.all (fun u=>u.oneCell')=true∧H9 a (gX (okF P f) (iv S ds fun ds S=>@AC P w0 f (ds++cap.toList.map .v) S ⟨K2⟩) (@XC P w0 f (ds++cap.toList.map .v) S ⟨K2⟩)) fun us=>okF P f=true∧iv S ds fun ds S=>@AC P w0 f (us.map .v++(ds++cap.toList.map .v)) S ⟨K2⟩):=rfl
theorem GV(A:Prop)(B:List Value→Prop):H9 #[] A B=A:=rfl
theorem Hn(u:Value)(A:Prop)(B:List Value→Prop):H9 #[u] A B=(([u]:List Value).all (fun u=>u.oneCell')=true∧B [u]):=rfl
theorem Vc(t:TypeId)(name:String)(F:FuncId→DV→Prop):uy P (.jH t (.agg [])) name F=oK (rN P t name) fun f=>okF P f=true∧F f (.agg []):=by
 unfold uy
 cases h:rN P t name <;>simp only[oK,h]
theorem yB:iC []=false:=rfl
theorem xg(l n:Nat)(ds:List DV):iC (.acc l n::ds)=true:=rfl
theorem Cw(u:Value)(ds:List DV):iC (.v u::ds)=iC ds:=rfl
theorem Bj(s:Nat)(f:Bool)(xs ds:List DV):iC (.sl s f xs::ds)=iC ds:=rfl
theorem xD(xs ds:List DV):iC (.agg xs::ds)=iC ds:=rfl
theorem Ho(fr:List DV)(t:Nat):rB P fr S K (.tmp t)=K (fr.getD t ud):=rfl
theorem Dz(fr:List DV)(a t:Nat):rB P fr S K (.cell a t)=bN (tk P t) S (fr.getD a ud) K:=rfl
theorem D6(fr:List DV)(r:ResultVar):tK P fr S [r] K=rB P fr S K r:=rfl
theorem CM(fr:List DV):tK P fr S [] K=K (.bI []):=rfl
theorem Cm(fr:List DV)(r r':ResultVar)(rs:List ResultVar):tK P fr S (r::r'::rs) K=ue P fr S (r::r'::rs) fun ds=>K (.bI ds):=rfl
end
theorem wF{α:Type}(a:α)(F:α→Prop):oK (some a) F=F a:=rfl
def bK:Option Ob→(Nat→List DV→Prop)→(Nat→List DV→Prop)→Prop
 |some (.arr s xs),F,_=>F s xs
 |some (.tl s xs),_,G=>G s xs
 |_,_,_=>False
theorem Mu(s:Nat)(xs:List DV)(F G:Nat→List DV→Prop):bK (some (.arr s xs)) F G=F s xs:=rfl
theorem NM(s:Nat)(xs:List DV)(F G:Nat→List DV→Prop):bK (some (.tl s xs)) F G=G s xs:=rfl
def S5(p:Option (Nat×Nat×Bool))(x:DV)(K:DV→Prop):Prop:=match p with
 |some (off,sz,_)=>sz≠0∧(match x with
  | .v (.pointer (some ⟨b,o,none⟩))=>K (.v (.pointer (some ⟨b,o+off,none⟩)))
  | .ip ds=>off≤ds.length∧K (.ip (ds.drop off))
  | .ap l n s i o=>K (.ap l n s i (o+off))
  |_=>False)
 |none=>False
def Zb(p:Option (Nat×Nat×Bool))(ds:List DV)(K:DV→Prop):Prop:=match p with
 |some (off,sz,true)=>off+sz≤ds.length∧K (.agg ((ds.drop off).take sz))
 |some (off,sz,false)=>off+sz≤ds.length∧oK (ds[off]?) K
 |none=>False
def gD(t:Nat)(d:DV)(fr:List DV)(want:Bool)(A B:List DV→Prop):Prop:=match d with
 | .v (.bool b)=>(b=want→A (fr.set t (.v (.bool want))))∧(b=!want→B (fr.set t (.v (.bool !want))))
 | .bI []=>B fr
 |_=>False
def gK(t:Option Tmp)(fr:List DV)(want:Bool)(A B:List DV→Prop):Prop:=match t with
 |none=>B fr
 |some t=>gD t (fr.getD t ud) fr want A B
def WK(k:TK)(z:DV)(parts:List (Nat×DV))(K:DV→Prop):Prop:=match k,z with
 | .st fs _,.agg zs=>oK (kE fs zs parts) fun ds=>K (.agg ds)
 |_,_=>False
section
variable {P:Program} {w0:W0} (K:DV→Prop) (K2:DV→St→Prop) (S:St)
theorem B6(k:TK)(b o:Nat):bN k S (.v (.pointer (some ⟨b,o,none⟩))) K=oK (lk S.box b) fun ds=>pP k (ds.drop o) K:=by
 cases h:lk S.box b <;>simp[bN,oK,h]
theorem HT(k:TK)(l n s i o:Nat):bN k S (.ap l n s i o) K=bK (lk S.acc l) (fun s' xs=>xs.length=n∧s'=s∧FB xs i fun d=>pP k ((cd d).drop o) K) (fun s' xs=>xs.length=n∧s'=s∧FB xs i fun d=>pP k ((cd d).drop o) K):=by
 cases h:lk S.acc l with
 |none=>simp[bN,bK,h]
 |some o=>cases o <;>simp[bN,bK,h,FB]
theorem DY(n e s nn bb o:Nat)(a:Bool)(lo hi mx:Option DV):fu (.ar n e s a nn) (.v (.pointer (some ⟨bb,o,none⟩))) lo hi mx K=(0<s∧lq lo 0 fun l=>lq hi n fun h=>lq mx n fun m=>0≤l∧l≤h∧h≤m∧m≤n∧
 K (.v (.slice (some ⟨bb,if m.toNat=l.toNat then o else o+l.toNat*s,none⟩) (h.toNat-l.toNat) (m.toNat-l.toNat)))):=rfl
theorem Bl(e s b bb o n c:Nat)(lo hi mx:Option DV):fu (.sl e s b true) (.v (.slice (some ⟨bb,o,none⟩) n c)) lo hi mx K=lq lo 0 fun l=>lq hi n fun h=>lq mx c fun m=>0≤l∧l≤h∧h≤m∧m≤c∧
 K (.v (.slice (some ⟨bb,if m.toNat=l.toNat then o else o+l.toNat*s,none⟩) (h.toNat-l.toNat) (m.toNat-l.toNat))):=rfl
theorem Ic(e s b:Nat)(i:Bool)(a:Option Addr)(n c:Nat):oq (.sl e s b i) (.v (.slice a n c)) K=K (.v (.int .i64 n)):=rfl
theorem Hu(e s b:Nat)(i:Bool)(a:Option Addr)(n c:Nat):rG (.sl e s b i) (.v (.slice a n c)) K=K (.v (.int .i64 c)):=rfl
theorem Bo(a:Addr)(n c:Nat):s6 (.v (.slice (some a) n c))=true:=rfl
theorem BS(s:Nat)(f:Bool)(xs:List DV):s6 (.sl s f xs)=false:=rfl
theorem zC(l n:Nat):s6 (.acc l n)=false:=rfl
theorem DK(s b o m c:Nat)(F:Nat→List DV→Prop):pI S s (.v (.slice (some ⟨b,o,none⟩) m c)) F=oK (lk S.box b) fun es=>o+m*s≤es.length∧F m ((es.drop o).take (m*s)):=by
 cases h:lk S.box b <;>simp[pI,oK,h]
theorem F2(s s':Nat)(f:Bool)(ys:List DV)(F:Nat→List DV→Prop):pI S s (.sl s' f ys) F=((s'=s∨ys=[])∧(∀d,d∈ys→eI d=true)∧F ys.length (ys.flatMap cd)):=rfl
theorem TN(e s b bb o n c:Nat)(y:DV):oN (.sl e s b true) S (.v (.slice (some ⟨bb,o,none⟩) n c)) y K2=oK (lk S.box bb) fun ds=>o+n*s≤ds.length∧vG S s ds o bb n y K2:=by
 cases h:lk S.box bb with
 |none=>simp[oN,oK,h]
 |some ds=>
  simp only[oN,oK,h,vG]
  split
  ·rename_i b2 o2 m c2
   cases h2:lk S.box b2 <;>simp[oK]
  ·rfl
theorem Bw(s bb o n:Nat)(ds:List DV)(b2 o2 m c2:Nat):vG S s ds o bb n (.v (.slice (some ⟨b2,o2,none⟩) m c2)) K2=oK (lk S.box b2) fun es=>o2+m*s≤es.length∧K2 (.v (.int .i64 (min m n:Nat))) ⟨up S.box bb (cj ds o ((es.drop o2).take (min m n*s))),S.acc⟩:=rfl
theorem Ca(s bb o n:Nat)(ds:List DV)(s':Nat)(f:Bool)(ys:List DV):vG S s ds o bb n (.sl s' f ys) K2=((s'=s∨ys=[])∧(∀d,d∈ys→eI d=true)∧ys.length≤n∧K2 (.v (.int .i64 ys.length)) ⟨up S.box bb (cj ds o (ys.flatMap cd)),S.acc⟩):=rfl
theorem NS(e s b bb o n c:Nat)(z:DV):mG (.sl e s b true) z S (.v (.slice (some ⟨bb,o,none⟩) n c)) K2=oK (lk S.box bb) fun ds=>eI z=true∧o+n*s≤ds.length∧K2 ud ⟨up S.box bb (cj ds o (iL z n)),S.acc⟩:=by
 cases h:lk S.box bb <;>simp[mG,oK,h]
theorem SM(e s by' b o n c:Nat)(k2:TK)(y:DV):rz (.sl e s by' true) k2 S (.v (.slice (some ⟨b,o,none⟩) n c)) y K2=oK (lk S.box b) fun ds=>oA k2=true∧o+c*s≤ds.length∧n≤c∧pI S s y fun m cs=>
 (n+m≤c→K2 (.v (.slice (some ⟨b,o,none⟩) (n+m) c)) ⟨up S.box b (cj ds (o+n*s) cs),S.acc⟩)∧
 (c<n+m→(n+m)*by'≤140737488355328∧n+m≤maxLen∧∀C,n+m≤C→C≤maxLen→∀b2,jj S.box b2→
  K2 (.v (.slice (some ⟨b2,0,none⟩) (n+m) C)) ⟨(b2,(ds.drop o).take (n*s)++cs++List.replicate ((C-(n+m))*s) .any)::S.box,S.acc⟩):=by
 cases h:lk S.box b <;>simp[rz,oK,h]
theorem RA(e s by' b o n c:Nat)(k:IntKind)(m:Int)(z:DV):rm (.sl e s by' true) z S (.v (.slice (some ⟨b,o,none⟩) n c)) (.v (.int k m)) K2=oK (lk S.box b) fun ds=>eI z=true∧o+c*s≤ds.length∧n≤c∧0<m∧c<n+m.toNat∧(n+m.toNat)*by'≤140737488355328∧n+m.toNat≤maxLen∧∀C,n+m.toNat≤C→C≤maxLen→∀b2,jj S.box b2→
 K2 (.v (.slice (some ⟨b2,0,none⟩) (n+m.toNat) C)) ⟨(b2,(ds.drop o).take (n*s)++iL z m.toNat++List.replicate ((C-(n+m.toNat))*s) .any)::S.box,S.acc⟩:=by
 cases h:lk S.box b <;>simp[rm,oK,h]
theorem PT(fs:List (Nat×Nat×Bool))(n f:Nat)(x:DV):gY (.st fs n) f x K=S5 (fs[f]?) x K:=by
 cases h:fs[f]? <;>simp only[gY,S5,h] <;>cases x <;>rfl
theorem MS(off sz b o:Nat)(ag:Bool):S5 (some (off,sz,ag)) (.v (.pointer (some ⟨b,o,none⟩))) K=(sz≠0∧K (.v (.pointer (some ⟨b,o+off,none⟩)))):=rfl
theorem P9(off sz:Nat)(ag:Bool)(ds:List DV):S5 (some (off,sz,ag)) (.ip ds) K=(sz≠0∧off≤ds.length∧K (.ip (ds.drop off))):=rfl
theorem Pv(off sz l m s i o:Nat)(ag:Bool):S5 (some (off,sz,ag)) (.ap l m s i o) K=(sz≠0∧K (.ap l m s i (o+off))):=rfl
theorem Gq(i:Nat)(ds:List DV):dQ i (.bI ds) K=oK (ds[i]?) K:=by
 cases h:ds[i]? <;>simp[dQ,oK,h]
theorem DJ(l n:Nat):mI S (.acc l n) K2=bK (lk S.acc l) (fun s xs=>xs.length=n∧K2 (.sl s false xs) ⟨S.box,up S.acc l (.tl s xs)⟩) (fun s xs=>xs.length=n∧K2 (.sl s false xs) S):=by
 cases h:lk S.acc l with
 |none=>simp[mI,bK,h]
 |some o=>cases o <;>simp[mI,bK,h]
theorem Pp(n b o:Nat)(y:DV)(K5:St→Prop):n0 n S (.v (.pointer (some ⟨b,o,none⟩))) y K5=(eI y=true∧(cd y).length=n∧oK (lk S.box b) fun ds=>o+n≤ds.length∧K5 ⟨up S.box b (gE ds o (cd y)),S.acc⟩):=by
 cases h:lk S.box b <;>simp[n0,oK,h]
theorem yP(n l m s i o:Nat)(y:DV)(K5:St→Prop):fG n S (.ap l m s i o) y K5=(eI y=true∧(cd y).length=n∧bK (lk S.acc l) (fun s' xs=>s'=s∧xs.length=m∧o+n≤s∧FB xs i fun d=>oK (rp d o n s y) fun d'=>K5 ⟨S.box,up S.acc l (.arr s (xs.set i d'))⟩) (fun _ _=>False)):=by
 cases h:lk S.acc l with
 |none=>simp[fG,bK,h]
 |some o=>cases o with
  |tl s' xs=>simp[fG,bK,h]
  |xo f=>simp[fG,bK,h]
  |arr s' xs=>
   simp only[fG,bK,h,FB]
   refine propext (and_congr Iff.rfl (and_congr Iff.rfl (and_congr Iff.rfl (and_congr Iff.rfl (and_congr Iff.rfl (exists_congr fun d=>and_congr Iff.rfl (and_congr Iff.rfl ?_)))))))
   cases rp d o n s y with
   |none=>simp[oK]
   |some x=>simp[oK]
theorem Df(l n:Nat)(K6:Nat→List DV→Prop):fS S (.acc l n) K6=bK (lk S.acc l) (fun s xs=>xs.length=n∧K6 s xs) (fun s xs=>xs.length=n∧K6 s xs):=by
 cases h:lk S.acc l with
 |none=>simp[fS,bK,h]
 |some o=>cases o <;>simp[fS,bK,h]
theorem Ij(l n s by':Nat)(ys:List DV):u9 s by' S (.acc l n) ys K2=bK (lk S.acc l)
 (fun s' xs=>s'=s∧xs.length=n∧(xs.length+ys.length)*by'≤140737488355328∧xs.length+ys.length≤maxLen∧K2 (.acc l (xs++ys).length) ⟨S.box,up S.acc l (.arr s (xs++ys))⟩)
 (fun s' xs=>s'=s∧xs.length=n∧(xs.length+ys.length)*by'≤140737488355328∧xs.length+ys.length≤maxLen∧K2 (.acc l (xs++ys).length) ⟨S.box,up S.acc l (.tl s (xs++ys))⟩):=by
 cases h:lk S.acc l with
 |none=>simp[u9,bK,h]
 |some o=>cases o <;>simp[u9,bK,h]
theorem wW(ops:Array Oper)(fr:List DV)(j:Nat)(want:Bool)(A B:List DV→Prop):bZ ops fr (some (j,want)) A B=gK ((ops[j]?).bind (·.dst)) fr want A B:=by
 cases h:(ops[j]?).bind (·.dst) <;>simp only[bZ,gK,h] <;>rfl
theorem HO(t:Nat)(fr:List DV)(want:Bool)(A B:List DV→Prop):gK (some t) fr want A B=gD t (fr.getD t ud) fr want A B:=rfl
theorem O1(t:Nat)(fr:List DV)(want:Bool)(A B:List DV→Prop):gD t ud fr want A B=B fr:=rfl
theorem Ur(fn:Fn)(a b:List DV):mB fn a b K=oK (fw a) fun us=>oK (fw b) fun vs=>K (.v (.func fn us.toArray vs.toArray)):=by
 cases h:fw a <;>cases h':fw b <;>simp[mB,oK,h,h']
theorem NT(t:TypeId)(parts:List (Nat×DV)):gF P t parts K=WK (tk P t) (zD P t) parts K:=by
 cases h:tk P t <;>cases h':zD P t <;>simp only[gF,WK,h,h'] <;>(rename_i fs _ zs;cases h2:kE fs zs parts <;>simp[oK])
theorem XI(fs:List (Nat×Nat×Bool))(n:Nat)(zs:List DV)(parts:List (Nat×DV)):WK (.st fs n) (.agg zs) parts K=oK (kE fs zs parts) fun ds=>K (.agg ds):=rfl
theorem Wx(e s b len:Nat)(z:DV)(parts:List (Nat×DV)):aP (.sl e s b true) z len parts K=(eI z=true∧(cd z).length=s∧len*s≤16777216∧oK (nI s (List.replicate len z) parts) fun xs=>K (.sl s true xs)):=by
 cases h:nI s (List.replicate len z) parts <;>simp[aP,oK,h]
end
end Aml
namespace Aml
open Go Go.RowKit
def QY(P:Program)(w0:W0)(S:St)(o:Oper)(fr:List DV)(d:DV):Prop:=ak P w0 o (ev fr) S fun d' S'=>d'=d∧S'=S
def dp(ops:Array Oper)(fr:List DV)(gd:Option (Nat×Bool)):Option Bool:=match gd with
 |none=>some true
 |some (j,want)=>match(ops[j]?).bind (·.dst)with
  |none=>some false
  |some t=>match fr.getD t ud with
   | .v (.bool b)=>some (b==want)
   | .bI []=>some false
   |_=>none
def LQ(P:Program)(w0:W0)(S:St)(ops:Array Oper)(K:List DV→Prop):List Oper→List DV→Prop
 |[],fr=>K fr
 |o::rest,fr=>bZ ops fr o.guard (fun fr=>∃d,QY P w0 S o fr d∧LQ P w0 S ops K rest (pt fr o.dst d)) (fun fr=>LQ P w0 S ops K rest (pt fr o.dst ud))
def qOp(P:Program)(w0:W0)(S:St)(ops:Array Oper)(i:Nat)(K:List DV→Prop)(fr:List DV):Prop:=
 match ops[i]? with
 |none=>K fr
 |some o=>(dp ops fr o.guard=some true∧∃d,QY P w0 S o fr d∧K (pt fr o.dst d))∨(dp ops fr o.guard=some false∧K (pt fr o.dst ud))
def qX(P:Program)(w0:W0)(S:St)(md:Region.Mode)(ops:Array Oper)(K:List DV→Prop):Nat→Array Bool→List DV→Prop
 |0,listed,fr=>Region.ready md ops listed=[]∧K fr
 |fuel+1,listed,fr=>(Region.ready md ops listed=[]→K fr)∧∀i∈Region.ready md ops listed,qOp P w0 S ops i (qX P w0 S md ops K fuel (listed.setIfInBounds i true)) fr
def YD(P:Program)(w0:W0)(S:St)(ops:Array Oper)(o:Oper)(d:DV)(fr:List DV):Prop:=
 (dp ops fr o.guard=some true∧QY P w0 S o fr d)∨(dp ops fr o.guard=some false∧d=ud)
section
variable {P:Program} {w0:W0} {S:St} {ops:Array Oper} {md:Region.Mode}
theorem y8{fr:List DV}{t:Nat}{d:DV}(h:fr.getD t ud=d)(hd:d≠ud):fr.set t d=fr:=by
 rcases Nat.lt_or_ge t fr.length with hl|hl
 ·rw[List.getD_eq_getElem?_getD,List.getElem?_eq_getElem hl,Option.getD_some]at h
  rw[←h,List.set_getElem_self]
 ·rw[List.getD_eq_getElem?_getD,List.getElem?_eq_none hl]at h
  exact absurd h.symm hd
theorem jW{fr:List DV}{gd:Option (Nat×Bool)}{A B:List DV→Prop}(h:bZ ops fr gd A B):(dp ops fr gd=some true∧A fr)∨(dp ops fr gd=some false∧B fr):=by
 unfold bZ at h
 unfold dp
 split at h
 ·exact .inl ⟨rfl,h⟩
 ·rename_i j want
  split at h
  ·rename_i hj
   exact .inr ⟨by simp only[hj],h⟩
  ·rename_i t hj
   simp only[hj]
   split at h
   ·rename_i b hb
    rw[hb]
    by_cases hw:b=want
    ·have:=h.1 hw
     rw[←hw,y8 hb (by simp[ud])]at this
     exact .inl ⟨by simp[hw],this⟩
    ·have hw':b=!want:=by cases b <;>cases want <;>simp_all
     have:=h.2 hw'
     rw[←hw',y8 hb (by simp[ud])]at this
     exact .inr ⟨by simp[hw],this⟩
   ·rename_i hb
    rw[hb]
    exact .inr ⟨rfl,h⟩
   ·exact h.elim
theorem BX{fr:List DV}{gd:Option (Nat×Bool)}{x:Bool}(h:dp ops fr gd=some x):bZ ops fr gd (fun _=>x=true) (fun _=>x=false):=by
 unfold dp at h
 unfold bZ
 split at h
 ·simpa using h.symm
 ·rename_i j want
  split at h
  ·rename_i hj;simp only[hj];simpa using h.symm
  ·rename_i t hj
   simp only[hj]
   split at h
   ·rename_i b hb
    rw[hb]
    simp only[Option.some.injEq]at h
    exact⟨fun e=>by simp[←h,e],fun e=>by simp[←h,e]⟩
   ·rename_i hb;rw[hb];simpa using h.symm
   ·cases h
theorem eu{g:Gh}{fr:List DV}{a:Act}{o:Oper}{x:Bool}(hr:ai g fr a.tmps.toList)(h:dp ops fr o.guard=some x):Region.wanted o (yielded ops a.tmps)=x:=by
 rcases mw (o:=o) hr (BX h)with⟨h1,_,_,h2⟩|⟨h1,_,_,h2⟩
 ·rw[h1,h2]
 ·rw[h1,h2]
theorem qOp_mono{i:Nat}{fr:List DV}{K K':List DV→Prop}(h:∀fr,K fr→K' fr)(hh:qOp P w0 S ops i K fr):qOp P w0 S ops i K' fr:=by
 unfold qOp at*
 split
 ·rename_i ho;simp only[ho]at hh;exact h _ hh
 ·rename_i o ho
  simp only[ho]at hh
  rcases hh with⟨h1,d,h2,h3⟩|⟨h1,h2⟩
  ·exact .inl ⟨h1,d,h2,h _ h3⟩
  ·exact .inr ⟨h1,h _ h2⟩
theorem YD.qOp{i:Nat}{o:Oper}{d:DV}{fr:List DV}(hi:ops[i]? =some o)(hy:YD P w0 S ops o d fr){K:List DV→Prop}(h:K (pt fr o.dst d)):qOp P w0 S ops i K fr:=by
 unfold Aml.qOp
 simp only[hi]
 rcases hy with⟨h1,h2⟩|⟨h1,rfl⟩
 ·exact .inl ⟨h1,d,h2,h⟩
 ·exact .inr ⟨h1,h⟩
theorem He{i:Nat}{o:Oper}{fr:List DV}{K:List DV→Prop}(hi:ops[i]? =some o)(h:qOp P w0 S ops i K fr):∃d,YD P w0 S ops o d fr∧K (pt fr o.dst d):=by
 unfold qOp at h
 simp only[hi]at h
 rcases h with⟨h1,d,h2,h3⟩|⟨h1,h2⟩
 ·exact⟨d,.inl ⟨h1,h2⟩,h3⟩
 ·exact⟨ud,.inr ⟨h1,rfl⟩,h2⟩
theorem aN{o:Oper}{ρD ρD':Operand→DV}{K:DV→St→Prop}(h:∀x,x∈o.op.operands.toList→ρD x=ρD' x)(hy:ak P w0 o ρD S K):ak P w0 o ρD' S K:=
 fun g w ρ h1 h2 h3=>hy g w ρ h1 (fun x hx=>by rw[h x hx];exact h2 x hx) h3
theorem zr{fr:List DV}{t t':Nat}{d:DV}(h:t≠t'):(fr.set t d).getD t' ud=fr.getD t' ud:=by
 simp only[List.getD_eq_getElem?_getD,List.getElem?_set,if_neg h]
theorem eY{fr:List DV}{dst:Option Tmp}{d:DV}{o:Oper}(h:∀t,dst=some t→t∉o.looksAt ops):∀x,x∈o.op.operands.toList→ev (pt fr dst d) x=ev fr x:=by
 intro x hx
 cases dst with
 |none=>rfl
 |some t=>
  cases x with
  |tmp t'=>
   have:t≠t':=by
    rintro rfl
    exact h t rfl (List.mem_append_left _ (List.mem_filterMap.2 ⟨.tmp t,hx,rfl⟩))
   exact zr this
  |_=>rfl
theorem im{fr:List DV}{dst:Option Tmp}{d:DV}{o:Oper}(h:∀t,dst=some t→t∉o.looksAt ops):dp ops (pt fr dst d) o.guard=dp ops fr o.guard:=by
 cases dst with
 |none=>rfl
 |some t=>
  unfold dp
  cases hg:o.guard with
  |none=>rfl
  |some gw=>
   obtain⟨j,want⟩:=gw
   simp only
   cases ht:(ops[j]?).bind (·.dst)with
   |none=>rfl
   |some t'=>
    have hne:t≠t':=fun e=>h t rfl (by subst e;simp[Oper.looksAt,hg,ht])
    simp only[pt]
    rw[zr hne]
theorem jY(fr:List DV){x y:Option Tmp}(d e:DV)(h:∀t,x=some t→y≠some t):pt (pt fr x d) y e=pt (pt fr y e) x d:=by
 cases x with
 |none=>rfl
 |some t=>
  cases y with
  |none=>rfl
  |some u=>
   have hne:t≠u:=fun he=>h t rfl (he▸rfl)
   simp only[pt]
   exact List.set_comm _ _ hne
theorem YD.put{o:Oper}{d:DV}{fr:List DV}(hy:YD P w0 S ops o d fr){dst:Option Tmp}{e:DV}(h:∀t,dst=some t→t∉o.looksAt ops):YD P w0 S ops o d (pt fr dst e):=by
 unfold YD at*
 rw[im h]
 exact hy.imp (fun⟨a,b⟩=>⟨a,aN (fun x hx=>(eY (ops:=ops) h x hx).symm) b⟩) id
theorem qOp_put{j:Nat}{oi oj:Oper}{d:DV}(hj:ops[j]? =some oj)(hap:oi.apart ops oj=true){K:List DV→Prop}{fr:List DV}(hy:YD P w0 S ops oi d fr)(h:qOp P w0 S ops j K (pt fr oi.dst d)):
 qOp P w0 S ops j (fun fr'=>YD P w0 S ops oi d fr'∧K (pt fr' oi.dst d)) fr:=by
 obtain⟨h1,h2,h3⟩:=Oper.apart_spec hap
 unfold Aml.qOp at*
 simp only[hj]at*
 rw[im h1]at h
 rcases h with⟨hw,e,hq,hk⟩|⟨hw,hk⟩
 ·exact .inl ⟨hw,e,aN (fun x hx=>eY (ops:=ops) h1 x hx) hq,hy.put h3,by rw[←jY fr d e h2];exact hk⟩
 ·exact .inr ⟨hw,hy.put h3,by rw[←jY fr d ud h2];exact hk⟩
theorem yD{K:List DV→Prop}{i:Nat}{oi:Oper}{d:DV}(hi:ops[i]? =some oi):
 ∀(fuel:Nat) (listed:Array Bool) (fr:List DV),
  (∀j oj,ops[j]? =some oj→j≠i→listed.getD j true=false→(∀e∈oj.after,Region.binds md e=true→e.on≠i)→oi.apart ops oj=true)→
  i∈Region.ready md ops listed→YD P w0 S ops oi d fr→
  qX P w0 S md ops K fuel (listed.setIfInBounds i true) (pt fr oi.dst d)→qX P w0 S md ops K (fuel+1) listed fr:=by
 intro fuel
 induction fuel with
 |zero=>
  intro listed fr _ hr hy H
  refine⟨fun h=>(by rw[h]at hr;cases hr),fun j hj=>?_⟩
  by_cases hji:j=i
  ·subst hji;exact hy.qOp hi H
  ·have:=ready_mono hj hji
   rw[H.1]at this
   cases this
 |succ fuel ih=>
  intro listed fr hfree hr hy H
  refine⟨fun h=>(by rw[h]at hr;cases hr),fun j hj=>?_⟩
  by_cases hji:j=i
  ·subst hji;exact hy.qOp hi H
  ·have h1:=H.2 j (ready_mono hj hji)
   obtain⟨hjun,oj,hoj,hall⟩:=mem_ready.1 hj
   have hnot:∀e∈oj.after,Region.binds md e=true→e.on≠i:=fun e he hb heq=>by
    have h1:=hall e he hb
    have h0:=(mem_ready.1 hr).1
    rw[heq]at h1
    rcases Nat.lt_or_ge i listed.size with h'|h'
    ·simp[h']at h0 h1;rw[h0]at h1;cases h1
    ·simp[Array.getElem?_eq_none h']at h1
   have h2:=qOp_put hoj (hfree j oj hoj hji hjun hnot) hy h1
   have hfree':∀k ok,ops[k]? =some ok→k≠i→(listed.setIfInBounds j true).getD k true=false→
    (∀e∈ok.after,Region.binds md e=true→e.on≠i)→oi.apart ops ok=true:=fun k ok hk hki hun hno=>by
    refine hfree k ok hk hki ?_ hno
    by_cases hjk:j=k
    ·subst hjk;exact hjun
    ·rw[getD_set_ne true hjk]at hun;exact hun
   refine qOp_mono (fun fr' h3=>ih (listed.setIfInBounds j true) fr' hfree' (ready_mono hr (Ne.symm hji)) h3.1 ?_) h2
   rw[Array.setIfInBounds_comm _ _ hji]
   exact h3.2
theorem tZ{K:List DV→Prop}:∀(l:List Oper) (k:Nat) (listed:Array Bool) (fr:List DV),(∀j,l[j]? =ops[k+j]?)→
 Region.lexFrom md ops l.length k listed=true→LQ P w0 S ops K l fr→qX P w0 S md ops K l.length listed fr
 |[],_,_,_,_,hB,h=>⟨by simpa[Region.lexFrom]using hB,h⟩
 |o::l,k,listed,fr,hl,hB,h=>by
  have h0:ops[k]? =some o:=by simpa using(hl 0).symm
  simp only[List.length_cons,Region.lexFrom,Bool.and_eq_true]at hB
  obtain⟨⟨hr,hf⟩,hB'⟩:=hB
  have hst:qOp P w0 S ops k (LQ P w0 S ops K l) fr:=by
   unfold qOp
   simp only[h0]
   exact jW h
  obtain⟨d,hy,hK⟩:=He h0 hst
  exact yD h0 l.length listed fr (Region.free_spec h0 hf) (by simpa using hr) hy
   (tZ l (k+1) _ _ (fun j=>by have:=hl (j+1);simpa[Nat.add_assoc,Nat.add_comm 1 j]using this) hB' hK)
end
end Aml
namespace Aml
open Go Go.RowKit
section
variable {P:Program} {w0:W0} {S:St} {K:DV→Prop}
theorem tJ{c a b:DV}(h:jh c a b K):∃d,jh c a b (·=d)∧K d:=by
 unfold jh at*
 split at h
 ·rename_i t
  cases t
  ·exact⟨b,⟨by simp,fun _=>rfl⟩,h.2 rfl⟩
  ·exact⟨a,⟨fun _=>rfl,by simp⟩,h.1 rfl⟩
 ·exact h.elim
theorem SA{ds:List DV}(h:RK ds K):∃d,RK ds (·=d)∧K d:=by
 unfold RK at*
 split at h
 ·exact⟨_,rfl,h⟩
 ·exact h.elim
theorem xv{k:TK}{ds:List DV}(h:pP k ds K):∃d,pP k ds (·=d)∧K d:=by
 unfold pP at*
 split at h
 ·exact⟨_,⟨h.1,rfl⟩,h.2⟩
 ·exact⟨_,⟨h.1,rfl⟩,h.2⟩
 ·exact h.elim
 ·exact SA h
theorem o6{k:TK}{x:DV}(h:bN k S x K):∃d,bN k S x (·=d)∧K d:=by
 unfold bN at*
 split at h
 ·split at h
  ·rename_i hb;(try simp only[hb]);exact xv h
  ·exact h.elim
 ·exact xv h
 ·split at h
  ·rename_i hb
   obtain⟨h1,h2,d,h3,h4,h5⟩:=h
   obtain⟨e,q1,q2⟩:=xv h5
   exact⟨e,by first|exact⟨h1,h2,d,h3,h4,q1⟩|(simp only[hb];exact⟨h1,h2,d,h3,h4,q1⟩),q2⟩
  ·rename_i hb
   obtain⟨h1,h2,d,h3,h4,h5⟩:=h
   obtain⟨e,q1,q2⟩:=xv h5
   exact⟨e,by first|exact⟨h1,h2,d,h3,h4,q1⟩|(simp only[hb];exact⟨h1,h2,d,h3,h4,q1⟩),q2⟩
  ·exact h.elim
 ·exact h.elim
theorem qE{k:TK}{f:Nat}{x:DV}(h:gY k f x K):∃d,gY k f x (·=d)∧K d:=by
 unfold gY at*
 split at h
 ·split at h
  ·rename_i hf
   try simp only[hf]
   obtain⟨h1,h⟩:=h
   split at h
   ·exact⟨_,⟨h1,rfl⟩,h⟩
   ·exact⟨_,⟨h1,h.1,rfl⟩,h.2⟩
   ·exact⟨_,⟨h1,rfl⟩,h⟩
   ·exact h.elim
  ·exact h.elim
 ·exact h.elim
theorem cU{k:TK}{x i:DV}(h:aG k x i K):∃d,aG k x i (·=d)∧K d:=by
 unfold aG at*
 split at h
 ·split at h
  ·obtain⟨h1,h2,h3,h4⟩:=h
   rename_i z _ _ _ xs
   have hlt:z.toNat<xs.length:=by omega
   obtain⟨h5,h6⟩:=h4 _ (List.getElem?_eq_getElem hlt)
   exact⟨_,⟨h1,h2,h3,fun d hd=>by rw[List.getElem?_eq_getElem hlt]at hd;cases hd;exact⟨h5,rfl⟩⟩,h6⟩
  ·exact⟨_,⟨h.1,h.2.1,rfl⟩,h.2.2⟩
  ·exact⟨_,⟨h.1,h.2.1,rfl⟩,h.2.2⟩
  ·exact h.elim
 ·obtain⟨h1,h2,h3,h4⟩:=h
  split at h4
  ·exact⟨_,⟨h1,h2,h3,rfl⟩,h4⟩
  ·exact⟨_,⟨h1,h2,h3,h4.1,rfl⟩,h4.2⟩
  ·exact h4.elim
 ·exact h.elim
theorem EL{w0:W0}{fr:List DV}{x:Operand}{k:TK}{i:DV}(h:Hb w0 fr x fun d=>aG k d i K):∃d,(Hb w0 fr x fun d'=>aG k d' i (·=d))∧K d:=by
 cases x with
 |global b=>
  obtain⟨us,hg,h⟩:=h
  obtain⟨d,q1,q2⟩:=cU h
  exact⟨d,⟨us,hg,q1⟩,q2⟩
 |tmp n=>exact cU (x:=ev fr (.tmp n)) h
 |const u=>exact cU (x:=ev fr (.const u)) h
 |func f=>exact cU (x:=ev fr (.func f)) h
theorem qj{k:TK}{x i:DV}(h:lP k x i K):∃d,lP k x i (·=d)∧K d:=by
 unfold lP at*
 split at h
 ·obtain⟨h1,h2,h3⟩:=h
  rename_i s _ z
  have hlt:z.toNat<s.data.toList.length:=by simp;have:s.data.size=s.size:=rfl;omega
  exact⟨_,⟨h1,h2,fun d hd=>by rw[List.getElem?_eq_getElem hlt]at hd;cases hd;rfl⟩,h3 _ (List.getElem?_eq_getElem hlt)⟩
 ·exact h.elim
theorem oG{k:TK}{f:Nat}{x:DV}(h:iN k f x K):∃d,iN k f x (·=d)∧K d:=by
 unfold iN at*
 split at h
 ·split at h
  ·rename_i hf
   try simp only[hf]
   split at h
   ·obtain⟨h1,h⟩:=h
    split at h
    ·exact⟨_,⟨h1,rfl⟩,h⟩
    ·split at h
     ·rename_i hd;(try simp only[hd]);exact⟨_,⟨h1,rfl⟩,h⟩
     ·exact h.elim
   ·exact h.elim
  ·exact h.elim
 ·exact h.elim
theorem mg{i:Nat}{x:DV}(h:dQ i x K):∃d,dQ i x (·=d)∧K d:=by
 unfold dQ at*
 split at h
 ·split at h
  ·rename_i hd;(try simp only[hd]);exact⟨_,rfl,h⟩
  ·exact h.elim
 ·exact h.elim
theorem Mo{op:BinOp}{k:IntKind}{m n:Int}(h:nL op k m n K):∃d,nL op k m n (·=d)∧K d:=by
 cases op <;>simp only[nL]at h ⊢ <;>first|exact⟨_,rfl,h⟩|exact⟨_,⟨h.1,rfl⟩,h.2⟩
theorem Kz{op:BinOp}{x y:ByteArray}(h:jT op x y K):∃d,jT op x y (·=d)∧K d:=by
 cases op <;>simp only[jT]at h ⊢ <;>first|exact⟨_,rfl,h⟩|exact⟨_,⟨h.1,rfl⟩,h.2⟩
theorem Qz{op:BinOp}{t:TK}{cx cy:Bool}{x y:DV}(h:rO op t cx cy x y K):∃d,rO op t cx cy x y (·=d)∧K d:=by
 unfold rO at*
 split at h
 ·obtain⟨d,q1,q2⟩:=Mo h.2
  exact⟨d,⟨h.1,q1⟩,q2⟩
 ·exact Kz h
 ·split at h <;>first|exact⟨_,rfl,h⟩|exact h.elim
 ·split at h <;>first|exact⟨_,⟨h.1,rfl⟩,h.2⟩|exact h.elim
 ·split at h <;>first|exact⟨_,rfl,h⟩|exact h.elim
 ·split at h <;>first|exact⟨_,rfl,h⟩|exact h.elim
 ·split at h <;>first|exact⟨_,⟨h.1,rfl⟩,h.2⟩|exact h.elim
 ·exact h.elim
theorem tW{op:BinOp}{t:TypeId}{cx cy:Bool}{x y:DV}(h:lh P op t cx cy x y K):∃d,lh P op t cx cy x y (·=d)∧K d:=by
 unfold lh at*
 split at h
 ·unfold nX at*
  split at h
  ·rename_i he
   obtain⟨q,q1,q2⟩:=mq h
   exact⟨_,iX (fun r e=>by rw[e]) q1,q2⟩
  ·rename_i he
   obtain⟨q,q1,q2⟩:=mq h
   exact⟨_,iX (fun r e=>by rw[e]) q1,q2⟩
  ·exact h.elim
 ·exact Qz h
theorem B9{op:UnOp}{x:DV}(h:Gk op x K):∃d,Gk op x (·=d)∧K d:=by
 unfold Gk at*
 split at h <;>first|exact⟨_,rfl,h⟩|exact h.elim
theorem th{a b:TK}{x:DV}(h:iM a b x K):∃d,iM a b x (·=d)∧K d:=by
 unfold iM at*
 split at h <;>first|exact⟨_,rfl,h⟩|exact h.elim
theorem s7{fn:Fn}{a b:List DV}(h:mB fn a b K):∃d,mB fn a b (·=d)∧K d:=by
 unfold mB at*
 split at h <;>first|exact⟨_,rfl,h⟩|exact h.elim
theorem gm{x:Option DV}{z:Int}{F:(DV→Prop)→Int→Prop}(hF:∀n,F K n→∃d,F (·=d) n∧K d)(h:lq x z (F K)):∃d,lq x z (F (·=d))∧K d:=by
 unfold lq at*
 split at h <;>first|exact hF _ h|exact h.elim
theorem p7{k:TK}{x:DV}{lo hi mx:Option DV}(h:fu k x lo hi mx K):∃d,fu k x lo hi mx (·=d)∧K d:=by
 unfold fu at*
 split at h
 ·obtain⟨h1,h⟩:=h
  rename_i e s b s' f xs
  obtain⟨d,q1,q2⟩:=gm (F:=fun K l=>lq hi xs.length fun h=>lq mx h fun m=>0≤l∧l≤h∧h≤m∧m≤xs.length∧
   K (.sl s (if mx.isSome then decide (m=h)else(f&&(hi.isNone||xs.isEmpty))) ((xs.take h.toNat).drop l.toNat))) (fun l h=>gm (F:=fun K h=>lq mx h fun m=>0≤l∧l≤h∧h≤m∧m≤xs.length∧
   K (.sl s (if mx.isSome then decide (m=h)else(f&&(hi.isNone||xs.isEmpty))) ((xs.take h.toNat).drop l.toNat))) (fun hh h=>gm (F:=fun K m=>0≤l∧l≤hh∧hh≤m∧m≤xs.length∧
   K (.sl s (if mx.isSome then decide (m=hh)else(f&&(hi.isNone||xs.isEmpty))) ((xs.take hh.toNat).drop l.toNat))) (fun m h=>⟨_,⟨h.1,h.2.1,h.2.2.1,h.2.2.2.1,rfl⟩,h.2.2.2.2⟩) h) h) h
  exact⟨d,⟨h1,q1⟩,q2⟩
 ·obtain⟨h1,h⟩:=h
  rename_i s
  obtain⟨d,q1,q2⟩:=gm (F:=fun K l=>lq hi s.size fun h=>0≤l∧l≤h∧h≤s.size∧K (.v (.string (s.extract l.toNat h.toNat)))) (fun l h=>gm (F:=fun K h=>0≤l∧l≤h∧h≤s.size∧K (.v (.string (s.extract l.toNat h.toNat))))
   (fun hh h=>⟨_,⟨h.1,h.2.1,h.2.2.1,rfl⟩,h.2.2.2⟩) h) h
  exact⟨d,⟨h1,q1⟩,q2⟩
 ·rename_i e s by' b o n c
  exact gm (F:=fun K l=>lq hi n fun h=>lq mx c fun m=>0≤l∧l≤h∧h≤m∧m≤c∧
   K (.v (.slice (some ⟨b,if m.toNat=l.toNat then o else o+l.toNat*s,none⟩) (h.toNat-l.toNat) (m.toNat-l.toNat)))) (fun l h=>gm (F:=fun K h=>lq mx c fun m=>0≤l∧l≤h∧h≤m∧m≤c∧
   K (.v (.slice (some ⟨b,if m.toNat=l.toNat then o else o+l.toNat*s,none⟩) (h.toNat-l.toNat) (m.toNat-l.toNat)))) (fun hh h=>gm (F:=fun K m=>0≤l∧l≤hh∧hh≤m∧m≤c∧
   K (.v (.slice (some ⟨b,if m.toNat=l.toNat then o else o+l.toNat*s,none⟩) (hh.toNat-l.toNat) (m.toNat-l.toNat)))) (fun m h=>⟨_,⟨h.1,h.2.1,h.2.2.1,h.2.2.2.1,rfl⟩,h.2.2.2.2⟩) h) h) h
 ·obtain⟨h1,h⟩:=h
  rename_i n e s ag nn b o
  obtain⟨d,q1,q2⟩:=gm (F:=fun K l=>lq hi n fun h=>lq mx n fun m=>0≤l∧l≤h∧h≤m∧m≤n∧
   K (.v (.slice (some ⟨b,if m.toNat=l.toNat then o else o+l.toNat*s,none⟩) (h.toNat-l.toNat) (m.toNat-l.toNat)))) (fun l h=>gm (F:=fun K h=>lq mx n fun m=>0≤l∧l≤h∧h≤m∧m≤n∧
   K (.v (.slice (some ⟨b,if m.toNat=l.toNat then o else o+l.toNat*s,none⟩) (h.toNat-l.toNat) (m.toNat-l.toNat)))) (fun hh h=>gm (F:=fun K m=>0≤l∧l≤hh∧hh≤m∧m≤n∧
   K (.v (.slice (some ⟨b,if m.toNat=l.toNat then o else o+l.toNat*s,none⟩) (hh.toNat-l.toNat) (m.toNat-l.toNat)))) (fun m h=>⟨_,⟨h.1,h.2.1,h.2.2.1,h.2.2.2.1,rfl⟩,h.2.2.2.2⟩) h) h) h
  exact⟨d,⟨h1,q1⟩,q2⟩
 ·exact h.elim
theorem xj{k:TK}{x:DV}(h:oq k x K):∃d,oq k x (·=d)∧K d:=by
 unfold oq at*
 split at h <;>first|exact⟨_,rfl,h⟩|exact h.elim
theorem wZ{k:TK}{x:DV}(h:rG k x K):∃d,rG k x (·=d)∧K d:=by
 unfold rG at*
 split at h <;>first|exact⟨_,rfl,h⟩|exact h.elim
theorem xX{x y:DV}(h:rH x y K):∃d,rH x y (·=d)∧K d:=by
 unfold rH at*
 split at h <;>first|exact⟨_,rfl,h⟩|exact h.elim
theorem yy{x y:DV}(h:rR x y K):∃d,rR x y (·=d)∧K d:=by
 unfold rR at*
 split at h <;>first|exact⟨_,rfl,h⟩|exact h.elim
theorem qM{t:TypeId}{parts:List (Nat×DV)}(h:gF P t parts K):∃d,gF P t parts (·=d)∧K d:=by
 unfold gF at*
 split at h
 ·split at h
  ·rename_i hf;(try simp only[hf]);exact⟨_,rfl,h⟩
  ·exact h.elim
 ·exact h.elim
theorem ji{k:TK}{z:DV}{len:Nat}{parts:List (Nat×DV)}(h:aP k z len parts K):∃d,aP k z len parts (·=d)∧K d:=by
 unfold aP at*
 split at h
 ·obtain⟨h1,h2,h3,h⟩:=h
  split at h
  ·rename_i hf;(try simp only[hf]);exact⟨_,⟨h1,h2,h3,rfl⟩,h⟩
  ·exact h.elim
 ·exact h.elim
def vj:DV→Bool
 | .acc _ _=>false
 |_=>true
def gn:DV→Bool
 | .agg ds=>ds.all vj
 |d=>vj d
theorem Fa{K:DV→St→Prop}{d:DV}(hd:vj d=true)(h:K d S):mI S d K:=by
 cases d <;>first|(cases hd;done)|exact h
theorem Ia{K:DV→St→Prop}{k:TK}{x:DV}{lo hi mx:Option DV}(hx:vj x=true)(h:jO k S x lo hi mx K):ic k S x lo hi mx K:=by
 cases x <;>first|(cases hx;done)|exact h
theorem zE:∀{ds:List DV} {K:List DV→St→Prop},ds.all vj=true→K ds S→mm S ds K
 |[],K,_,h=>h
 |d::ds,K,hd,h=>by
  simp only[List.all_cons,Bool.and_eq_true]at hd
  exact Fa hd.1 (zE hd.2 h)
theorem IW{K:DV→St→Prop}{d:DV}(hd:gn d=true)(h:K d S):shr S d K:=by
 cases d with
 |agg ds=>exact zE hd h
 |acc l n=>cases hd
 |_=>exact h
theorem sx:∀{ds:List DV} {K:List DV→St→Prop},ds.all gn=true→K ds S→gp S ds K
 |[],K,_,h=>h
 |d::ds,K,hd,h=>by
  simp only[List.all_cons,Bool.and_eq_true]at hd
  exact IW hd.1 (sx hd.2 h)
theorem mT{ds:List DV}{F:List DV→St→Prop}(hd:ds.all gn=true)(h:F ds S):iv S ds F:=by
 unfold iv
 split
 ·exact .inl h
 ·exact sx hd h
def mz(P:Program)(w0:W0)(cal:DV)(ds:List DV)(S:St)(K:DV→Prop):Prop:=match cal with
 | .v (.func (.func f) a cap)=>a.size=0∧okF P f=true∧cap.toList.all (fun u=>u.oneCell')=true∧ds.all gn=true∧∃d,aa P w0 f (ds++cap.toList.map .v) S (fun d' S'=>d'=d∧S'=S)∧K d
 |_=>False
theorem uR{m:Option (KK×DV)}{S:St}{x y:DV}{ok:Bool}{K:DV→Prop}(h:dz m S x y ok K):∃d,dz m S x y ok (·=d)∧K d:=by
 unfold dz at*
 cases m with
 |none=>exact h.elim
 |some p=>
  simp only[oK]at h ⊢
  obtain⟨h0,h⟩:=h
  cases hk:qo y with
  |none=>rw[hk]at h;exact h.elim
  |some k=>
   rw[hk]at h
   simp only at h ⊢
   obtain⟨h1,h⟩:=h
   split at h
   ·exact⟨_,⟨h0,h1,rfl⟩,h⟩
   ·split at h
    ·obtain⟨h2,h⟩:=h
     cases hg:iI _ k with
     |none=>rw[hg]at h;exact⟨_,⟨h0,h1,h2,rfl⟩,h⟩
     |some d=>rw[hg]at h;exact⟨_,⟨h0,h1,h2,rfl⟩,h⟩
    ·exact h.elim
   ·exact h.elim
def aH(P:Program)(w0:W0)(op:Op)(fr:List DV)(S:St)(K:DV→Prop):Prop:=match op with
 | .move x=>K (ev fr x)
 | .assign x=>K (ev fr x)
 | .pick c a b=>jh (ev fr c) (ev fr a) (ev fr b) K
 | .load t x=>bN (tk P t) S (ev fr x) K
 | .fieldAddr t x f=>gY (tk P t) f (ev fr x) K
 | .indexAddr t x i=>Hb w0 fr x fun d=>aG (tk P t) d (ev fr i) K
 | .index t x i=>lP (tk P t) (ev fr x) (ev fr i) K
 | .field t x f=>iN (tk P t) f (ev fr x) K
 | .extract x i=>dQ i (ev fr x) K
 | .nilCheck x=>notNil (ev fr x)=true∧K (ev fr x)
 | .binOp b t x y _=>iE y=false∧lh P b t (zP x) (zP y) (ev fr x) (ev fr y) K
 | .unOp b _ x=>Gk b (ev fr x) K
 | .convert s d x=>iM (tk P s) (tk P d) (ev fr x) K
 | .makeInterface t x=>rC (tk P t)=false∧gn (ev fr x)=true∧K (.jH t (ev fr x))
 | .makeFunc fn a b=>mB fn (a.toList.map (ev fr)) (b.toList.map (ev fr)) K
 | .slice t x lo hi mx=>(mx.isSome=true→hi.isSome=true)∧vj (ev fr x)=true∧fu (tk P t) (ev fr x) (lo.map (ev fr)) (hi.map (ev fr)) (mx.map (ev fr)) K
 | .build t parts=>(parts.toList.map fun p=>ev fr p.2).all gn=true∧gF P t ((parts.toList.map (·.1)).zip (parts.toList.map fun p=>ev fr p.2)) K
 | .buildSlice t len parts=>(parts.toList.map fun p=>ev fr p.2).all gn=true∧aP (tk P t) (zD P (ef P t)) len ((parts.toList.map (·.1)).zip (parts.toList.map fun p=>ev fr p.2)) K
 | .lookup t x y ok=>dz (su P t) S (ev fr x) (ev fr y) ok K
 | .call c=>match c.callee with
  | .builtin .len=>(match c.args.toList,c.argTypes.toList with
   |[x],[t]=>oq (tk P t) (ev fr x) K
   |_,_=>False)
  | .builtin .cap=>(match c.args.toList,c.argTypes.toList with
   |[x],[t]=>rG (tk P t) (ev fr x) K
   |_,_=>False)
  | .builtin .min=>(match c.args.toList with
   |[x,y]=>rH (ev fr x) (ev fr y) K
   |_=>False)
  | .builtin .max=>(match c.args.toList with
   |[x,y]=>rR (ev fr x) (ev fr y) K
   |_=>False)
  | .value cal=>mz P w0 (ev fr cal) (c.args.toList.map (ev fr)) S K
  | .invoke r name=>uy P (ev fr r) name fun f d=>mz P w0 (.v (.func (.func f) #[] #[])) (d::c.args.toList.map (ev fr)) S K
  |_=>False
 |_=>False
theorem jS{o:Oper}{fr:List DV}(hs:gU o.op=true)(h:aH P w0 o.op fr S K):∃d,QY P w0 S o fr d∧K d:=by
 have fin:∀{d:DV},aJ P w0 o.op fr S (fun d' S'=>d'=d∧S'=S)→K d→∃d,QY P w0 S o fr d∧K d:=fun h1 h2=>⟨_,bD hs h1,h2⟩
 cases hop:o.op with
 |move x=>rw[hop]at h;exact fin (by rw[hop];exact⟨rfl,rfl⟩) h
 |assign x=>rw[hop]at h;exact fin (by rw[hop];exact⟨rfl,rfl⟩) h
 |pick c a b=>rw[hop]at h;obtain⟨d,q1,q2⟩:=tJ h;exact fin (by rw[hop];simpa[aJ]using q1) q2
 |load t x=>rw[hop]at h;obtain⟨d,q1,q2⟩:=o6 h;exact fin (by rw[hop];simpa[aJ]using q1) q2
 |fieldAddr t x f=>rw[hop]at h;obtain⟨d,q1,q2⟩:=qE h;exact fin (by rw[hop];simpa[aJ]using q1) q2
 |indexAddr t x i=>
  rw[hop]at h
  cases x with
  |global b=>
   obtain⟨us,hg,h⟩:=(show rj w0 b fun d=>aG (tk P t) d (ev fr i) K from h)
   obtain⟨d,q1,q2⟩:=cU h
   exact fin (by rw[hop];exact⟨us,hg,by simpa using q1⟩) q2
  |tmp n=>obtain⟨d,q1,q2⟩:=cU (show aG (tk P t) (ev fr (.tmp n)) (ev fr i) K from h);exact fin (by rw[hop];simpa[aJ,Hb]using q1) q2
  |const u=>obtain⟨d,q1,q2⟩:=cU (show aG (tk P t) (ev fr (.const u)) (ev fr i) K from h);exact fin (by rw[hop];simpa[aJ,Hb]using q1) q2
  |func f=>obtain⟨d,q1,q2⟩:=cU (show aG (tk P t) (ev fr (.func f)) (ev fr i) K from h);exact fin (by rw[hop];simpa[aJ,Hb]using q1) q2
 |index t x i=>rw[hop]at h;obtain⟨d,q1,q2⟩:=qj h;exact fin (by rw[hop];simpa[aJ]using q1) q2
 |field t x f=>rw[hop]at h;obtain⟨d,q1,q2⟩:=oG h;exact fin (by rw[hop];simpa[aJ]using q1) q2
 |extract x i=>rw[hop]at h;obtain⟨d,q1,q2⟩:=mg h;exact fin (by rw[hop];simpa[aJ]using q1) q2
 |nilCheck x=>rw[hop]at h;exact fin (by rw[hop];exact⟨h.1,rfl,rfl⟩) h.2
 |binOp b t x y t'=>rw[hop]at h;obtain⟨d,q1,q2⟩:=tW h.2;exact fin (by rw[hop];simp only[aJ,h.1];simpa using q1) q2
 |unOp b t x=>rw[hop]at h;obtain⟨d,q1,q2⟩:=B9 h;exact fin (by rw[hop];simpa[aJ]using q1) q2
 |convert s d x=>rw[hop]at h;obtain⟨d',q1,q2⟩:=th h;exact fin (by rw[hop];simpa[aJ]using Hv (ke:=tk P (ef P s)) (kb:=tk P (ef P d)) (S:=S) q1) q2
 |makeInterface t x=>rw[hop]at h;exact fin (by rw[hop];exact⟨h.1,IW h.2.1 ⟨rfl,rfl⟩⟩) h.2.2
 |makeFunc fn a b=>rw[hop]at h;obtain⟨d,q1,q2⟩:=s7 h;exact fin (by rw[hop];simpa[aJ]using q1) q2
 |slice t x lo hi mx=>rw[hop]at h;obtain⟨d,q1,q2⟩:=p7 h.2.2;exact fin (by rw[hop];exact⟨h.1,Ia h.2.1 (Fa h.2.1 (by simpa using q1))⟩) q2
 |lookup t x y ok=>rw[hop]at h;obtain⟨d,q1,q2⟩:=uR h;exact fin (by rw[hop];simpa[aJ]using q1) q2
 |build t parts=>rw[hop]at h;obtain⟨d,q1,q2⟩:=qM h.2;exact fin (by rw[hop];exact sx h.1 (by simpa using q1)) q2
 |buildSlice t len parts=>rw[hop]at h;obtain⟨d,q1,q2⟩:=ji h.2;exact fin (by rw[hop];exact sx h.1 (by simpa using q1)) q2
 |call c=>
  rw[hop]at h
  obtain⟨callee,args,ts⟩:=c
  simp only[aH]at h
  split at h
  ·split at h
   ·rename_i x t e1 e2
    obtain⟨d,q1,q2⟩:=xj h
    exact fin (by rw[hop];simp only[aJ,e1,e2];simpa using q1) q2
   ·exact h.elim
  ·split at h
   ·rename_i x t e1 e2
    obtain⟨d,q1,q2⟩:=wZ h
    exact fin (by rw[hop];simp only[aJ,e1,e2];simpa using q1) q2
   ·exact h.elim
  ·split at h
   ·rename_i x y e1
    obtain⟨d,q1,q2⟩:=xX h
    exact fin (by rw[hop];simp only[aJ,e1];simpa using q1) q2
   ·exact h.elim
  ·split at h
   ·rename_i x y e1
    obtain⟨d,q1,q2⟩:=yy h
    exact fin (by rw[hop];simp only[aJ,e1];simpa using q1) q2
   ·exact h.elim
  ·rename_i cal
   unfold mz at h
   split at h
   ·rename_i f a cap hcal
    obtain⟨h1,h2,h3,h4,d,h5,h6⟩:=h
    exact fin (by rw[hop];simp only[aJ,hcal];exact oP h1 h3 (by rw[h2,KM];exact mT h4 h5)) h6
   ·exact h.elim
  ·rename_i r name
   unfold uy at h
   split at h
   ·rename_i t hx
    split at h
    ·rename_i f hi
     obtain⟨hf,_,h2,h3,h4,d,h5,h6⟩:=h
     have h5':aa P w0 f (.agg []::args.toList.map (ev fr)) S (fun d' S'=>d'=d∧S'=S):=by simpa using h5
     exact fin (by rw[hop];simp only[aJ,uy,hx,hi];exact⟨hf,mT h4 h5'⟩) h6
    ·exact h.elim
   ·exact h.elim
  ·exact h.elim
 |_=>rw[hop]at h;exact h.elim
end
end Aml
namespace Aml
open Go Go.RowKit
def dI(n:Int):DV:= .v (.int .i64 n)
def dU(n:Int):DV:= .v (.int .u64 n)
def dY(n:Int):DV:= .v (.int .u8 n)
def dB(b:Bool):DV:= .v (.bool b)
def dS(s:ByteArray):DV:= .v (.string s)
theorem kL{n:Int}(h0:0≤n)(h1:n≤18446744073709551615):IntKind.u64.wrap n=n:=by
 show n%18446744073709551616=n
 omega
theorem ZT{n:Int}(h0:0≤n)(h1:n≤255):IntKind.u8.wrap n=n:=by
 show n%256=n
 omega
section
variable {P:Program} {w0:W0}
end
end Aml
namespace Aml
open Go Go.RowKit
def pS:Op→Bool
 | .store ..| .box ..| .alloc ..| .makeSlice ..| .mapUpdate ..| .makeMap ..=>false
 | .call c=>match c.callee with
  | .builtin .append| .builtin .clear| .builtin .delete| .builtin .copy=>false
  |_=>true
 |_=>true
def uG(md:Region.Mode)(ops:Array Oper):Nat→Nat→Nat→Bool
 |0,_,_=>false
 |n+1,k,i=>match ops[k]? with
  |none=>false
  |some o=>o.after.any fun e=>Region.binds md e&&(e.on==i||uG md ops n e.on i)
def Q2(md:Region.Mode)(ops:Array Oper):Bool:=(List.range ops.size).all fun k=>match ops[k]? with
 |none=>true
 |some o=>o.after.all fun e=>!Region.binds md e||decide (e.on<k)
def rq(md:Region.Mode)(ops:Array Oper)(n:Nat):Bool:=Q2 md ops&&
 ((List.range ops.size).all fun k=>decide (k<n)||(List.range k).all fun i=>uG md ops ops.size k i)&&
 (ops.toList.take n).all fun o=>match o.guard with|none=>true|some (j,_)=>decide (j<n)
section
variable {P:Program} {w0:W0} {ops:Array Oper} {md:Region.Mode}
theorem kS(h:Q2 md ops=true){k:Nat}{o:Oper}(hk:ops[k]? =some o):∀e∈o.after,Region.binds md e=true→e.on<k:=by
 intro e he hb
 have hlt:k<ops.size:=(Array.getElem?_eq_some_iff.1 hk).1
 have:=List.all_eq_true.1 h k (List.mem_range.2 hlt)
 simp only[hk]at this
 have:=Array.all_eq_true'.1 this e he
 simpa[hb]using this
def Pu(md:Region.Mode)(ops:Array Oper)(L:Array Bool):Prop:=∀(j:Nat) (o:Oper),ops[j]? =some o→L[j]? =some true→∀e∈o.after,Region.binds md e=true→L[e.on]? =some true
theorem lC{L:Array Bool}(hc:Pu md ops L):∀(n k i:Nat) (o:Oper),ops[k]? =some o→(∀e∈o.after,Region.binds md e=true→L[e.on]? =some true)→uG md ops n k i=true→L[i]? =some true
 |0,_,_,_,_,_,h=>by cases h
 |n+1,k,i,o,hk,ha,h=>by
  simp only[uG,hk]at h
  obtain⟨e,he,h⟩:=Array.any_eq_true'.1 h
  simp only[Bool.and_eq_true,Bool.or_eq_true,beq_iff_eq]at h
  rcases h.2 with h'|h'
  ·rw[←h'];exact ha e he h.1
  ·have hl:=ha e he h.1
   cases ho:ops[e.on]? with
   |none=>cases n <;>simp[uG,ho]at h'
   |some o'=>exact lC hc n e.on i o' ho (hc e.on o' ho hl) h'
theorem dE{L:Array Bool}{i:Nat}:L.getD i false=true↔L[i]? =some true:=by
 rw[Array.getD_eq_getD_getElem?]
 cases L[i]? <;>simp
theorem dJ{L:Array Bool}{i:Nat}:L.getD i true=false↔L[i]? =some false:=by
 rw[Array.getD_eq_getD_getElem?]
 cases L[i]? <;>simp
theorem N6{ro:Option Nat}{g0 g:Gh}{Q:Exit→List DV→St→Prop}{o:Oper}{fr:List DV}{S:St}{a:Act}{w:World}{K:List DV→St→Prop}{K':Act→World→Prop}(k:g0.le g)(h1:Rel w0 g S w)(h2:ai g fr a.tmps.toList)(h3:Dk w0 g.obj a w)
 (hK:∀fr S g a w,g0.le g→Rel w0 g S w→ai g fr a.tmps.toList→Dk w0 g.obj a w→K fr S→K' a w)
 (h:bZ ops fr o.guard (fun fr=>ak P w0 o (ev fr) S fun d S'=>K (pt fr o.dst d) S') (fun fr=>K (pt fr o.dst ud) S)) {i:Nat} (hi:ops[i]? =some o):
 wpOpIn (fz ro) 0 P ops (Good w0 g0 Q) i K' a w:=by
 unfold wpOpIn
 simp only[hi]
 rcases mw h2 h with⟨hw,fr',h2',hA⟩|⟨hw,fr',h2',hB⟩
 ·rw[if_pos hw]
  refine dX hA h1 (fun x _=>mH h2' x) h3 fun g' d u S' w' k1 k2 k3 k4 k5=>?_
  exact hK _ _ g' _ _ (k.trans k1) k2 (dA (h2'.mono k1) _ k3) (k1.dk k5) k4
 ·rw[if_neg (by simp[hw])]
  exact⟨fun _ _=>trivial,hK _ _ g _ _ k h1 (dA h2' _ (jC g)) (h3.keep (put_defers _ _ _) fun _ _ h _=>h) hB⟩
theorem xf{S:St}{K K':List DV→Prop}(hk:∀fr,K fr→K' fr):∀{l:List Oper} {fr:List DV},LQ P w0 S ops K l fr→LQ P w0 S ops K' l fr
 |[],fr,h=>hk _ h
 |o::rest,fr,h=>ir (fun fr ⟨d,q1,q2⟩=>⟨d,q1,xf hk q2⟩) (fun fr h=>xf hk h) h
theorem Ek{ro:Option Nat}{g0:Gh}{Q:Exit→List DV→St→Prop}{n:Nat}(hB:rq md ops n=true):∀(l:List Oper) (k fuel:Nat) (L:Array Bool) (fr:List DV) (S:St) (g:Gh) (a:Act) (w:World),
 (∀j,l[j]? =ops[k+j]?)→n≤k→k≤ops.size→l.length≤fuel→L.size=ops.size→(∀i,i<k→L[i]? =some true)→(∀i,k≤i→i<ops.size→L[i]? =some false)→g0.le g→Rel w0 g S w→ai g fr a.tmps.toList→Dk w0 g.obj a w→
 zl P w0 ops (fun fr S=>Q .normal fr S) l fr S→wpAnyIn (fz ro) 0 P md ops (Good w0 g0 Q) fuel L a w:=by
 simp only[rq,Bool.and_eq_true]at hB
 obtain⟨⟨hb,ha⟩, -⟩:=hB
 have none_ready:∀(k:Nat) (L:Array Bool),ops.size≤k→L.size=ops.size→(∀i,i<k→L[i]? =some true∨ops.size≤i)→∀i,i∉Region.ready md ops L:=by
  intro k L hk hs hl i hi
  obtain⟨h1,o,ho,_⟩:=mem_ready.1 hi
  rw[dJ]at h1
  have hlt:i<ops.size:=(Array.getElem?_eq_some_iff.1 ho).1
  rcases hl i (by omega)with h|h
  ·rw[h]at h1;cases h1
  ·omega
 intro l
 induction l with
 |nil=>
  intro k fuel L fr S g a w hl hn hk hf hs ht hu k1 h1 h2 h3 h
  have hk':ops.size≤k:=by
   have:=hl 0
   simp only[List.getElem?_nil,Nat.add_zero]at this
   exact Array.getElem?_eq_none_iff.1 this.symm
  have hno:=none_ready k L hk' hs (fun i hi=> .inl (ht i hi))
  have hemp:Region.ready md ops L=[]:=List.eq_nil_iff_forall_not_mem.2 hno
  cases fuel with
  |zero=>exact⟨hemp,k1.kd h3,g,fr,S,k1,h1,h2,h⟩
  |succ fuel=>exact⟨fun _=>⟨k1.kd h3,g,fr,S,k1,h1,h2,h⟩,fun i hi=>absurd hi (hno i)⟩
 |cons o rest ih=>
  intro k fuel L fr S g a w hl hn hk hf hs ht hu k1 h1 h2 h3 h
  have h0:ops[k]? =some o:=by simpa using(hl 0).symm
  have hklt:k<ops.size:=(Array.getElem?_eq_some_iff.1 h0).1
  have hready:k∈Region.ready md ops L:=mem_ready.2 ⟨dJ.2 (hu k (Nat.le_refl _) hklt),o,h0,fun e he hbe=>dE.2 (ht _ (kS hb h0 e he hbe))⟩
  cases fuel with
  |zero=>simp at hf
  |succ fuel=>
   refine⟨fun h=>(by rw[h]at hready;cases hready),fun i hi=>?_⟩
   obtain⟨hi1,oi,hoi,hia⟩:=mem_ready.1 hi
   rw[dJ]at hi1
   have hilt:i<ops.size:=(Array.getElem?_eq_some_iff.1 hoi).1
   have hclo:Pu md ops L:=fun j oj hj hlj e he hbe=>by
    have hjk:j<k:=by
     rcases Nat.lt_or_ge j k with h|h
     ·exact h
     ·rw[hu j h (Array.getElem?_eq_some_iff.1 hj).1]at hlj;cases hlj
    exact ht _ (Nat.lt_trans (kS hb hj e he hbe) hjk)
   have hik:i=k:=by
    rcases Nat.lt_trichotomy i k with h|h|h
    ·rw[ht i h]at hi1;cases hi1
    ·exact h
    ·have hr:=List.all_eq_true.1 ha i (List.mem_range.2 hilt)
     rw[Bool.or_eq_true]at hr
     rcases hr with hr|hr
     ·have:=of_decide_eq_true hr;omega
     ·have hr:=List.all_eq_true.1 hr k (List.mem_range.2 h)
      have:=lC hclo _ i k oi hoi (fun e he hbe=>dE.1 (hia e he hbe)) hr
      rw[hu k (Nat.le_refl _) hklt]at this;cases this
   subst hik
   refine N6 (o:=o) k1 h1 h2 h3 (K:=zl P w0 ops (fun fr S=>Q .normal fr S) rest) ?_ h h0
   intro fr' S' g' a' w' q1 q2 q3 q4 q5
   refine ih (i+1) fuel (L.setIfInBounds i true) fr' S' g' a' w' (fun j=>by have:=hl (j+1);simpa[Nat.add_assoc,Nat.add_comm 1 j]using this) (by omega) (by omega) (by simpa using hf) (by simpa using hs) ?_ ?_ q1 q2 q3 q4 q5
   ·intro j hj
    rw[Array.getElem?_setIfInBounds]
    split
    ·rename_i e;rw[if_pos (by omega)]
    ·exact ht j (by omega)
   ·intro j hj hj'
    rw[Array.getElem?_setIfInBounds,if_neg (by omega)]
    exact hu j (by omega) hj'
theorem H5{ro:Option Nat}{g0:Gh}{Q:Exit→List DV→St→Prop}{S:St}{n:Nat}(hB:rq md ops n=true)(hn:n≤ops.size):∀(fuel F:Nat) (L M:Array Bool) (fr:List DV) (g:Gh) (a:Act) (w:World),
 L.size=n→M.size=ops.size→(∀i,i<n→M[i]? =L[i]?)→(∀i,n≤i→i<ops.size→M[i]? =some false)→Pu md ops M→fuel+(ops.size-n)≤F→g0.le g→Rel w0 g S w→ai g fr a.tmps.toList→Dk w0 g.obj a w→
 qX P w0 S md (ops.toList.take n).toArray (fun fr=>zl P w0 ops (fun fr S=>Q .normal fr S) (ops.toList.drop n) fr S) fuel L fr→wpAnyIn (fz ro) 0 P md ops (Good w0 g0 Q) F M a w:=by
 have hB':=hB
 simp only[rq,Bool.and_eq_true]at hB'
 obtain⟨⟨hb,ha⟩,hg⟩:=hB'
 have hpre:∀i,i<n→(ops.toList.take n).toArray[i]? =ops[i]? :=fun i hi=>by simp[List.getElem?_take,hi]
 have full:∀(L M:Array Bool),L.size=n→M.size=ops.size→(∀i,i<n→M[i]? =L[i]?)→Region.ready md (ops.toList.take n).toArray L=[]→∀i,i<n→M[i]? =some true:=by
  intro L M hs hM hLM hr i
  induction i using Nat.strongRecOn with
  |_ i ih=>
   intro hi
   have hlt:i<M.size:=by omega
   have hsome:∃o,ops[i]? =some o:=⟨_,Array.getElem?_eq_getElem (by omega)⟩
   obtain⟨o,ho⟩:=hsome
   cases hx:M[i]? with
   |none=>rw[Array.getElem?_eq_getElem hlt]at hx;cases hx
   |some x=>
    cases x with
    |true=>rfl
    |false=>
     have:i∈Region.ready md (ops.toList.take n).toArray L:=mem_ready.2 ⟨dJ.2 (by rw[←hLM i hi];exact hx),o,by rw[hpre i hi];exact ho,fun e he hbe=>by
      have hlt':=kS hb ho e he hbe
      rw[dE,←hLM _ (by omega)]
      exact ih _ hlt' (by omega)⟩
     rw[hr]at this;cases this
 have tail:∀(F:Nat) (L M:Array Bool) (fr:List DV) (g:Gh) (a:Act) (w:World),L.size=n→M.size=ops.size→(∀i,i<n→M[i]? =L[i]?)→(∀i,n≤i→i<ops.size→M[i]? =some false)→ops.size-n≤F→g0.le g→Rel w0 g S w→ai g fr a.tmps.toList→Dk w0 g.obj a w→
  Region.ready md (ops.toList.take n).toArray L=[]→zl P w0 ops (fun fr S=>Q .normal fr S) (ops.toList.drop n) fr S→wpAnyIn (fz ro) 0 P md ops (Good w0 g0 Q) F M a w:=by
  intro F L M fr g a w hs hM hLM hM0 hF q1 q2 q3 q4 hr h
  exact Ek hB (ops.toList.drop n) n F M fr S g a w (fun j=>by simp[List.getElem?_drop]) (Nat.le_refl _) hn (by simp;omega) hM (full L M hs hM hLM hr) hM0 q1 q2 q3 q4 h
 intro fuel
 induction fuel with
 |zero=>
  intro F L M fr g a w hs hM hLM hM0 hc hF q1 q2 q3 q4 h
  exact tail F L M fr g a w hs hM hLM hM0 (by omega) q1 q2 q3 q4 h.1 h.2
 |succ fuel ih=>
  intro F L M fr g a w hs hM hLM hM0 hc hF q1 q2 q3 q4 h
  by_cases hr:Region.ready md (ops.toList.take n).toArray L=[]
  ·exact tail F L M fr g a w hs hM hLM hM0 (by omega) q1 q2 q3 q4 hr (h.1 hr)
  ·obtain⟨F,rfl⟩:∃F',F=F'+1:=⟨F-1,by omega⟩
   have up:∀i,i∈Region.ready md (ops.toList.take n).toArray L→i∈Region.ready md ops M:=by
    intro i hi
    obtain⟨h1,o,ho,h2⟩:=mem_ready.1 hi
    have hi':i<n:=by have:=(Array.getElem?_eq_some_iff.1 ho).1;simp at this;omega
    rw[hpre i hi']at ho
    refine mem_ready.2 ⟨dJ.2 (by rw[hLM i hi'];exact dJ.1 h1),o,ho,fun e he hbe=>?_⟩
    have hlt:=kS hb ho e he hbe
    rw[dE,hLM _ (by omega)]
    exact dE.1 (h2 e he hbe)
   refine⟨fun h0=>?_,fun i hi=>?_⟩
   ·exfalso
    obtain⟨x,xs,hx⟩:∃x xs,Region.ready md (ops.toList.take n).toArray L=x::xs:=by
     cases he:Region.ready md (ops.toList.take n).toArray L with
     |nil=>exact absurd he hr
     |cons x xs=>exact⟨x,xs,rfl⟩
    have:=up x (by rw[hx];exact List.mem_cons_self)
    rw[h0]at this;cases this
   ·obtain⟨hi1,oi,hoi,hia⟩:=mem_ready.1 hi
    rw[dJ]at hi1
    have hilt:i<ops.size:=(Array.getElem?_eq_some_iff.1 hoi).1
    by_cases hin:i<n
    ·have hiL:i∈Region.ready md (ops.toList.take n).toArray L:=mem_ready.2 ⟨dJ.2 (by rw[←hLM i hin];exact hi1),oi,by rw[hpre i hin];exact hoi,fun e he hbe=>by
      have hlt:=kS hb hoi e he hbe
      rw[dE,←hLM _ (by omega)]
      exact dE.1 (hia e he hbe)⟩
     have hq:=h.2 i hiL
     have hgi:∀j want,oi.guard=some (j,want)→j<n:=by
      intro j want hgj
      have hmem:oi∈ops.toList.take n:=by
       have:(ops.toList.take n)[i]? =some oi:=by rw[List.getElem?_take,if_pos hin];simpa using hoi
       exact List.mem_of_getElem? this
      have:=List.all_eq_true.1 hg oi hmem
      simpa[hgj]using this
     have hwant:∀fr,dp (ops.toList.take n).toArray fr oi.guard=dp ops fr oi.guard:=by
      intro fr
      cases hgo:oi.guard with
      |none=>rfl
      |some p=>
       obtain⟨j,want⟩:=p
       simp only[dp,hpre j (hgi j want hgo)]
     have hLs:(L.setIfInBounds i true).size=n:=by simpa using hs
     have hMs:(M.setIfInBounds i true).size=ops.size:=by simpa using hM
     have hLM':∀j,j<n→(M.setIfInBounds i true)[j]? =(L.setIfInBounds i true)[j]? :=by
      intro j hj
      rw[Array.getElem?_setIfInBounds,Array.getElem?_setIfInBounds,hLM j hj]
      split
      ·rw[if_pos (by omega),if_pos (by omega)]
      ·rfl
     have hM0':∀j,n≤j→j<ops.size→(M.setIfInBounds i true)[j]? =some false:=by
      intro j hj hj'
      rw[Array.getElem?_setIfInBounds,if_neg (by omega)]
      exact hM0 j hj hj'
     have hc':Pu md ops (M.setIfInBounds i true):=by
      intro j oj hj hlj e he hbe
      rw[Array.getElem?_setIfInBounds]
      split
      ·rw[if_pos (by omega)]
      ·rw[Array.getElem?_setIfInBounds]at hlj
       split at hlj
       ·rename_i hij
        subst hij
        rw[hoi]at hj;cases hj
        exact dE.1 (hia e he hbe)
       ·exact hc j oj hj hlj e he hbe
     have cont:∀fr' g' a' w',g0.le g'→Rel w0 g' S w'→ai g' fr' a'.tmps.toList→Dk w0 g'.obj a' w'→qX P w0 S md (ops.toList.take n).toArray (fun fr=>zl P w0 ops (fun fr S=>Q .normal fr S) (ops.toList.drop n) fr S) fuel (L.setIfInBounds i true) fr'→
      wpAnyIn (fz ro) 0 P md ops (Good w0 g0 Q) F (M.setIfInBounds i true) a' w':=fun fr' g' a' w' p1 p2 p3 p4 p5=>
      ih F _ _ fr' g' a' w' hLs hMs hLM' hM0' hc' (by omega) p1 p2 p3 p4 p5
     unfold qOp at hq
     rw[hpre i hin]at hq
     unfold wpOpIn
     simp only[hoi]at hq ⊢
     rcases hq with⟨hw,d,hy,hk⟩|⟨hw,hk⟩
     ·rw[hwant]at hw
      have hw':=eu (o:=oi) q3 hw
      rw[if_pos hw']
      refine dX hy q2 (fun x _=>mH q3 x) q4 fun g' d' u S' w' k1 k2 k3 k4 k5=>?_
      obtain⟨hd,hS⟩:=k4
      rw[hS]at k2
      rw[hd]at k3
      exact cont _ g' _ _ (q1.trans k1) k2 (dA (q3.mono k1) _ k3) (k1.dk k5) hk
     ·rw[hwant]at hw
      have hw':=eu (o:=oi) q3 hw
      rw[if_neg (by simp[hw'])]
      exact⟨fun _ _=>trivial,cont _ g _ _ q1 q2 (dA q3 _ (jC g)) (q4.keep (put_defers _ _ _) fun _ _ h _=>h) hk⟩
    ·exfalso
     have hall:∀j,j<n→M[j]? =some true:=by
      intro j hj
      have hr':=List.all_eq_true.1 ha i (List.mem_range.2 hilt)
      rw[Bool.or_eq_true]at hr'
      rcases hr' with hr'|hr'
      ·exact absurd (of_decide_eq_true hr') hin
      ·have hr':=List.all_eq_true.1 hr' j (List.mem_range.2 (by omega))
       exact lC hc _ i j oi hoi (fun e he hbe=>dE.1 (hia e he hbe)) hr'
     refine hr (List.eq_nil_iff_forall_not_mem.2 fun j hj=>?_)
     obtain⟨h1,o,ho,_⟩:=mem_ready.1 hj
     have hj':j<n:=by have:=(Array.getElem?_eq_some_iff.1 ho).1;simp at this;omega
     rw[dJ,←hLM j hj',hall j hj']at h1
     cases h1
def nG(l:List Oper):Nat:=(l.takeWhile fun o=>pS o.op).length
theorem Hk{id:Nat}{l:List Oper}{fr:List DV}{S:St}{Q:Exit→List DV→St→Prop}(n:Nat)(hn:n≤l.length)(hm:P.follows .mixedOrders=true)(hB:Region.lexB .any (l.take n).toArray=true)(hT:rq .any l.toArray n=true)(hs:l.all (fun o=>gU o.op)=true)
 (h:LQ P w0 S (l.take n).toArray (fun fr=>xR P w0 l.toArray (fun fr S=>Q .normal fr S) (l.drop n) fr S) (l.take n) fr):gk P w0 (.region id l.toArray true) fr S Q:=by
 intro g a w h1 h2 h3
 simp only[Region.lexB,Bool.and_eq_true]at hB
 refine gC hm fun ro=>?_
 have hR:Rel w0 g S {w with drawn:=w.drawn+1}:=h1.grow (lV w)
 have hs1:(l.take n).all (fun o=>gU o.op)=true:=List.all_eq_true.2 fun o ho=>List.all_eq_true.1 hs o (List.mem_of_mem_take ho)
 have hs2:(l.drop n).all (fun o=>gU o.op)=true:=List.all_eq_true.2 fun o ho=>List.all_eq_true.1 hs o (List.mem_of_mem_drop ho)
 have hLQ:LQ P w0 S (l.take n).toArray (fun fr=>zl P w0 l.toArray (fun fr S=>Q .normal fr S) (l.drop n) fr S) (l.take n) fr:=by
  exact xf (fun fr h=>nk _ hs2 h) h
 have:=tZ (P:=P) (w0:=w0) (S:=S) (md:= .any) (ops:=(l.take n).toArray) (l.take n) 0 (Array.replicate (l.take n).toArray.size false) fr (by simp) (by simpa using hB.2) hLQ
 refine H5 (n:=n) (S:=S) hT (by simpa using hn) (l.take n).length _ (Array.replicate (l.take n).toArray.size false) _ fr g a _ (by simp;omega) (by simp) ?_ ?_ ?_ (by simp;omega) (.refl g) hR h2 (h3.keep rfl fun _ _ h _=>h) (by simpa using this)
 ·intro i hi
  simp only[Array.getElem?_replicate,List.size_toArray,List.length_take]
  rw[if_pos (by omega),if_pos (by omega)]
 ·intro i hi hi'
  simp only[Array.getElem?_replicate]
  rw[if_pos hi']
 ·intro j o hj hl
  simp[Array.getElem?_replicate]at hl
end
end Aml
namespace Aml
open Go Go.RowKit
@[congr] theorem Xw {d:DV} {d':DV} {A:Prop} {B:Prop} (hd:d=d'):fZ d A B=fZ d' A B:=by cases hd;rfl
@[congr] theorem Y2 {ds:List DV} {ds':List DV} {K:DV→Prop} (hds:ds=ds'):RK ds K=RK ds' K:=by cases hds;rfl
@[congr] theorem Y8 {k:TK} {k':TK} {ds:List DV} {ds':List DV} {K:DV→Prop} (hk:k=k') (hds:ds=ds'):pP k ds K=pP k' ds' K:=by cases hk;cases hds;rfl
@[congr] theorem Xn {c:DV} {c':DV} {a:DV} {a':DV} {b:DV} {b':DV} {K:DV→Prop} (hc:c=c') (ha:a=a') (hb:b=b'):jh c a b K=jh c' a' b' K:=by cases hc;cases ha;cases hb;rfl
@[congr] theorem Xx {k:TK} {k':TK} {S:St} {S':St} {x:DV} {x':DV} {K:DV→Prop} (hk:k=k') (hS:S=S') (hx:x=x'):bN k S x K=bN k' S' x' K:=by cases hk;cases hS;cases hx;rfl
@[congr] theorem Vf {k:TK} {k':TK} {f:Nat} {f':Nat} {x:DV} {x':DV} {K:DV→Prop} (hk:k=k') (hf:f=f') (hx:x=x'):gY k f x K=gY k' f' x' K:=by cases hk;cases hf;cases hx;rfl
@[congr] theorem NY {k:TK} {k':TK} {x:DV} {x':DV} {i:DV} {i':DV} {K:DV→Prop} (hk:k=k') (hx:x=x') (hi:i=i'):aG k x i K=aG k' x' i' K:=by cases hk;cases hx;cases hi;rfl
@[congr] theorem Se {i:Nat} {i':Nat} {x:DV} {x':DV} {K:DV→Prop} (hi:i=i') (hx:x=x'):dQ i x K=dQ i' x' K:=by cases hi;cases hx;rfl
@[congr] theorem Ux {k:TK} {k':TK} {f:Nat} {f':Nat} {x:DV} {x':DV} {K:DV→Prop} (hk:k=k') (hf:f=f') (hx:x=x'):iN k f x K=iN k' f' x' K:=by cases hk;cases hf;cases hx;rfl
@[congr] theorem Xd {op:BinOp} {k:IntKind} {m:Int} {m':Int} {n:Int} {n':Int} {K:DV→Prop} (hm:m=m') (hn:n=n'):nL op k m n K=nL op k m' n' K:=by cases hm;cases hn;rfl
@[congr] theorem Xm {op:BinOp} {x:ByteArray} {x':ByteArray} {y:ByteArray} {y':ByteArray} {K:DV→Prop} (hx:x=x') (hy:y=y'):jT op x y K=jT op x' y' K:=by cases hx;cases hy;rfl
@[congr] theorem XX {op:BinOp} {t:TK} {t':TK} {cx:Bool} {cx':Bool} {cy:Bool} {cy':Bool} {x:DV} {x':DV} {y:DV} {y':DV} {K:DV→Prop} (ht:t=t') (hcx:cx=cx') (hcy:cy=cy') (hx:x=x') (hy:y=y'):rO op t cx cy x y K=rO op t' cx' cy' x' y' K:=by cases ht;cases hcx;cases hcy;cases hx;cases hy;rfl
@[congr] theorem Vg {o:Option (List FK)} {o':Option (List FK)} {op:BinOp} {al:List DV} {al':List DV} {y:DV} {y':DV} {K:DV→Prop} (ho:o=o') (hal:al=al') (hy:y=y'):nX o op al y K=nX o' op al' y' K:=by cases ho;cases hal;cases hy;rfl
@[congr] theorem X9 {ks:List FK} {al:List DV} {al':List DV} {bs:List DV} {bs':List DV} {r:Bool} {r':Bool} {F:Bool→Prop} (hal:al=al') (hbs:bs=bs') (hr:r=r'):gu ks al bs r F=gu ks al' bs' r' F:=by cases hal;cases hbs;cases hr;rfl
@[congr] theorem Zy {op:UnOp} {x:DV} {x':DV} {K:DV→Prop} (hx:x=x'):Gk op x K=Gk op x' K:=by cases hx;rfl
@[congr] theorem Xu {a:TK} {a':TK} {b:TK} {b':TK} {x:DV} {x':DV} {K:DV→Prop} (ha:a=a') (hb:b=b') (hx:x=x'):iM a b x K=iM a' b' x' K:=by cases ha;cases hb;cases hx;rfl
@[congr] theorem UW {a:TK} {a':TK} {b:TK} {b':TK} {ke:TK} {ke':TK} {kb:TK} {kb':TK} {S:St} {S':St} {x:DV} {x':DV} {K:DV→Prop} (ha:a=a') (hb:b=b') (hke:ke=ke') (hkb:kb=kb') (hS:S=S') (hx:x=x'):jF a b ke kb S x K=jF a' b' ke' kb' S' x' K:=by cases ha;cases hb;cases hke;cases hkb;cases hS;cases hx;rfl
@[congr] theorem Vb {k:TK} {k':TK} {x:DV} {x':DV} {i:DV} {i':DV} {K:DV→Prop} (hk:k=k') (hx:x=x') (hi:i=i'):lP k x i K=lP k' x' i' K:=by cases hk;cases hx;cases hi;rfl
@[congr] theorem YZ {d:Option DV} {d':Option DV} {z:Int} {z':Int} {K:Int→Prop} (hd:d=d') (hz:z=z'):lq d z K=lq d' z' K:=by cases hd;cases hz;rfl
@[congr] theorem U3 {k:TK} {k':TK} {x:DV} {x':DV} {lo:Option DV} {lo':Option DV} {hi:Option DV} {hi':Option DV} {mx:Option DV} {mx':Option DV} {K:DV→Prop} (hk:k=k') (hx:x=x') (hlo:lo=lo') (hhi:hi=hi') (hmx:mx=mx'):fu k x lo hi mx K=fu k' x' lo' hi' mx' K:=by cases hk;cases hx;cases hlo;cases hhi;cases hmx;rfl
@[congr] theorem XH {k:TK} {k':TK} {x:DV} {x':DV} {K:DV→Prop} (hk:k=k') (hx:x=x'):oq k x K=oq k' x' K:=by cases hk;cases hx;rfl
@[congr] theorem Yr {k:TK} {k':TK} {x:DV} {x':DV} {K:DV→Prop} (hk:k=k') (hx:x=x'):rG k x K=rG k' x' K:=by cases hk;cases hx;rfl
@[congr] theorem Yy {x:DV} {x':DV} {y:DV} {y':DV} {K:DV→Prop} (hx:x=x') (hy:y=y'):rH x y K=rH x' y' K:=by cases hx;cases hy;rfl
@[congr] theorem Yd {x:DV} {x':DV} {y:DV} {y':DV} {K:DV→Prop} (hx:x=x') (hy:y=y'):rR x y K=rR x' y' K:=by cases hx;cases hy;rfl
@[congr] theorem VW {n:Nat} {n':Nat} {S:St} {S':St} {x:DV} {x':DV} {y:DV} {y':DV} {K:St→Prop} (hn:n=n') (hS:S=S') (hx:x=x') (hy:y=y'):n0 n S x y K=n0 n' S' x' y' K:=by cases hn;cases hS;cases hx;cases hy;rfl
@[congr] theorem UH {n:Nat} {n':Nat} {S:St} {S':St} {x:DV} {x':DV} {y:DV} {y':DV} {K:St→Prop} (hn:n=n') (hS:S=S') (hx:x=x') (hy:y=y'):fG n S x y K=fG n' S' x' y' K:=by cases hn;cases hS;cases hx;cases hy;rfl
@[congr] theorem Ng {k:TK} {k':TK} {z:DV} {z':DV} {len:Nat} {len':Nat} {parts:List (Nat×DV)} {parts':List (Nat×DV)} {K:DV→Prop} (hk:k=k') (hz:z=z') (hlen:len=len') (hparts:parts=parts'):aP k z len parts K=aP k' z' len' parts' K:=by cases hk;cases hz;cases hlen;cases hparts;rfl
@[congr] theorem Xp {S:St} {S':St} {d:DV} {d':DV} {K:Nat→List DV→Prop} (hS:S=S') (hd:d=d'):fS S d K=fS S' d' K:=by cases hS;cases hd;rfl
@[congr] theorem Yl {s:Nat} {s':Nat} {b:Nat} {b':Nat} {S:St} {S':St} {x:DV} {x':DV} {ys:List DV} {ys':List DV} {K:DV→St→Prop} (hs:s=s') (hb:b=b') (hS:S=S') (hx:x=x') (hys:ys=ys'):u9 s b S x ys K=u9 s' b' S' x' ys' K:=by cases hs;cases hb;cases hS;cases hx;cases hys;rfl
@[congr] theorem UA {k:TK} {k':TK} {k2:TK} {k2':TK} {S:St} {S':St} {x:DV} {x':DV} {y:DV} {y':DV} {K:DV→St→Prop} (hk:k=k') (hk2:k2=k2') (hS:S=S') (hx:x=x') (hy:y=y'):lM k k2 S x y K=lM k' k2' S' x' y' K:=by cases hk;cases hk2;cases hS;cases hx;cases hy;rfl
@[congr] theorem UI {k:TK} {k':TK} {z:DV} {z':DV} {S:St} {S':St} {x:DV} {x':DV} {y:DV} {y':DV} {K:DV→St→Prop} (hk:k=k') (hz:z=z') (hS:S=S') (hx:x=x') (hy:y=y'):lK k z S x y K=lK k' z' S' x' y' K:=by cases hk;cases hz;cases hS;cases hx;cases hy;rfl
@[congr] theorem Xz {k:TK} {k':TK} {k2:TK} {k2':TK} {S:St} {S':St} {x:DV} {x':DV} {y:DV} {y':DV} {K:DV→St→Prop} (hk:k=k') (hk2:k2=k2') (hS:S=S') (hx:x=x') (hy:y=y'):rz k k2 S x y K=rz k' k2' S' x' y' K:=by cases hk;cases hk2;cases hS;cases hx;cases hy;rfl
@[congr] theorem Xr {k:TK} {k':TK} {z:DV} {z':DV} {S:St} {S':St} {x:DV} {x':DV} {y:DV} {y':DV} {K:DV→St→Prop} (hk:k=k') (hz:z=z') (hS:S=S') (hx:x=x') (hy:y=y'):rm k z S x y K=rm k' z' S' x' y' K:=by cases hk;cases hz;cases hS;cases hx;cases hy;rfl
@[congr] theorem Xo {k:TK} {k':TK} {S:St} {S':St} {x:DV} {x':DV} {y:DV} {y':DV} {K:DV→St→Prop} (hk:k=k') (hS:S=S') (hx:x=x') (hy:y=y'):oN k S x y K=oN k' S' x' y' K:=by cases hk;cases hS;cases hx;cases hy;rfl
@[congr] theorem Wu {k:TK} {k':TK} {z:DV} {z':DV} {S:St} {S':St} {x:DV} {x':DV} {K:DV→St→Prop} (hk:k=k') (hz:z=z') (hS:S=S') (hx:x=x'):mG k z S x K=mG k' z' S' x' K:=by cases hk;cases hz;cases hS;cases hx;rfl
@[congr] theorem W9 {S:St} {S':St} {s:Nat} {s':Nat} {ds:List DV} {ds':List DV} {o:Nat} {o':Nat} {b:Nat} {n:Nat} {n':Nat} {y:DV} {y':DV} {K:DV→St→Prop} (hS:S=S') (hs:s=s') (hds:ds=ds') (ho:o=o') (hn:n=n') (hy:y=y'):vG S s ds o b n y K=vG S' s' ds' o' b n' y' K:=by cases hS;cases hs;cases hds;cases ho;cases hn;cases hy;rfl
@[congr] theorem Xj {S:St} {S':St} {s:Nat} {s':Nat} {y:DV} {y':DV} {F:Nat→List DV→Prop} (hS:S=S') (hs:s=s') (hy:y=y'):pI S s y F=pI S' s' y' F:=by cases hS;cases hs;cases hy;rfl
@[congr] theorem V3 {op:BinOp} {k:TK} {k':TK} {x:DV} {x':DV} {K:DV→Prop} (hk:k=k') (hx:x=x'):mQ op k x K=mQ op k' x' K:=by cases hk;cases hx;rfl
@[congr] theorem W8 {S:St} {S':St} {x:DV} {x':DV} {z:Nat} {z':Nat} {K:DV→St→Prop} (hS:S=S') (hx:x=x') (hz:z=z'):wc S x z K=wc S' x' z' K:=by cases hS;cases hx;cases hz;rfl
@[congr] theorem UJ {k:TK} {k':TK} {S:St} {S':St} {x:DV} {x':DV} {lo:Option DV} {lo':Option DV} {hi:Option DV} {hi':Option DV} {mx:Option DV} {mx':Option DV} {K:DV→St→Prop} (hk:k=k') (hS:S=S') (hx:x=x') (hlo:lo=lo') (hhi:hi=hi') (hmx:mx=mx'):ic k S x lo hi mx K=ic k' S' x' lo' hi' mx' K:=by cases hk;cases hS;cases hx;cases hlo;cases hhi;cases hmx;rfl
@[congr] theorem Uz {k:TK} {k':TK} {S:St} {S':St} {x:DV} {x':DV} {lo:Option DV} {lo':Option DV} {hi:Option DV} {hi':Option DV} {mx:Option DV} {mx':Option DV} {K:DV→St→Prop} (hk:k=k') (hS:S=S') (hx:x=x') (hlo:lo=lo') (hhi:hi=hi') (hmx:mx=mx'):jO k S x lo hi mx K=jO k' S' x' lo' hi' mx' K:=by cases hk;cases hS;cases hx;cases hlo;cases hhi;cases hmx;rfl
@[congr] theorem NZ {k:TK} {k':TK} {z:DV} {z':DV} {x:DV} {x':DV} {y:DV} {y':DV} {S:St} {S':St} {K:DV→St→Prop} (hk:k=k') (hz:z=z') (hx:x=x') (hy:y=y') (hS:S=S'):fN k z x y S K=fN k' z' x' y' S' K:=by cases hk;cases hz;cases hx;cases hy;cases hS;rfl
@[congr] theorem YL {S:St} {S':St} {d:DV} {d':DV} {K:DV→St→Prop} (hS:S=S') (hd:d=d'):mI S d K=mI S' d' K:=by cases hS;cases hd;rfl
@[congr] theorem W3 {S:St} {S':St} {d:List DV} {d':List DV} {K:List DV→St→Prop} (hS:S=S') (hd:d=d'):mm S d K=mm S' d' K:=by cases hS;cases hd;rfl
@[congr] theorem Zs {S:St} {S':St} {d:DV} {d':DV} {K:DV→St→Prop} (hS:S=S') (hd:d=d'):shr S d K=shr S' d' K:=by cases hS;cases hd;rfl
@[congr] theorem XF {S:St} {S':St} {d:List DV} {d':List DV} {K:List DV→St→Prop} (hS:S=S') (hd:d=d'):gp S d K=gp S' d' K:=by cases hS;cases hd;rfl
@[congr] theorem Yk {S:St} {S':St} {d:DV} {d':DV} {K:DV→St→Prop} (hS:S=S') (hd:d=d'):oD S d K=oD S' d' K:=by cases hS;cases hd;rfl
@[congr] theorem Xf {S:St} {S':St} {d:List DV} {d':List DV} {F:List DV→St→Prop} (hS:S=S') (hd:d=d'):iv S d F=iv S' d' F:=by cases hS;cases hd;rfl
@[congr] theorem Zj {p:Option (Nat×Nat×Bool)} {p':Option (Nat×Nat×Bool)} {x:DV} {x':DV} {K:DV→Prop} (hp:p=p') (hx:x=x'):S5 p x K=S5 p' x' K:=by cases hp;cases hx;rfl
@[congr] theorem Zr {p:Option (Nat×Nat×Bool)} {p':Option (Nat×Nat×Bool)} {ds:List DV} {ds':List DV} {K:DV→Prop} (hp:p=p') (hds:ds=ds'):Zb p ds K=Zb p' ds' K:=by cases hp;cases hds;rfl
@[congr] theorem aaI {t:Nat} {t':Nat} {d:DV} {d':DV} {fr:List DV} {fr':List DV} {want:Bool} {want':Bool} {A:List DV→Prop} {B:List DV→Prop} (ht:t=t') (hd:d=d') (hfr:fr=fr') (hwant:want=want'):gD t d fr want A B=gD t' d' fr' want' A B:=by cases ht;cases hd;cases hfr;cases hwant;rfl
@[congr] theorem aaA {t:Option Tmp} {t':Option Tmp} {fr:List DV} {fr':List DV} {want:Bool} {want':Bool} {A:List DV→Prop} {B:List DV→Prop} (ht:t=t') (hfr:fr=fr') (hwant:want=want'):gK t fr want A B=gK t' fr' want' A B:=by cases ht;cases hfr;cases hwant;rfl
@[congr] theorem Va {ops:Array Oper} {fr:List DV} {fr':List DV} {gd:Option (Nat×Bool)} {gd':Option (Nat×Bool)} {A:List DV→Prop} {B:List DV→Prop} (hfr:fr=fr') (hgd:gd=gd'):bZ ops fr gd A B=bZ ops fr' gd' A B:=by cases hfr;cases hgd;rfl
@[congr] theorem Y4 {k:TK} {k':TK} {z:DV} {z':DV} {parts:List (Nat×DV)} {parts':List (Nat×DV)} {K:DV→Prop} (hk:k=k') (hz:z=z') (hparts:parts=parts'):WK k z parts K=WK k' z' parts' K:=by cases hk;cases hz;cases hparts;rfl
@[congr] theorem Zv {xs:List DV} {xs':List DV} {i:Nat} {i':Nat} {F:DV→Prop} (hxs:xs=xs') (hi:i=i'):Is xs i F=Is xs' i' F:=by cases hxs;cases hi;rfl
@[congr] theorem Zi {xs:List DV} {xs':List DV} {i:Nat} {i':Nat} {F:DV→Prop} (hxs:xs=xs') (hi:i=i'):FB xs i F=FB xs' i' F:=by cases hxs;cases hi;rfl
@[congr] theorem aaV {o:Option Ob} {o':Option Ob} {F:Nat→List DV→Prop} {G:Nat→List DV→Prop} (ho:o=o'):bK o F G=bK o' F G:=by cases ho;rfl
@[congr] theorem aa9 {o:Option Ob} {o':Option Ob} {F:KK→List (Value×DV×Nat)→Nat→Prop} (ho:o=o'):xK o F=xK o' F:=by cases ho;rfl
@[congr] theorem aaC {o:Option Ob} {o':Option Ob} {F:Nat→Nat→List Nat→Nat→Prop} (ho:o=o'):iK o F=iK o' F:=by cases ho;rfl
@[congr] theorem Zp {o:Option DV} {o':Option DV} {F:DV→Prop} {G:Prop} (ho:o=o'):UG o F G=UG o' F G:=by cases ho;rfl
@[congr] theorem Uy {m:Option (KK×DV)} {m':Option (KK×DV)} {S:St} {S':St} {x:DV} {x':DV} {y:DV} {y':DV} {ok:Bool} {ok':Bool} {K:DV→Prop} (hm:m=m') (hS:S=S') (hx:x=x') (hy:y=y') (hok:ok=ok'):dz m S x y ok K=dz m' S' x' y' ok' K:=by cases hm;cases hS;cases hx;cases hy;cases hok;rfl
@[congr] theorem UD {m:Option (KK×DV)} {m':Option (KK×DV)} {S:St} {S':St} {x:DV} {x':DV} {y:DV} {y':DV} {d:DV} {d':DV} {K:St→Prop} (hm:m=m') (hS:S=S') (hx:x=x') (hy:y=y') (hd:d=d'):jX m S x y d K=jX m' S' x' y' d' K:=by cases hm;cases hS;cases hx;cases hy;cases hd;rfl
@[congr] theorem UF {m:Option (KK×DV)} {m':Option (KK×DV)} {S:St} {S':St} {x:DV} {x':DV} {y:DV} {y':DV} {K:St→Prop} (hm:m=m') (hS:S=S') (hx:x=x') (hy:y=y'):oV m S x y K=oV m' S' x' y' K:=by cases hm;cases hS;cases hx;cases hy;rfl
@[congr] theorem V2 {m:Option (KK×DV)} {m':Option (KK×DV)} {S:St} {S':St} {x:DV} {x':DV} {K:DV→St→Prop} (hm:m=m') (hS:S=S') (hx:x=x'):yx m S x K=yx m' S' x' K:=by cases hm;cases hS;cases hx;rfl
@[congr] theorem S3 {m:Option (KK×DV)} {m':Option (KK×DV)} {r:Option Operand} {S:St} {S':St} {K:DV→St→Prop} (hm:m=m') (hS:S=S'):jy m r S K=jy m' r S' K:=by cases hm;cases hS;rfl
@[congr] theorem Xi {S:St} {S':St} {x:DV} {x':DV} {s:Bool} {s':Bool} {K:DV→St→Prop} (hS:S=S') (hx:x=x') (hs:s=s'):Ex S x s K=Ex S' x' s' K:=by cases hS;cases hx;cases hs;rfl
@[congr] theorem Vz {S:St} {S':St} {x:DV} {x':DV} {K:DV→Prop} (hS:S=S') (hx:x=x'):ux S x K=ux S' x' K:=by cases hS;cases hx;rfl
@[congr] theorem aaE {α:Type} {o o':Option α} {F:α→Prop} (h:o=o'):oK o F=oK o' F:=by cases h;rfl
@[congr] theorem Yf {P:Program} {w0:W0} {op:Op} {fr:List DV} {fr':List DV} {S:St} {S':St} {K:DV→St→Prop} (hfr:fr=fr') (hS:S=S'):aJ P w0 op fr S K=aJ P w0 op fr' S' K:=by cases hfr;cases hS;rfl
@[congr] theorem Xv {P:Program} {w0:W0} {op:Op} {fr:List DV} {fr':List DV} {S:St} {S':St} {K:DV→Prop} (hfr:fr=fr') (hS:S=S'):aH P w0 op fr S K=aH P w0 op fr' S' K:=by cases hfr;cases hS;rfl
@[congr] theorem Xe {P:Program} {w0:W0} {cal:DV} {cal':DV} {ds:List DV} {ds':List DV} {S:St} {S':St} {K:DV→St→Prop} (hcal:cal=cal') (hds:ds=ds') (hS:S=S'):oS P w0 cal ds S K=oS P w0 cal' ds' S' K:=by cases hcal;cases hds;cases hS;rfl
@[congr] theorem UP {P:Program} {w0:W0} {cal:DV} {cal':DV} {ds:List DV} {ds':List DV} {S:St} {S':St} {K:DV→Prop} (hcal:cal=cal') (hds:ds=ds') (hS:S=S'):mz P w0 cal ds S K=mz P w0 cal' ds' S' K:=by cases hcal;cases hds;cases hS;rfl
@[congr] theorem Y5 {P:Program} {w0:W0} {ops:Array Oper} {K:List DV→St→Prop} {l:List Oper} {fr:List DV} {fr':List DV} {S:St} {S':St} (hfr:fr=fr') (hS:S=S'):xR P w0 ops K l fr S=xR P w0 ops K l fr' S':=by cases hfr;cases hS;rfl
@[congr] theorem Xq {P:Program} {op:BinOp} {t:TypeId} {cx:Bool} {cx':Bool} {cy:Bool} {cy':Bool} {x:DV} {x':DV} {y:DV} {y':DV} {K:DV→Prop} (hcx:cx=cx') (hcy:cy=cy') (hx:x=x') (hy:y=y'):lh P op t cx cy x y K=lh P op t cx' cy' x' y' K:=by cases hcx;cases hcy;cases hx;cases hy;rfl
@[congr] theorem Vn {P:Program} {t:TypeId} {parts:List (Nat×DV)} {parts':List (Nat×DV)} {K:DV→Prop} (hparts:parts=parts'):gF P t parts K=gF P t parts' K:=by cases hparts;rfl
@[congr] theorem Uw {P:Program} {t:TypeId} {ok:Bool} {ok':Bool} {x:DV} {x':DV} {K:DV→Prop} (hok:ok=ok') (hx:x=x'):rY P t ok x K=rY P t ok' x' K:=by cases hok;cases hx;rfl
@[congr] theorem Xb {P:Program} {fr:List DV} {fr':List DV} {S:St} {S':St} {K:DV→Prop} {r:ResultVar} (hfr:fr=fr') (hS:S=S'):rB P fr S K r=rB P fr' S' K r:=by cases hfr;cases hS;rfl
@[congr] theorem XA {P:Program} {fr:List DV} {fr':List DV} {S:St} {S':St} {r:List ResultVar} {K:List DV→Prop} (hfr:fr=fr') (hS:S=S'):ue P fr S r K=ue P fr' S' r K:=by cases hfr;cases hS;rfl
@[congr] theorem XJ {P:Program} {fr:List DV} {fr':List DV} {S:St} {S':St} {r:List ResultVar} {K:DV→Prop} (hfr:fr=fr') (hS:S=S'):tK P fr S r K=tK P fr' S' r K:=by cases hfr;cases hS;rfl
def eH(b:Bool)(A B:Prop):Prop:=match b with
 |true=>A
 |false=>B
theorem OC(A B:Prop):eH true A B=A:=rfl
theorem Ns(A B:Prop):eH false A B=B:=rfl
@[congr] theorem Yu {b b':Bool} {A B:Prop} (h:b=b'):eH b A B=eH b' A B:=by cases h;rfl
theorem NA(S:St)(ds:List DV)(F:List DV→St→Prop):iv S ds F=eH (iC ds) (F ds S∨gp S ds F) (gp S ds F):=by
 unfold iv eH;cases iC ds <;>rfl
attribute [go_sem ↓] OC Ns NA
def E2(S:St)(d:DV)(K:DV→St→Prop):Prop:=∀b,jj S.box b→K (.v (.pointer (some ⟨b,0,none⟩))) ⟨(b,cd d)::S.box,S.acc⟩
@[congr] theorem Y1 {S S':St} {d d':DV} {K:DV→St→Prop} (h1:S=S') (h2:d=d'):E2 S d K=E2 S' d' K:=by cases h1;cases h2;rfl
theorem D3(x:Operand):pS (.move x)=true:=rfl
theorem xi(x:Operand):pS (.assign x)=true:=rfl
theorem Cv(c a b:Operand):pS (.pick c a b)=true:=rfl
theorem Eb(t:TypeId)(x:Operand):pS (.load t x)=true:=rfl
theorem rE(t:TypeId)(x:Operand)(f:Nat):pS (.fieldAddr t x f)=true:=rfl
theorem rJ(t:TypeId)(x i:Operand):pS (.indexAddr t x i)=true:=rfl
theorem uV(x:Operand)(i:Nat):pS (.extract x i)=true:=rfl
theorem sM(x:Operand):pS (.nilCheck x)=true:=rfl
theorem Bn(b:BinOp)(t:TypeId)(x y:Operand)(t':TypeId):pS (.binOp b t x y t')=true:=rfl
theorem C9(b:UnOp)(t:TypeId)(x:Operand):pS (.unOp b t x)=true:=rfl
theorem uY(s d:TypeId)(x:Operand):pS (.convert s d x)=true:=rfl
theorem zO(t:TypeId)(parts:Array (Nat×Operand)):pS (.build t parts)=true:=rfl
theorem pW(t:TypeId)(len:Nat)(parts:Array (Nat×Operand)):pS (.buildSlice t len parts)=true:=rfl
theorem zm(t:TypeId)(x:Operand)(lo hi mx:Option Operand):pS (.slice t x lo hi mx)=true:=rfl
theorem Ik(t:TypeId)(x:Operand):pS (.box t x)=false:=rfl
theorem Ab(t:TypeId)(x y:Operand):pS (.store t x y)=false:=rfl
theorem G0(x:Operand)(a:Array Operand)(ts:Array TypeId):pS (.call ⟨.value x,a,ts⟩)=true:=rfl
theorem F3(x:Operand)(m:String)(a:Array Operand)(ts:Array TypeId):pS (.call ⟨.invoke x m,a,ts⟩)=true:=rfl
theorem Bf(a:Array Operand)(ts:Array TypeId):pS (.call ⟨.builtin .len,a,ts⟩)=true:=rfl
theorem yJ(a:Array Operand)(ts:Array TypeId):pS (.call ⟨.builtin .min,a,ts⟩)=true:=rfl
theorem tQ(a:Array Operand)(ts:Array TypeId):pS (.call ⟨.builtin .append,a,ts⟩)=false:=rfl
theorem xd(a:Array Operand)(ts:Array TypeId):pS (.call ⟨.builtin .copy,a,ts⟩)=false:=rfl
theorem Me(fr:List DV)(t:Nat):ev fr (.tmp t)=fr.getD t ud:=rfl
theorem C1(fr:List DV)(u:Value):ev fr (.const u)=cv u:=rfl
theorem GX(fr:List DV)(f:FuncId):ev fr (.func f)= .v (.func (.func f) #[] #[]):=rfl
theorem Hc(fr:List DV)(t:Nat)(d:DV):pt fr (some t) d=fr.set t d:=rfl
theorem GQ(fr:List DV)(d:DV):pt fr none d=fr:=rfl
theorem Jc(k:IntKind)(n:Int):cv (.int k n)= .v (.int k n):=rfl
theorem HB(b:Bool):cv (.bool b)= .v (.bool b):=rfl
theorem IN(s:ByteArray):cv (.string s)= .v (.string s):=rfl
theorem LL:cv (.slice none 0 0)= .sl 0 true []:=rfl
theorem Lu:cv (.nilIface)= .v .nilIface:=rfl
theorem L0:cv (.nilFunc)= .v .nilFunc:=rfl
theorem Az:rC (.str)=false:=rfl
theorem DN(fs:List (Nat×Nat×Bool))(n:Nat):rC (.st fs n)=false:=rfl
theorem Ed:tO (.str)=false:=rfl
theorem DH(k:IntKind):tO (.int k)=true:=rfl
theorem G3(e s b:Nat)(i:Bool):tO (.sl e s b i)=false:=rfl
theorem xY:oA (.str)=true:=rfl
theorem Bh(e s b:Nat)(i:Bool):oA (.sl e s b i)=true:=rfl
theorem Lq(u:Value):vj (.v u)=true:=rfl
theorem G9(s:Nat)(f:Bool)(xs:List DV):vj (.sl s f xs)=true:=rfl
theorem Ha(u:Value):gn (.v u)=true:=rfl
theorem C8(s:Nat)(f:Bool)(xs:List DV):gn (.sl s f xs)=true:=rfl
theorem zQ(ds:List DV):gn (.agg ds)=ds.all vj:=rfl
theorem HA(t:Nat):zP (.tmp t)=false:=rfl
theorem zB(u:Value):zP (.const u)=true:=rfl
theorem BG:fw []=some []:=rfl
theorem M1(u:Value)(ds:List DV):fw (.v u::ds)=(fw ds).map (u::·):=rfl
theorem A6(fs:List (Nat×Nat×Bool))(ds:List DV):kE fs ds []=some ds:=rfl
def XL(p:Option (Nat×Nat×Bool))(fs:List (Nat×Nat×Bool))(d:DV)(ds:List DV)(rest:List (Nat×DV)):Option (List DV):=match p with
 |none=>none
 |some (off,sz,_)=>if eI d&&(cd d).length==sz&&decide (off+sz≤ds.length)then kE fs (gE ds off (cd d)) rest else none
theorem xh(fs:List (Nat×Nat×Bool))(ds:List DV)(i:Nat)(d:DV)(rest:List (Nat×DV)):kE fs ds ((i,d)::rest)=XL (fs[i]?) fs d ds rest:=by rw[kE];unfold XL;cases fs[i]? <;>rfl
theorem U5(off sz:Nat)(ag:Bool)(fs:List (Nat×Nat×Bool))(d:DV)(ds:List DV)(rest:List (Nat×DV)):XL (some (off,sz,ag)) fs d ds rest=if eI d&&(cd d).length==sz&&decide (off+sz≤ds.length)then kE fs (gE ds off (cd d)) rest else none:=rfl
theorem zL(s:Nat)(ds:List DV):nI s ds []=some ds:=rfl
theorem yw(s:Nat)(ds:List DV)(i:Nat)(d:DV)(rest:List (Nat×DV)):nI s ds ((i,d)::rest)=if eI d&&(cd d).length==s&&decide (i<ds.length)then nI s (ds.set i d) rest else none:=rfl
theorem x9(ds:List DV)(o:Nat):gE ds o []=ds:=rfl
theorem va(ds:List DV)(o:Nat)(c:DV)(cs:List DV):gE ds o (c::cs)=gE (ds.set o c) (o+1) cs:=rfl
theorem A7(d:DV)(n:Nat)(y:DV):rp d 0 n n y=some y:=by simp[rp]
theorem BA(ds:List DV)(o n s:Nat)(y:DV):rp (.agg ds) o n s y=if o=0∧n=s then some y else some (.agg (gE ds o (cd y))):=rfl
theorem D9(k:Nat)(x:Ob)(t:List (Nat×Ob))(p:Nat×Ob):rr ((k,x)::t) k p=p::t:=by simp[rr]
theorem IP{k n:Nat}(h:¬k=n)(x:Ob)(t:List (Nat×Ob))(p:Nat×Ob):rr ((k,x)::t) n p=(k,x)::rr t n p:=by simp[rr,h]
theorem Cg(k:IntKind):sameKind .add k k=true:=by simp[sameKind]
theorem CK(k:IntKind):sameKind .sub k k=true:=by simp[sameKind]
theorem CU(k:IntKind):sameKind .mul k k=true:=by simp[sameKind]
theorem B4(k:IntKind):sameKind .quo k k=true:=by simp[sameKind]
theorem DL(k:IntKind):sameKind .and k k=true:=by simp[sameKind]
theorem B8(k:IntKind):sameKind .xor k k=true:=by simp[sameKind]
theorem DC(k:IntKind):sameKind .eql k k=true:=by simp[sameKind]
theorem D2(k:IntKind):sameKind .neq k k=true:=by simp[sameKind]
theorem CL(k:IntKind):sameKind .lss k k=true:=by simp[sameKind]
theorem CF(k:IntKind):sameKind .leq k k=true:=by simp[sameKind]
theorem Cp(k:IntKind):sameKind .gtr k k=true:=by simp[sameKind]
theorem CY(k:IntKind):sameKind .geq k k=true:=by simp[sameKind]
theorem DB(k k':IntKind):sameKind .shr k k'=true:=rfl
theorem u6{α:Type}(a:α):List.replicate 0 a=[]:=rfl
theorem vc{α:Type}(n:Nat)(a:α):List.replicate (n+1) a=a::List.replicate n a:=rfl
theorem Pf{α:Type}(a b:α)(l:List α):(a::l).set 0 b=b::l:=rfl
theorem Pm{α:Type}(a b:α)(l:List α)(n:Nat):(a::l).set (n+1) b=a::l.set n b:=rfl
theorem XQ(live:List Nat)(fr:List DV):wk live fr=fq (vp fr 0 live):=rfl
theorem Gv(i:Nat)(js:List Nat):vp [] i js=[]:=rfl
theorem Ps(d:DV)(ds:List DV)(i:Nat):vp (d::ds) i []= .any::vp ds (i+1) []:=rfl
theorem N4(d:DV)(ds:List DV)(i j:Nat)(js:List Nat):vp (d::ds) i (j::js)=if i=j then d::vp ds (i+1) js else .any::vp ds (i+1) (j::js):=rfl
theorem En(fr:List DV):pd fr []=fr:=rfl
theorem Aw(fr:List DV)(i:Nat)(d:DV)(us:List (Nat×DV)):pd fr ((i,d)::us)=pd (fr.set i d) us:=rfl
theorem Hg{α:Type}(l:List α):List.append [] l=l:=rfl
theorem BZ{α:Type}(a:α)(l m:List α):List.append (a::l) m=a::List.append l m:=rfl
theorem Gu(w0:W0)(fr:List DV)(n:Nat)(F:DV→Prop):Hb w0 fr (.tmp n) F=F (ev fr (.tmp n)):=rfl
theorem Cr(w0:W0)(fr:List DV)(b:Nat)(F:DV→Prop):Hb w0 fr (.global b) F=rj w0 b F:=rfl
theorem TU{P:Program}{w0:W0}{fr:List DV}{S:St}{K:DV→St→Prop}(x:Operand):aJ P w0 (.move x) fr S K=(K (ev fr x) S):=rfl
theorem JC{P:Program}{w0:W0}{fr:List DV}{S:St}{K:DV→St→Prop}(x:Operand):aJ P w0 (.assign x) fr S K=(K (ev fr x) S):=rfl
theorem SG{P:Program}{w0:W0}{fr:List DV}{S:St}{K:DV→St→Prop}(c a b:Operand):aJ P w0 (.pick c a b) fr S K=(jh (ev fr c) (ev fr a) (ev fr b) (K · S)):=rfl
theorem TM{P:Program}{w0:W0}{fr:List DV}{S:St}{K:DV→St→Prop}(t:TypeId)(x:Operand):aJ P w0 (.load t x) fr S K=(bN (tk P t) S (ev fr x) (K · S)):=rfl
theorem Ba{P:Program}{w0:W0}{fr:List DV}{S:St}{K:DV→St→Prop}(t:TypeId)(x:Operand)(f:Nat):aJ P w0 (.fieldAddr t x f) fr S K=(gY (tk P t) f (ev fr x) (K · S)):=rfl
theorem yO{P:Program}{w0:W0}{fr:List DV}{S:St}{K:DV→St→Prop}(t:TypeId)(x i:Operand):aJ P w0 (.indexAddr t x i) fr S K=(Hb w0 fr x fun d=>aG (tk P t) d (ev fr i) (K · S)):=rfl
theorem H8{P:Program}{w0:W0}{fr:List DV}{S:St}{K:DV→St→Prop}(x:Operand)(i:Nat):aJ P w0 (.extract x i) fr S K=(dQ i (ev fr x) (K · S)):=rfl
theorem BQ{P:Program}{w0:W0}{fr:List DV}{S:St}{K:DV→St→Prop}(x:Operand):aJ P w0 (.nilCheck x) fr S K=(notNil (ev fr x)=true∧K (ev fr x) S):=rfl
theorem Ql{P:Program}{w0:W0}{fr:List DV}{S:St}{K:DV→St→Prop}(b:BinOp)(t:TypeId)(x y:Operand)(t':TypeId):aJ P w0 (.binOp b t x y t') fr S K=(eH (iE y) (mQ b (tk P t) (ev fr x) (K · S)) (lh P b t (zP x) (zP y) (ev fr x) (ev fr y) (K · S))):=by simp only[aJ];unfold eH;cases iE y <;>rfl
theorem Ud{P:Program}{w0:W0}{fr:List DV}{S:St}{K:DV→St→Prop}(b:UnOp)(t:TypeId)(x:Operand):aJ P w0 (.unOp b t x) fr S K=(Gk b (ev fr x) (K · S)):=rfl
theorem HD{P:Program}{w0:W0}{fr:List DV}{S:St}{K:DV→St→Prop}(s d:TypeId)(x:Operand):aJ P w0 (.convert s d x) fr S K=(jF (tk P s) (tk P d) (tk P (ef P s)) (tk P (ef P d)) S (ev fr x) (K · S)):=rfl
theorem Pz{P:Program}{w0:W0}{fr:List DV}{S:St}{K:DV→St→Prop}(t:TypeId)(x:Operand):aJ P w0 (.makeInterface t x) fr S K=(rC (tk P t)=false∧shr S (ev fr x) fun d S=>K (.jH t d) S):=rfl
theorem Pt{P:Program}{w0:W0}{fr:List DV}{S:St}{K:DV→St→Prop}(t:TypeId)(parts:List (Nat×Operand)):aJ P w0 (.build t parts.toArray) fr S K=(gp S (parts.map fun p=>ev fr p.2) fun ds S=>gF P t ((parts.map (·.1)).zip ds) (K · S)):=rfl
theorem ye{P:Program}{w0:W0}{fr:List DV}{S:St}{K:DV→St→Prop}(t:TypeId)(len:Nat)(parts:List (Nat×Operand)):aJ P w0 (.buildSlice t len parts.toArray) fr S K=(gp S (parts.map fun p=>ev fr p.2) fun ds S=>aP (tk P t) (zD P (ef P t)) len ((parts.map (·.1)).zip ds) (K · S)):=rfl
theorem Dt{P:Program}{w0:W0}{fr:List DV}{S:St}{K:DV→St→Prop}(fn:Fn)(a b:List Operand):aJ P w0 (.makeFunc fn a.toArray b.toArray) fr S K=(mB fn (a.map (ev fr)) (b.map (ev fr)) (K · S)):=rfl
theorem Qg{P:Program}{w0:W0}{fr:List DV}{S:St}{K:DV→St→Prop}(t:TypeId)(x:Operand)(lo hi mx:Option Operand):aJ P w0 (.slice t x lo hi mx) fr S K=((mx.isSome=true→hi.isSome=true)∧ic (tk P t) S (ev fr x) (lo.map (ev fr)) (hi.map (ev fr)) (mx.map (ev fr)) K):=rfl
theorem Wm{P:Program}{w0:W0}{fr:List DV}{S:St}{K:DV→St→Prop}(t:TypeId)(x:Operand):aJ P w0 (.box t x) fr S K=(eI (ev fr x)=true∧E2 S (ev fr x) K):=rfl
theorem PD{P:Program}{w0:W0}{fr:List DV}{S:St}{K:DV→St→Prop}(t:TypeId):aJ P w0 (.alloc t) fr S K=(eI (zD P t)=true∧E2 S (zD P t) K):=rfl
theorem N3{P:Program}{w0:W0}{fr:List DV}{S:St}{K:DV→St→Prop}(t:TypeId)(x y:Operand):aJ P w0 (.store t x y) fr S K=((P.info? t).isSome=true∧fG (P.cellsOf t) S (ev fr x) (ev fr y) (K ud)):=rfl
theorem A3{P:Program}{w0:W0}{fr:List DV}{S:St}{K:DV→St→Prop}(t:TypeId)(x y:Operand):aJ P w0 (.makeSlice t x y) fr S K=(fN (tk P t) (zD P (ef P t)) (ev fr x) (ev fr y) S K):=rfl
theorem Ve{P:Program}{w0:W0}{fr:List DV}{S:St}{K:DV→St→Prop}(x:Operand)(t:TypeId):aJ P w0 (.call ⟨.builtin .len, #[x], #[t]⟩) fr S K=(oq (tk P t) (ev fr x) (K · S)):=rfl
theorem UR{P:Program}{w0:W0}{fr:List DV}{S:St}{K:DV→St→Prop}(x:Operand)(t:TypeId):aJ P w0 (.call ⟨.builtin .cap, #[x], #[t]⟩) fr S K=(rG (tk P t) (ev fr x) (K · S)):=rfl
theorem Kv{P:Program}{w0:W0}{fr:List DV}{S:St}{K:DV→St→Prop}(x y:Operand)(t t':TypeId):aJ P w0 (.call ⟨.builtin .append, #[x,y], #[t,t']⟩) fr S K=(eH (s6 (ev fr x)) (eH (tO (tk P t')) (rm (tk P t) (zD P (ef P t)) S (ev fr x) (ev fr y) K) (rz (tk P t) (tk P t') S (ev fr x) (ev fr y) K)) (eH (tO (tk P t')) (lK (tk P t) (zD P (ef P t)) S (ev fr x) (ev fr y) K) (lM (tk P t) (tk P t') S (ev fr x) (ev fr y) K))):=by simp only[aJ];unfold eH;cases s6 (ev fr x) <;>cases tO (tk P t') <;>rfl
theorem TF{P:Program}{w0:W0}{fr:List DV}{S:St}{K:DV→St→Prop}(x y:Operand)(t t':TypeId):aJ P w0 (.call ⟨.builtin .copy, #[x,y], #[t,t']⟩) fr S K=(oN (tk P t) S (ev fr x) (ev fr y) K):=rfl
theorem PL{P:Program}{w0:W0}{fr:List DV}{S:St}{K:DV→St→Prop}(x:Operand)(t:TypeId):aJ P w0 (.call ⟨.builtin .clear, #[x], #[t]⟩) fr S K=(mG (tk P t) (zD P (ef P t)) S (ev fr x) K):=rfl
theorem Vj{P:Program}{w0:W0}{fr:List DV}{S:St}{K:DV→St→Prop}(x y:Operand)(ts:Array TypeId):aJ P w0 (.call ⟨.builtin .min, #[x,y],ts⟩) fr S K=(rH (ev fr x) (ev fr y) (K · S)):=rfl
theorem VB{P:Program}{w0:W0}{fr:List DV}{S:St}{K:DV→St→Prop}(x y:Operand)(ts:Array TypeId):aJ P w0 (.call ⟨.builtin .max, #[x,y],ts⟩) fr S K=(rR (ev fr x) (ev fr y) (K · S)):=rfl
theorem SH{P:Program}{w0:W0}{fr:List DV}{S:St}{K:DV→St→Prop}(cal:Operand)(a:List Operand)(ts:Array TypeId):aJ P w0 (.call ⟨.value cal,a.toArray,ts⟩) fr S K=(oS P w0 (ev fr cal) (a.map (ev fr)) S K):=rfl
theorem Jr{P:Program}{w0:W0}{fr:List DV}{S:St}{K:DV→St→Prop}(r:Operand)(name:String)(a:List Operand)(ts:Array TypeId):aJ P w0 (.call ⟨.invoke r name,a.toArray,ts⟩) fr S K=(uy P (ev fr r) name fun f d=>iv S (d::a.map (ev fr)) fun ds S=>@AC P w0 f ds S ⟨K⟩):=rfl
theorem L5{P:Program}{w0:W0}{fr:List DV}{S:St}{K:DV→St→Prop}(t:TypeId)(x y:Operand)(ok:Bool):aJ P w0 (.lookup t x y ok) fr S K=(dz (su P t) S (ev fr x) (ev fr y) ok (K · S)):=rfl
theorem zb{P:Program}{w0:W0}{fr:List DV}{S:St}{K:DV→St→Prop}(t:TypeId)(x y z:Operand):aJ P w0 (.mapUpdate t x y z) fr S K=(jX (su P t) S (ev fr x) (ev fr y) (ev fr z) (K ud)):=rfl
theorem Gp{P:Program}{w0:W0}{fr:List DV}{S:St}{K:DV→St→Prop}(t:TypeId)(r:Option Operand):aJ P w0 (.makeMap t r) fr S K=(jy (su P t) r S K):=rfl
theorem Tg{P:Program}{w0:W0}{fr:List DV}{S:St}{K:DV→Prop}(x:Operand):aH P w0 (.move x) fr S K=(K (ev fr x)):=rfl
theorem JX{P:Program}{w0:W0}{fr:List DV}{S:St}{K:DV→Prop}(x:Operand):aH P w0 (.assign x) fr S K=(K (ev fr x)):=rfl
theorem Uk{P:Program}{w0:W0}{fr:List DV}{S:St}{K:DV→Prop}(c a b:Operand):aH P w0 (.pick c a b) fr S K=(jh (ev fr c) (ev fr a) (ev fr b) K):=rfl
theorem RU{P:Program}{w0:W0}{fr:List DV}{S:St}{K:DV→Prop}(t:TypeId)(x:Operand):aH P w0 (.load t x) fr S K=(bN (tk P t) S (ev fr x) K):=rfl
theorem zn{P:Program}{w0:W0}{fr:List DV}{S:St}{K:DV→Prop}(t:TypeId)(x:Operand)(f:Nat):aH P w0 (.fieldAddr t x f) fr S K=(gY (tk P t) f (ev fr x) K):=rfl
theorem A1{P:Program}{w0:W0}{fr:List DV}{S:St}{K:DV→Prop}(t:TypeId)(x i:Operand):aH P w0 (.indexAddr t x i) fr S K=(Hb w0 fr x fun d=>aG (tk P t) d (ev fr i) K):=rfl
theorem G6{P:Program}{w0:W0}{fr:List DV}{S:St}{K:DV→Prop}(x:Operand)(i:Nat):aH P w0 (.extract x i) fr S K=(dQ i (ev fr x) K):=rfl
theorem CP{P:Program}{w0:W0}{fr:List DV}{S:St}{K:DV→Prop}(x:Operand):aH P w0 (.nilCheck x) fr S K=(notNil (ev fr x)=true∧K (ev fr x)):=rfl
theorem OB{P:Program}{w0:W0}{fr:List DV}{S:St}{K:DV→Prop}(b:BinOp)(t:TypeId)(x y:Operand)(t':TypeId):aH P w0 (.binOp b t x y t') fr S K=(iE y=false∧lh P b t (zP x) (zP y) (ev fr x) (ev fr y) K):=rfl
theorem S4{P:Program}{w0:W0}{fr:List DV}{S:St}{K:DV→Prop}(b:UnOp)(t:TypeId)(x:Operand):aH P w0 (.unOp b t x) fr S K=(Gk b (ev fr x) K):=rfl
theorem GF{P:Program}{w0:W0}{fr:List DV}{S:St}{K:DV→Prop}(s d:TypeId)(x:Operand):aH P w0 (.convert s d x) fr S K=(iM (tk P s) (tk P d) (ev fr x) K):=rfl
theorem DR{P:Program}{w0:W0}{fr:List DV}{S:St}{K:DV→Prop}(fn:Fn)(a b:List Operand):aH P w0 (.makeFunc fn a.toArray b.toArray) fr S K=(mB fn (a.map (ev fr)) (b.map (ev fr)) K):=rfl
theorem Ot{P:Program}{w0:W0}{fr:List DV}{S:St}{K:DV→Prop}(t:TypeId)(x:Operand)(lo hi mx:Option Operand):aH P w0 (.slice t x lo hi mx) fr S K=((mx.isSome=true→hi.isSome=true)∧vj (ev fr x)=true∧fu (tk P t) (ev fr x) (lo.map (ev fr)) (hi.map (ev fr)) (mx.map (ev fr)) K):=rfl
theorem Pb{P:Program}{w0:W0}{fr:List DV}{S:St}{K:DV→Prop}(t:TypeId)(parts:List (Nat×Operand)):aH P w0 (.build t parts.toArray) fr S K=((parts.map fun p=>ev fr p.2).all gn=true∧gF P t ((parts.map (·.1)).zip (parts.map fun p=>ev fr p.2)) K):=rfl
theorem xH{P:Program}{w0:W0}{fr:List DV}{S:St}{K:DV→Prop}(t:TypeId)(len:Nat)(parts:List (Nat×Operand)):aH P w0 (.buildSlice t len parts.toArray) fr S K=((parts.map fun p=>ev fr p.2).all gn=true∧aP (tk P t) (zD P (ef P t)) len ((parts.map (·.1)).zip (parts.map fun p=>ev fr p.2)) K):=rfl
theorem V1{P:Program}{w0:W0}{fr:List DV}{S:St}{K:DV→Prop}(x:Operand)(t:TypeId):aH P w0 (.call ⟨.builtin .len, #[x], #[t]⟩) fr S K=(oq (tk P t) (ev fr x) K):=rfl
theorem VO{P:Program}{w0:W0}{fr:List DV}{S:St}{K:DV→Prop}(x y:Operand)(ts:Array TypeId):aH P w0 (.call ⟨.builtin .min, #[x,y],ts⟩) fr S K=(rH (ev fr x) (ev fr y) K):=rfl
theorem WG{P:Program}{w0:W0}{fr:List DV}{S:St}{K:DV→Prop}(x y:Operand)(ts:Array TypeId):aH P w0 (.call ⟨.builtin .max, #[x,y],ts⟩) fr S K=(rR (ev fr x) (ev fr y) K):=rfl
theorem M0{P:Program}{w0:W0}{fr:List DV}{S:St}{K:DV→Prop}(r:Operand)(name:String)(a:List Operand)(ts:Array TypeId):aH P w0 (.call ⟨.invoke r name,a.toArray,ts⟩) fr S K=(uy P (ev fr r) name fun f d=>mz P w0 (.v (.func (.func f) #[] #[])) (d::a.map (ev fr)) S K):=rfl
theorem SE{P:Program}{w0:W0}{fr:List DV}{S:St}{K:DV→Prop}(cal:Operand)(a:List Operand)(ts:Array TypeId):aH P w0 (.call ⟨.value cal,a.toArray,ts⟩) fr S K=(mz P w0 (ev fr cal) (a.map (ev fr)) S K):=rfl
attribute [go_sem ↓] TU JC SG TM Ba yO H8 BQ Ql Ud HD Pz Pt ye Dt Qg Wm PD N3 A3 Ve UR Kv TF PL Vj VB SH Jr L5 zb Gp Tg
attribute [go_sem ↓] JX Uk RU zn A1 G6 CP OB S4 GF DR Ot Pb xH V1 VO WG M0 SE
attribute [go_sem] D3 xi Cv Eb rE rJ uV sM Bn C9 uY zO pW zm Ik Ab G0 F3 Bf yJ tQ xd Me
attribute [go_sem] C1 GX Hc GQ Jc HB IN LL Lu L0 Az DN Ed DH G3
attribute [go_sem] xY Bh Lq G9 Ha C8 zQ HA zB BG M1 A6 xh U5 zL
attribute [go_sem] yw x9 va A7 BA D9 IP Cg CK CU B4 DL B8 DC D2 CL CF Cp CY DB u6 vc Pf Pm XQ Gv Ps N4 En Aw Hg BZ Gu
attribute [go_sem] Cr
section
variable {P:Program} {w0:W0} {K:DV→Prop} {A B:Prop} {F G:List DV→Prop}
/- Tests:what is known is gone by;what can't be known parts the gi. -/
theorem MV:fZ (.v (.bool true)) A B=A:=by simp[fZ]
theorem LB:fZ (.v (.bool false)) A B=B:=by simp[fZ]
theorem Mz(p:Prop)[Decidable p]:fZ (.v (.bool (decide p))) A B=((p→A)∧(¬p→B)):=by simp[fZ]
theorem Ky(b:Bool):fZ (.v (.bool (!b))) A B=fZ (.v (.bool b)) B A:=by
 simp only[fZ,Bool.not_eq_eq_eq_not,Bool.not_true,Bool.not_false]
 exact propext ⟨fun h=>⟨h.2,h.1⟩,fun h=>⟨h.2,h.1⟩⟩
theorem KS(b:Bool):fZ (.v (.bool b)) A B=((b=true→A)∧(b=false→B)):=rfl
theorem LP(a b:DV):jh (.v (.bool true)) a b K=K a:=by simp[jh]
theorem KI(a b:DV):jh (.v (.bool false)) a b K=K b:=by simp[jh]
/- A choice between what is known is the test itself. -/
theorem N1(t:Nat)(fr:List DV):gD t (.v (.bool true)) fr true F G=F (fr.set t (.v (.bool true))):=by simp[gD]
theorem O4(t:Nat)(fr:List DV):gD t (.v (.bool true)) fr false F G=G (fr.set t (.v (.bool true))):=by simp[gD]
theorem Pd(t:Nat)(fr:List DV):gD t (.v (.bool false)) fr true F G=G (fr.set t (.v (.bool false))):=by simp[gD]
theorem Qm(t:Nat)(fr:List DV):gD t (.v (.bool false)) fr false F G=F (fr.set t (.v (.bool false))):=by simp[gD]
theorem OZ(p:Prop)[Decidable p](t:Nat)(fr:List DV):gD t (.v (.bool (decide p))) fr true F G=((p→F (fr.set t (.v (.bool true))))∧(¬p→G (fr.set t (.v (.bool false))))):=by simp[gD]
theorem OF(p:Prop)[Decidable p](t:Nat)(fr:List DV):gD t (.v (.bool (decide p))) fr false F G=((p→G (fr.set t (.v (.bool true))))∧(¬p→F (fr.set t (.v (.bool false))))):=by
 simp only[gD,decide_eq_false_iff_not,Bool.not_false,decide_eq_true_eq]
 exact propext ⟨fun h=>⟨h.2,h.1⟩,fun h=>⟨h.2,h.1⟩⟩
theorem Ff(b:Bool)(t:Nat)(fr:List DV):gD t (.v (.bool b)) fr true F G=((b=true→F (fr.set t (.v (.bool true))))∧(b=false→G (fr.set t (.v (.bool false))))):=by simp[gD]
theorem Oz(b:Bool)(t:Nat)(fr:List DV):gD t (.v (.bool b)) fr false F G=((b=true→G (fr.set t (.v (.bool true))))∧(b=false→F (fr.set t (.v (.bool false))))):=by
 simp only[gD,Bool.not_false]
 exact propext ⟨fun h=>⟨h.2,h.1⟩,fun h=>⟨h.2,h.1⟩⟩
end
attribute [go_sem ↓] MV LB Mz Ky LP KI N1 O4 Pd Qm OZ OF
attribute [go_sem ↓ low] KS Ff Oz
attribute [go_sem] List.length_cons List.length_nil List.length_map List.cons_append List.nil_append List.map_cons List.map_nil List.zip_cons_cons List.zip_nil_right
section
variable {P:Program} {w0:W0} {ops:Array Oper} {K:List DV→St→Prop} {fr:List DV} {S:St} {rest:List Oper} {dst:Option Tmp} {op:Op} {ty:TypeId} {pos:String} {aft:Array Edge}
theorem Ga:xR P w0 ops K [] fr S=K fr S:=rfl
theorem Eh:xR P w0 ops K (⟨dst,op,ty,pos,aft,none⟩::rest) fr S=aJ P w0 op fr S fun d S'=>xR P w0 ops K rest (pt fr dst d) S':=rfl
theorem Ct(j:Nat)(want:Bool):xR P w0 ops K (⟨dst,op,ty,pos,aft,some (j,want)⟩::rest) fr S=gK ((ops[j]?).bind (·.dst)) fr want (fun fr=>aJ P w0 op fr S fun d S'=>xR P w0 ops K rest (pt fr dst d) S') (fun fr=>xR P w0 ops K rest (pt fr dst ud) S):=wW _ _ _ _ _ _
end
def QC(P:Program)(w0:W0)(f:FuncId)(ds:List DV)(S:St)[K:Cn (DV→Prop)]:Prop:=∃d,aa P w0 f ds S (fun d' S'=>d'=d∧S'=S)∧K.k d
theorem Qx{P:Program}{w0:W0}(f:FuncId)(a cap:Array Value)(ds:List DV)(S:St)(K:DV→Prop):mz P w0 (.v (.func (.func f) a cap)) ds S K=(a.size=0∧okF P f=true∧cap.toList.all (fun u=>u.oneCell')=true∧ds.all gn=true∧@QC P w0 f (ds++cap.toList.map .v) S ⟨K⟩):=rfl
attribute [go_sem ↓] Ga Eh Ct Qx kJ sX nL jO ue wc
attribute [go_sem] List.getD_cons_succ List.getD_cons_zero List.getElem?_cons_succ List.getElem?_cons_zero List.getElem?_toArray Option.bind_some List.all_cons List.all_nil Bool.and_self Bool.and_true
attribute [go_sem] Nat.zero_add true_and and_true List.drop_zero List.drop_succ_cons List.take_succ_cons List.take_zero Option.map_some Option.map_none Option.isSome_some Option.isSome_none Option.isNone_none Option.isNone_some
attribute [go_sem] Bool.false_eq_true if_true if_false or_true true_or false_or or_false forall_const false_implies imp_self Bool.not_true Bool.not_false beq_self_eq_true decide_eq_true_eq decide_eq_false_iff_not decide_true decide_false
attribute [go_sem] Int.toNat_natCast Int.natCast_nonneg Int.ofNat_lt Int.ofNat_le Int.natCast_inj List.getElem?_map Option.map_eq_some_iff forall_exists_index and_imp forall_apply_eq_imp_iff₂ forall_eq_apply_imp_iff ne_eq not_false_eq_true not_true_eq_false
attribute [go_sem] List.size_toArray List.append_nil Int.le_refl Nat.le_refl List.drop_nil List.take_nil Int.toNat_zero Int.natCast_zero Int.natCast_one Int.cast_ofNat_Int Bool.or_true Bool.or_false Bool.true_or Bool.false_or Bool.false_and Bool.and_false Bool.true_and List.isEmpty_nil List.isEmpty_cons
attribute [go_sem] dI dU dY dB dS Nat.lt_add_one forall_eq forall_eq' true_implies implies_true Option.some.injEq
structure FN{α:Type}(l:List (Nat×α)) where
 m:Nat
 h:jj l m
def FN.n{α:Type}{l:List (Nat×α)}(b:FN l):Nat:=b.m
theorem rT{α:Type}(l:List (Nat×α))(F:Nat→Prop):(∀b,jj l b→F b)=∀b:FN l,F b.n:=propext ⟨fun h b=>h b.n b.h,fun h b hb=>h ⟨b,hb⟩⟩
theorem mL{α:Type}:∀{l:List (Nat×α)} {b:Nat},jj l b→lk l b=none
 |[],_,_=>rfl
 |(k,x)::t,b,h=>by
  simp only[jj]at h
  unfold lk
  rw[if_neg (by first|exact fun e=>h.1 e|exact fun e=>h.1 e.symm)]
  exact mL (by first|exact h.2|exact h.2.2)
theorem jl{α:Type}{l:List (Nat×α)}(b:FN l):lk l b.n=none:=mL b.h
theorem PH{α:Type}{l:List (Nat×α)}(b:FN l)(c:Nat)(h:(lk l c).isSome=true):(b.n=c)=False:=by
 refine eq_false fun e=>?_
 subst e;rw[show lk l b.n=none from mL b.h]at h;cases h
theorem KJ{α:Type}{l:List (Nat×α)}(b:FN l)(c:Nat)(h:(lk l c).isSome=true):(c=b.n)=False:=by
 refine eq_false fun e=>?_
 subst e;rw[show lk l b.n=none from mL b.h]at h;cases h
section
variable {S:St} {K:DV→St→Prop}
theorem SX(d:DV):E2 S d K=∀b:FN S.box,K (.v (.pointer (some ⟨b.n,0,none⟩))) ⟨(b.n,cd d)::S.box,S.acc⟩:=rT S.box fun b=>K (.v (.pointer (some ⟨b,0,none⟩))) ⟨(b,cd d)::S.box,S.acc⟩
theorem LC(ds:List DV):E2 S (.agg ds) K=∀b:FN S.box,K (.v (.pointer (some ⟨b.n,0,none⟩))) ⟨(b.n,ds)::S.box,S.acc⟩:=SX _
theorem RN(u:Value):E2 S (.v u) K=∀b:FN S.box,K (.v (.pointer (some ⟨b.n,0,none⟩))) ⟨(b.n,[.v u])::S.box,S.acc⟩:=SX _
theorem Qj(s:Nat)(f:Bool)(xs:List DV):E2 S (.sl s f xs) K=∀b:FN S.box,K (.v (.pointer (some ⟨b.n,0,none⟩))) ⟨(b.n,[.sl s f xs])::S.box,S.acc⟩:=SX _
end
theorem HN(kk:KK)(z:DV)(S:St)(K:DV→St→Prop):jy (some (kk,z)) none S K=∀l:FN S.acc,K (.mp l.n) ⟨S.box,(l.n,.xo (.mp kk [] 0))::S.acc⟩:=by
 unfold jy
 simp only[oK,true_and]
 exact rT S.acc fun l=>K (.mp l) ⟨S.box,(l,.xo (.mp kk [] 0))::S.acc⟩
attribute [go_sem ↓] HN
attribute [go_sem ↓] rT LC RN Qj
attribute [go_sem] PH KJ Option.isSome_some
noncomputable def pB(P:Prop):Bool:=@decide P (Classical.propDecidable P)
theorem lA{P:Prop}(h:P):pB P=true:=@decide_eq_true _ (Classical.propDecidable _) h
theorem pn{P:Prop}(h:¬P):pB P=false:=@decide_eq_false _ (Classical.propDecidable _) h
theorem tM(P:Prop):(pB P=true)=P:=propext ⟨fun h=>@of_decide_eq_true _ (Classical.propDecidable _) h,lA⟩
theorem EK(P:Prop):(pB P=false)=¬P:=propext ⟨fun h=>@of_decide_eq_false _ (Classical.propDecidable _) h,pn⟩
theorem VV(P:Prop):(true=pB P)=P:=(propext eq_comm).trans (tM P)
theorem Wd(P:Prop):(false=pB P)=¬P:=(propext eq_comm).trans (EK P)
theorem XE(P:Prop)[Decidable P]:(false=decide P)=¬P:=(propext eq_comm).trans (propext decide_eq_false_iff_not)
theorem J6(P A B:Prop):fZ (.v (.bool (pB P))) A B=((P→A)∧(¬P→B)):=by
 show((pB P=true→A)∧(pB P=false→B))=_
 rw[tM,EK]
theorem Qa(P:Prop)(t:Nat)(fr:List DV)(F G:List DV→Prop):gD t (.v (.bool (pB P))) fr true F G=((P→F (fr.set t (.v (.bool true))))∧(¬P→G (fr.set t (.v (.bool false))))):=by
 rw[Ff,tM,EK]
theorem J4(P:Prop):(!pB P)=pB (¬P):=by
 by_cases h:P
 ·rw[lA h,pn (fun k=>k h)];rfl
 ·rw[pn h,lA h];rfl
theorem PB{P Q:Prop}(h:P↔Q):pB P=pB Q:=by rw[propext h]
attribute [go_sem ↓] J6 Qa
attribute [go_sem] tM EK VV Wd XE J4
theorem Cy{α β:Type}(f:α→β)(n:Nat)(l:List α):List.take n (List.map f l)=List.map f (List.take n l):=List.map_take.symm
theorem C7{α β:Type}(f:α→β)(n:Nat)(l:List α):List.drop n (List.map f l)=List.map f (List.drop n l):=List.map_drop.symm
theorem Hj{α β:Type}(f:α→β)(a b:List α):List.map f a++List.map f b=List.map f (a++b):=List.map_append.symm
attribute [go_sem] Cy C7 Hj List.length_append List.length_take List.length_drop List.take_length List.drop_length Nat.min_self
theorem YP(P Q:Prop)[Decidable P]:(decide P=pB Q)=(P↔Q):=propext ⟨fun h=>⟨fun p=>(tM Q).mp (h▸decide_eq_true p),fun q=>of_decide_eq_true (h.trans (lA q))⟩,fun h=>by
 by_cases p:P
 ·rw[lA (h.1 p),decide_eq_true p]
 ·rw[pn (fun q=>p (h.2 q)),decide_eq_false p]⟩
theorem Yw(P Q:Prop):(pB P=pB Q)=(P↔Q):=propext ⟨fun h=>⟨fun p=>(tM Q).mp (h▸lA p),fun q=>(tM P).mp (h.trans (lA q))⟩,PB⟩
theorem YI(P Q:Prop)[Decidable P][Decidable Q]:(decide P=decide Q)=(P↔Q):=propext decide_eq_decide
attribute [go_sem] YP Yw YI
theorem OH(P:Prop)[Decidable P]:(!decide P)=decide (¬P):=(decide_not).symm
attribute [go_sem] OH Bool.not_eq_true' Bool.not_eq_false'
attribute [go_sem] Value.oneCell' false_and and_false and_self List.length_set
attribute [go_sem] KM Yo
attribute [go_sem ↓] Ji B5 TH CA Jf Jk La
attribute [go_sem ↓] Vy WY Ii Lz Oq Yx BU CO KB II
attribute [go_sem] AZ
attribute [go_sem ↓] AK KY H3 GM AR Ma Lc I2 Oo JK O7 KF Js Ml Oe HL P6 Kd IT GK L4 LH ME MK Ly JE KE Ix HP AF w9 O0 I5 Ge Hp FL Cl Ap LR FX Da Cu Ej Dn Dc Dq zV Mf Gm GG WB Wi Ak Cb yi WT B7 Dg K1 D4 A9 Wh HX Cf Du MF Hr DE TG GV Hn Vc Ho Dz D6 CM Cm wF Mu NM B6 HT DY Bl Ic Hu DK F2 TN Bw Ca NS SM RA PT MS P9 Pv Gq DJ Pp yP Df Ij wW HO O1 Ur NT XI Wx
attribute [go_sem] Qk KO Gr GZ Gs Ui NV Mn LG Jd fg oI GU Nn J0 WH NI Dh Ck BV D0 yB xg Cw Bj xD Bo BS zC
theorem MX(r:U0)(l:List DV)(n:Nat)(d:DV):(rc r l).getD (n+16) d=l.getD n d:=rfl
theorem IE(r:U0)(l:List DV)(n:Nat)(d:DV):(rc r l).set (n+16) d=rc r (l.set n d):=rfl
theorem Qv(r:U0)(l:List DV)(n:Nat):(rc r l)[n+16]? =l[n]? :=rfl
theorem Md(a0 a1 a2 a3 a4 a5 a6 a7 a8 a9 bU ca a12 cu cJ cS:DV)(l:List DV)(d:DV):(rc ⟨a0,a1,a2,a3,a4,a5,a6,a7,a8,a9,bU,ca,a12,cu,cJ,cS⟩ l).getD 0 d=a0:=rfl
theorem Kn(a0 a1 a2 a3 a4 a5 a6 a7 a8 a9 bU ca a12 cu cJ cS:DV)(l:List DV)(d:DV):(rc ⟨a0,a1,a2,a3,a4,a5,a6,a7,a8,a9,bU,ca,a12,cu,cJ,cS⟩ l).set 0 d=rc ⟨d,a1,a2,a3,a4,a5,a6,a7,a8,a9,bU,ca,a12,cu,cJ,cS⟩ l:=rfl
theorem KH(a0 a1 a2 a3 a4 a5 a6 a7 a8 a9 bU ca a12 cu cJ cS:DV)(l:List DV)(d:DV):(rc ⟨a0,a1,a2,a3,a4,a5,a6,a7,a8,a9,bU,ca,a12,cu,cJ,cS⟩ l).getD 1 d=a1:=rfl
theorem LA(a0 a1 a2 a3 a4 a5 a6 a7 a8 a9 bU ca a12 cu cJ cS:DV)(l:List DV)(d:DV):(rc ⟨a0,a1,a2,a3,a4,a5,a6,a7,a8,a9,bU,ca,a12,cu,cJ,cS⟩ l).set 1 d=rc ⟨a0,d,a2,a3,a4,a5,a6,a7,a8,a9,bU,ca,a12,cu,cJ,cS⟩ l:=rfl
theorem JN(a0 a1 a2 a3 a4 a5 a6 a7 a8 a9 bU ca a12 cu cJ cS:DV)(l:List DV)(d:DV):(rc ⟨a0,a1,a2,a3,a4,a5,a6,a7,a8,a9,bU,ca,a12,cu,cJ,cS⟩ l).getD 2 d=a2:=rfl
theorem KZ(a0 a1 a2 a3 a4 a5 a6 a7 a8 a9 bU ca a12 cu cJ cS:DV)(l:List DV)(d:DV):(rc ⟨a0,a1,a2,a3,a4,a5,a6,a7,a8,a9,bU,ca,a12,cu,cJ,cS⟩ l).set 2 d=rc ⟨a0,a1,d,a3,a4,a5,a6,a7,a8,a9,bU,ca,a12,cu,cJ,cS⟩ l:=rfl
theorem Ks(a0 a1 a2 a3 a4 a5 a6 a7 a8 a9 bU ca a12 cu cJ cS:DV)(l:List DV)(d:DV):(rc ⟨a0,a1,a2,a3,a4,a5,a6,a7,a8,a9,bU,ca,a12,cu,cJ,cS⟩ l).getD 3 d=a3:=rfl
theorem Jp(a0 a1 a2 a3 a4 a5 a6 a7 a8 a9 bU ca a12 cu cJ cS:DV)(l:List DV)(d:DV):(rc ⟨a0,a1,a2,a3,a4,a5,a6,a7,a8,a9,bU,ca,a12,cu,cJ,cS⟩ l).set 3 d=rc ⟨a0,a1,a2,d,a4,a5,a6,a7,a8,a9,bU,ca,a12,cu,cJ,cS⟩ l:=rfl
theorem KV(a0 a1 a2 a3 a4 a5 a6 a7 a8 a9 bU ca a12 cu cJ cS:DV)(l:List DV)(d:DV):(rc ⟨a0,a1,a2,a3,a4,a5,a6,a7,a8,a9,bU,ca,a12,cu,cJ,cS⟩ l).getD 4 d=a4:=rfl
theorem Ln(a0 a1 a2 a3 a4 a5 a6 a7 a8 a9 bU ca a12 cu cJ cS:DV)(l:List DV)(d:DV):(rc ⟨a0,a1,a2,a3,a4,a5,a6,a7,a8,a9,bU,ca,a12,cu,cJ,cS⟩ l).set 4 d=rc ⟨a0,a1,a2,a3,d,a5,a6,a7,a8,a9,bU,ca,a12,cu,cJ,cS⟩ l:=rfl
theorem LD(a0 a1 a2 a3 a4 a5 a6 a7 a8 a9 bU ca a12 cu cJ cS:DV)(l:List DV)(d:DV):(rc ⟨a0,a1,a2,a3,a4,a5,a6,a7,a8,a9,bU,ca,a12,cu,cJ,cS⟩ l).getD 5 d=a5:=rfl
theorem Li(a0 a1 a2 a3 a4 a5 a6 a7 a8 a9 bU ca a12 cu cJ cS:DV)(l:List DV)(d:DV):(rc ⟨a0,a1,a2,a3,a4,a5,a6,a7,a8,a9,bU,ca,a12,cu,cJ,cS⟩ l).set 5 d=rc ⟨a0,a1,a2,a3,a4,d,a6,a7,a8,a9,bU,ca,a12,cu,cJ,cS⟩ l:=rfl
theorem Lj(a0 a1 a2 a3 a4 a5 a6 a7 a8 a9 bU ca a12 cu cJ cS:DV)(l:List DV)(d:DV):(rc ⟨a0,a1,a2,a3,a4,a5,a6,a7,a8,a9,bU,ca,a12,cu,cJ,cS⟩ l).getD 6 d=a6:=rfl
theorem MW(a0 a1 a2 a3 a4 a5 a6 a7 a8 a9 bU ca a12 cu cJ cS:DV)(l:List DV)(d:DV):(rc ⟨a0,a1,a2,a3,a4,a5,a6,a7,a8,a9,bU,ca,a12,cu,cJ,cS⟩ l).set 6 d=rc ⟨a0,a1,a2,a3,a4,a5,d,a7,a8,a9,bU,ca,a12,cu,cJ,cS⟩ l:=rfl
theorem Lv(a0 a1 a2 a3 a4 a5 a6 a7 a8 a9 bU ca a12 cu cJ cS:DV)(l:List DV)(d:DV):(rc ⟨a0,a1,a2,a3,a4,a5,a6,a7,a8,a9,bU,ca,a12,cu,cJ,cS⟩ l).getD 7 d=a7:=rfl
theorem Lt(a0 a1 a2 a3 a4 a5 a6 a7 a8 a9 bU ca a12 cu cJ cS:DV)(l:List DV)(d:DV):(rc ⟨a0,a1,a2,a3,a4,a5,a6,a7,a8,a9,bU,ca,a12,cu,cJ,cS⟩ l).set 7 d=rc ⟨a0,a1,a2,a3,a4,a5,a6,d,a8,a9,bU,ca,a12,cu,cJ,cS⟩ l:=rfl
theorem Pq(a0 a1 a2 a3 a4 a5 a6 a7 a8 a9 bU ca a12 cu cJ cS:DV)(l:List DV):(rc ⟨a0,a1,a2,a3,a4,a5,a6,a7,a8,a9,bU,ca,a12,cu,cJ,cS⟩ l)[7]? =some a7:=rfl
theorem Iw(a0 a1 a2 a3 a4 a5 a6 a7 a8 a9 bU ca a12 cu cJ cS:DV)(l:List DV)(d:DV):(rc ⟨a0,a1,a2,a3,a4,a5,a6,a7,a8,a9,bU,ca,a12,cu,cJ,cS⟩ l).getD 8 d=a8:=rfl
theorem JF(a0 a1 a2 a3 a4 a5 a6 a7 a8 a9 bU ca a12 cu cJ cS:DV)(l:List DV)(d:DV):(rc ⟨a0,a1,a2,a3,a4,a5,a6,a7,a8,a9,bU,ca,a12,cu,cJ,cS⟩ l).set 8 d=rc ⟨a0,a1,a2,a3,a4,a5,a6,a7,d,a9,bU,ca,a12,cu,cJ,cS⟩ l:=rfl
theorem Qr(a0 a1 a2 a3 a4 a5 a6 a7 a8 a9 bU ca a12 cu cJ cS:DV)(l:List DV):(rc ⟨a0,a1,a2,a3,a4,a5,a6,a7,a8,a9,bU,ca,a12,cu,cJ,cS⟩ l)[8]? =some a8:=rfl
theorem M3(a0 a1 a2 a3 a4 a5 a6 a7 a8 a9 bU ca a12 cu cJ cS:DV)(l:List DV)(d:DV):(rc ⟨a0,a1,a2,a3,a4,a5,a6,a7,a8,a9,bU,ca,a12,cu,cJ,cS⟩ l).getD 9 d=a9:=rfl
theorem Kx(a0 a1 a2 a3 a4 a5 a6 a7 a8 a9 bU ca a12 cu cJ cS:DV)(l:List DV)(d:DV):(rc ⟨a0,a1,a2,a3,a4,a5,a6,a7,a8,a9,bU,ca,a12,cu,cJ,cS⟩ l).set 9 d=rc ⟨a0,a1,a2,a3,a4,a5,a6,a7,a8,d,bU,ca,a12,cu,cJ,cS⟩ l:=rfl
theorem Gl(a0 a1 a2 a3 a4 a5 a6 a7 a8 a9 bU ca a12 cu cJ cS:DV)(l:List DV)(d:DV):(rc ⟨a0,a1,a2,a3,a4,a5,a6,a7,a8,a9,bU,ca,a12,cu,cJ,cS⟩ l).getD 10 d=bU:=rfl
theorem G1(a0 a1 a2 a3 a4 a5 a6 a7 a8 a9 bU ca a12 cu cJ cS:DV)(l:List DV)(d:DV):(rc ⟨a0,a1,a2,a3,a4,a5,a6,a7,a8,a9,bU,ca,a12,cu,cJ,cS⟩ l).set 10 d=rc ⟨a0,a1,a2,a3,a4,a5,a6,a7,a8,a9,d,ca,a12,cu,cJ,cS⟩ l:=rfl
theorem GY(a0 a1 a2 a3 a4 a5 a6 a7 a8 a9 bU ca a12 cu cJ cS:DV)(l:List DV)(d:DV):(rc ⟨a0,a1,a2,a3,a4,a5,a6,a7,a8,a9,bU,ca,a12,cu,cJ,cS⟩ l).getD 11 d=ca:=rfl
theorem GS(a0 a1 a2 a3 a4 a5 a6 a7 a8 a9 bU ca a12 cu cJ cS:DV)(l:List DV)(d:DV):(rc ⟨a0,a1,a2,a3,a4,a5,a6,a7,a8,a9,bU,ca,a12,cu,cJ,cS⟩ l).set 11 d=rc ⟨a0,a1,a2,a3,a4,a5,a6,a7,a8,a9,bU,d,a12,cu,cJ,cS⟩ l:=rfl
theorem GI(a0 a1 a2 a3 a4 a5 a6 a7 a8 a9 bU ca a12 cu cJ cS:DV)(l:List DV)(d:DV):(rc ⟨a0,a1,a2,a3,a4,a5,a6,a7,a8,a9,bU,ca,a12,cu,cJ,cS⟩ l).getD 12 d=a12:=rfl
theorem H4(a0 a1 a2 a3 a4 a5 a6 a7 a8 a9 bU ca a12 cu cJ cS:DV)(l:List DV)(d:DV):(rc ⟨a0,a1,a2,a3,a4,a5,a6,a7,a8,a9,bU,ca,a12,cu,cJ,cS⟩ l).set 12 d=rc ⟨a0,a1,a2,a3,a4,a5,a6,a7,a8,a9,bU,ca,d,cu,cJ,cS⟩ l:=rfl
theorem L8(a0 a1 a2 a3 a4 a5 a6 a7 a8 a9 bU ca a12 cu cJ cS:DV)(l:List DV):(rc ⟨a0,a1,a2,a3,a4,a5,a6,a7,a8,a9,bU,ca,a12,cu,cJ,cS⟩ l)[12]? =some a12:=rfl
theorem FP(a0 a1 a2 a3 a4 a5 a6 a7 a8 a9 bU ca a12 cu cJ cS:DV)(l:List DV)(d:DV):(rc ⟨a0,a1,a2,a3,a4,a5,a6,a7,a8,a9,bU,ca,a12,cu,cJ,cS⟩ l).getD 13 d=cu:=rfl
theorem H7(a0 a1 a2 a3 a4 a5 a6 a7 a8 a9 bU ca a12 cu cJ cS:DV)(l:List DV)(d:DV):(rc ⟨a0,a1,a2,a3,a4,a5,a6,a7,a8,a9,bU,ca,a12,cu,cJ,cS⟩ l).set 13 d=rc ⟨a0,a1,a2,a3,a4,a5,a6,a7,a8,a9,bU,ca,a12,d,cJ,cS⟩ l:=rfl
theorem Il(a0 a1 a2 a3 a4 a5 a6 a7 a8 a9 bU ca a12 cu cJ cS:DV)(l:List DV)(d:DV):(rc ⟨a0,a1,a2,a3,a4,a5,a6,a7,a8,a9,bU,ca,a12,cu,cJ,cS⟩ l).getD 14 d=cJ:=rfl
theorem Gt(a0 a1 a2 a3 a4 a5 a6 a7 a8 a9 bU ca a12 cu cJ cS:DV)(l:List DV)(d:DV):(rc ⟨a0,a1,a2,a3,a4,a5,a6,a7,a8,a9,bU,ca,a12,cu,cJ,cS⟩ l).set 14 d=rc ⟨a0,a1,a2,a3,a4,a5,a6,a7,a8,a9,bU,ca,a12,cu,d,cS⟩ l:=rfl
theorem I4(a0 a1 a2 a3 a4 a5 a6 a7 a8 a9 bU ca a12 cu cJ cS:DV)(l:List DV):(rc ⟨a0,a1,a2,a3,a4,a5,a6,a7,a8,a9,bU,ca,a12,cu,cJ,cS⟩ l)[14]? =some cJ:=rfl
theorem FM(a0 a1 a2 a3 a4 a5 a6 a7 a8 a9 bU ca a12 cu cJ cS:DV)(l:List DV)(d:DV):(rc ⟨a0,a1,a2,a3,a4,a5,a6,a7,a8,a9,bU,ca,a12,cu,cJ,cS⟩ l).getD 15 d=cS:=rfl
theorem Hd(a0 a1 a2 a3 a4 a5 a6 a7 a8 a9 bU ca a12 cu cJ cS:DV)(l:List DV)(d:DV):(rc ⟨a0,a1,a2,a3,a4,a5,a6,a7,a8,a9,bU,ca,a12,cu,cJ,cS⟩ l).set 15 d=rc ⟨a0,a1,a2,a3,a4,a5,a6,a7,a8,a9,bU,ca,a12,cu,cJ,d⟩ l:=rfl
theorem RD(a0 a1 a2 a3 a4 a5 a6 a7 a8 a9 bU ca a12 cu cJ cS:DV)(l:List DV)(i:Nat)(js:List Nat):vp (rc ⟨a0,a1,a2,a3,a4,a5,a6,a7,a8,a9,bU,ca,a12,cu,cJ,cS⟩ l) i js=vp (a0::a1::a2::a3::a4::a5::a6::a7::a8::a9::bU::ca::a12::cu::cJ::cS::l) i js:=rfl
theorem TS(a0 a1 a2 a3 a4 a5 a6 a7 a8 a9 bU ca a12 cu cJ cS:DV)(l:List DV):fq (a0::a1::a2::a3::a4::a5::a6::a7::a8::a9::bU::ca::a12::cu::cJ::cS::l)=rc ⟨a0,a1,a2,a3,a4,a5,a6,a7,a8,a9,bU,ca,a12,cu,cJ,cS⟩ (fq l):=rfl
theorem Sk:fq []=[]:=rfl
theorem RY(a0:DV):fq [a0]=[a0]:=rfl
theorem Ti(a0 a1:DV):fq [a0,a1]=[a0,a1]:=rfl
theorem Rx(a0 a1 a2:DV):fq [a0,a1,a2]=[a0,a1,a2]:=rfl
theorem Te(a0 a1 a2 a3:DV):fq [a0,a1,a2,a3]=[a0,a1,a2,a3]:=rfl
theorem RR(a0 a1 a2 a3 a4:DV):fq [a0,a1,a2,a3,a4]=[a0,a1,a2,a3,a4]:=rfl
theorem RH(a0 a1 a2 a3 a4 a5:DV):fq [a0,a1,a2,a3,a4,a5]=[a0,a1,a2,a3,a4,a5]:=rfl
theorem SF(a0 a1 a2 a3 a4 a5 a6:DV):fq [a0,a1,a2,a3,a4,a5,a6]=[a0,a1,a2,a3,a4,a5,a6]:=rfl
theorem SK(a0 a1 a2 a3 a4 a5 a6 a7:DV):fq [a0,a1,a2,a3,a4,a5,a6,a7]=[a0,a1,a2,a3,a4,a5,a6,a7]:=rfl
theorem Tp(a0 a1 a2 a3 a4 a5 a6 a7 a8:DV):fq [a0,a1,a2,a3,a4,a5,a6,a7,a8]=[a0,a1,a2,a3,a4,a5,a6,a7,a8]:=rfl
theorem Nl(a0 a1 a2 a3 a4 a5 a6 a7 a8 a9:DV):fq [a0,a1,a2,a3,a4,a5,a6,a7,a8,a9]=[a0,a1,a2,a3,a4,a5,a6,a7,a8,a9]:=rfl
theorem Nk(a0 a1 a2 a3 a4 a5 a6 a7 a8 a9 bU:DV):fq [a0,a1,a2,a3,a4,a5,a6,a7,a8,a9,bU]=[a0,a1,a2,a3,a4,a5,a6,a7,a8,a9,bU]:=rfl
theorem OK(a0 a1 a2 a3 a4 a5 a6 a7 a8 a9 bU ca:DV):fq [a0,a1,a2,a3,a4,a5,a6,a7,a8,a9,bU,ca]=[a0,a1,a2,a3,a4,a5,a6,a7,a8,a9,bU,ca]:=rfl
theorem OQ(a0 a1 a2 a3 a4 a5 a6 a7 a8 a9 bU ca a12:DV):fq [a0,a1,a2,a3,a4,a5,a6,a7,a8,a9,bU,ca,a12]=[a0,a1,a2,a3,a4,a5,a6,a7,a8,a9,bU,ca,a12]:=rfl
theorem Po(a0 a1 a2 a3 a4 a5 a6 a7 a8 a9 bU ca a12 cu:DV):fq [a0,a1,a2,a3,a4,a5,a6,a7,a8,a9,bU,ca,a12,cu]=[a0,a1,a2,a3,a4,a5,a6,a7,a8,a9,bU,ca,a12,cu]:=rfl
theorem NP(a0 a1 a2 a3 a4 a5 a6 a7 a8 a9 bU ca a12 cu cJ:DV):fq [a0,a1,a2,a3,a4,a5,a6,a7,a8,a9,bU,ca,a12,cu,cJ]=[a0,a1,a2,a3,a4,a5,a6,a7,a8,a9,bU,ca,a12,cu,cJ]:=rfl
attribute [go_sem] MX IE Qv Md Kn KH LA JN KZ Ks Jp KV Ln LD Li Lj MW Lv Lt Pq Iw JF Qr M3 Kx Gl G1 GY GS GI H4 L8 FP H7 Il Gt I4 FM Hd RD TS Sk RY Ti Rx Te RR RH SF SK Tp Nl Nk OK OQ Po NP
end Aml
namespace Aml
open Go Go.RowKit
def nQ(P:Program)(w0:W0)(S:St)(ops:Array Oper)(K:List DV→St→Prop):List Oper→List DV→Prop
 |[],fr=>K fr S
 |o::rest,fr=>eH (pS o.op)
  (bZ ops fr o.guard (fun fr=>aH P w0 o.op fr S fun d=>nQ P w0 S ops K rest (pt fr o.dst d)) (fun fr=>nQ P w0 S ops K rest (pt fr o.dst ud)))
  (xR P w0 ops K (o::rest) fr S)
section
variable {P:Program} {w0:W0}
theorem nY{S:St}{ops:Array Oper}{K:List DV→St→Prop}:∀{l:List Oper} {fr:List DV},l.all (fun o=>gU o.op)=true→nQ P w0 S ops K l fr→LQ P w0 S ops (fun fr=>xR P w0 ops K (l.drop (nG l)) fr S) (l.take (nG l)) fr
 |[],fr,_,h=>h
 |o::rest,fr,hs,h=>by
  simp only[List.all_cons,Bool.and_eq_true]at hs
  unfold nQ eH at h
  cases hq:pS o.op with
  |true=>
   rw[hq]at h
   simp only at h
   have e:nG (o::rest)=nG rest+1:=by simp[nG,List.takeWhile_cons,hq]
   rw[e,List.take_succ_cons,List.drop_succ_cons]
   refine ir (fun fr h=>?_) (fun fr h=>nY hs.2 h) h
   obtain⟨d,q1,q2⟩:=jS hs.1 h
   exact⟨d,q1,nY hs.2 q2⟩
  |false=>
   rw[hq]at h
   have e:nG (o::rest)=0:=by simp[nG,List.takeWhile_cons,hq]
   rw[e]
   exact h
theorem DZ{S:St}{a b:Array Oper}{K:List DV→Prop}:∀{l:List Oper} {fr:List DV},(∀o,o∈l→∀j want,o.guard=some (j,want)→a[j]? =b[j]?)→LQ P w0 S a K l fr→LQ P w0 S b K l fr
 |[],fr,_,h=>h
 |o::rest,fr,hg,h=>by
  have h':bZ a fr o.guard (fun fr=>∃d,QY P w0 S o fr d∧LQ P w0 S b K rest (pt fr o.dst d)) (fun fr=>LQ P w0 S b K rest (pt fr o.dst ud)):=
   ir (fun fr ⟨d,q1,q2⟩=>⟨d,q1,DZ (fun o ho=>hg o (List.mem_cons_of_mem _ ho)) q2⟩) (fun fr h=>DZ (fun o ho=>hg o (List.mem_cons_of_mem _ ho)) h) h
  unfold bZ at h'
  show bZ b fr o.guard _ _
  unfold bZ
  cases hgo:o.guard with
  |none=>rw[hgo]at h';exact h'
  |some p=>
   obtain⟨j,want⟩:=p
   rw[hgo]at h'
   simp only at h' ⊢
   rw[←hg o List.mem_cons_self j want hgo]
   exact h'
theorem F1{id:Nat}{l:List Oper}{fr:List DV}{S:St}{Q:Exit→List DV→St→Prop}(hm:P.follows .mixedOrders=true)(hB:Region.lexB .any (l.take (nG l)).toArray=true)(hT:rq .any l.toArray (nG l)=true)(hs:l.all (fun o=>gU o.op)=true)
 (h:nQ P w0 S l.toArray (fun fr S=>Q .normal fr S) l fr):gk P w0 (.region id l.toArray true) fr S Q:=by
 have hn:nG l≤l.length:=by
  unfold nG
  exact List.Sublist.length_le (List.takeWhile_sublist _)
 refine Hk (nG l) hn hm hB hT hs (DZ ?_ (nY hs h))
 intro o ho j want hg
 simp only[rq,Bool.and_eq_true]at hT
 have:=List.all_eq_true.1 hT.2 o (by simpa using ho)
 simp only[hg,decide_eq_true_eq]at this
 simp[List.getElem?_take,this]
def AL(P:Program)(w0:W0)(fr:List DV)(S:St)[c:Cn (Code×(Exit→List DV→St→Prop))]:Prop:=gk P w0 c.k.1 fr S c.k.2
def vw(P:Program)(w0:W0)(ss:List Nat):Code→List DV→St→(Exit→List DV→St→Prop)→Prop
 | .skip,fr,S,Q=>Q .normal fr S
 | .seq x y,fr,S,Q=>vw P w0 ss x fr S (kJ (fun fr S=>vw P w0 ss y fr S Q) Q)
 | .cond c x y,fr,S,Q=>fZ (ev fr c) (vw P w0 ss x fr S Q) (vw P w0 ss y fr S Q)
 | .block n c,fr,S,Q=>eH (ss.contains (n+1000)) (@AL P w0 fr S ⟨((.block n c),Q)⟩) (vw P w0 ss c fr S (sX n Q))
 | .exit n,fr,S,Q=>Q (.exit n) fr S
 | .ret,fr,S,Q=>Q .ret fr S
 | .region n ops dr,fr,S,Q=>eH (ss.contains n) (@AL P w0 fr S ⟨((.region n ops dr),Q)⟩)
  (eH dr (nQ P w0 S ops (fun fr S=>Q .normal fr S) ops.toList fr) (xR P w0 ops (fun fr S=>Q .normal fr S) ops.toList fr S))
 |c,fr,S,Q=>@AL P w0 fr S ⟨(c,Q)⟩
/- How it goes. -/
section
variable {P:Program} {w0:W0} {ss:List Nat} {fr:List DV} {S:St} {Q:Exit→List DV→St→Prop}
theorem Gj:vw P w0 ss .skip fr S Q=Q .normal fr S:=rfl
theorem JJ(x y:Code):vw P w0 ss (.seq x y) fr S Q=vw P w0 ss x fr S (kJ (fun fr S=>vw P w0 ss y fr S Q) Q):=rfl
theorem Gg(c:Operand)(x y:Code):vw P w0 ss (.cond c x y) fr S Q=fZ (ev fr c) (vw P w0 ss x fr S Q) (vw P w0 ss y fr S Q):=rfl
theorem B0(n:Nat)(c:Code):vw P w0 ss (.block n c) fr S Q=eH (ss.contains (n+1000)) (@AL P w0 fr S ⟨((.block n c),Q)⟩) (vw P w0 ss c fr S (sX n Q)):=rfl
theorem F9(n:Nat):vw P w0 ss (.exit n) fr S Q=Q (.exit n) fr S:=rfl
theorem Mv:vw P w0 ss .ret fr S Q=Q .ret fr S:=rfl
def jt(fr:List DV)(F:List DV→Prop):Prop:=F fr
@[congr] theorem W6 {fr fr':List DV} {F:List DV→Prop} (h:fr=fr'):jt fr F=jt fr' F:=by cases h;rfl
theorem Qh(d:DV)(fr:List DV)(F:List DV→Prop):jt (d::fr) F=F (d::fr):=rfl
theorem Dl(r:U0)(fr:List DV)(F:List DV→Prop):jt (rc r fr) F=F (rc r fr):=rfl
attribute [go_sem ↓] Qh Dl
theorem GB(n:Nat)(l:List Oper):vw P w0 ss (.region n l.toArray false) fr S Q=eH (ss.contains n) (@AL P w0 fr S ⟨((.region n l.toArray false),Q)⟩) (xR P w0 l.toArray (fun fr S=>jt fr fun fr=>Q .normal fr S) l fr S):=by simp[vw,eH,jt]
theorem GJ(n:Nat)(l:List Oper):vw P w0 ss (.region n l.toArray true) fr S Q=eH (ss.contains n) (@AL P w0 fr S ⟨((.region n l.toArray true),Q)⟩) (nQ P w0 S l.toArray (fun fr S=>jt fr fun fr=>Q .normal fr S) l fr):=by simp[vw,eH,jt]
section
variable {ops:Array Oper} {K:List DV→St→Prop} {rest:List Oper} {dst:Option Tmp} {op:Op} {ty:TypeId} {pos:String} {aft:Array Edge}
theorem IA:nQ P w0 S ops K [] fr=K fr S:=rfl
theorem FR:nQ P w0 S ops K (⟨dst,op,ty,pos,aft,none⟩::rest) fr=eH (pS op) (aH P w0 op fr S fun d=>nQ P w0 S ops K rest (pt fr dst d)) (xR P w0 ops K (⟨dst,op,ty,pos,aft,none⟩::rest) fr S):=rfl
theorem HY(j:Nat)(want:Bool):nQ P w0 S ops K (⟨dst,op,ty,pos,aft,some (j,want)⟩::rest) fr=eH (pS op) (gK ((ops[j]?).bind (·.dst)) fr want (fun fr=>aH P w0 op fr S fun d=>nQ P w0 S ops K rest (pt fr dst d)) (fun fr=>nQ P w0 S ops K rest (pt fr dst ud))) (xR P w0 ops K (⟨dst,op,ty,pos,aft,some (j,want)⟩::rest) fr S):=by
 rw[←wW];rfl
end
def FF(l:List Oper)(F:List Oper→Prop):Prop:=F l
@[congr] theorem W5 {l l':List Oper} {F:List Oper→Prop} (h:l=l'):FF l F=FF l' F:=by cases h;rfl
theorem Qn(l:List Oper)(F:List Oper→Prop):FF l F=F l:=rfl
theorem H0(n:Nat)(l1 l2:List Oper)(dr:Bool):vw P w0 ss (.region n (l1.append l2).toArray dr) fr S Q=FF (l1.append l2) (fun l=>vw P w0 ss (.region n l.toArray dr) fr S Q):=rfl
theorem G8(c:Code):vw P w0 ss (.loop c) fr S Q= @AL P w0 fr S ⟨((.loop c),Q)⟩:=rfl
@[congr] theorem aan {c:Code} {fr':List DV} {S':St} (h1:fr=fr') (h2:S=S'):vw P w0 ss c fr S Q=vw P w0 ss c fr' S' Q:=by cases h1;cases h2;rfl
@[congr] theorem XV {ops:Array Oper} {K:List DV→St→Prop} {l:List Oper} {fr':List DV} {S':St} (h1:fr=fr') (h2:S=S'):nQ P w0 S ops K l fr=nQ P w0 S' ops K l fr':=by cases h1;cases h2;rfl
@[congr] theorem Zq {c:Code} {fr':List DV} {S':St} (h1:fr=fr') (h2:S=S'):gk P w0 c fr S Q=gk P w0 c fr' S' Q:=by cases h1;cases h2;rfl
end
attribute [go_sem] Qn List.contains_nil List.contains_cons
attribute [go_sem ↓] IA FR HY Gj JJ Gg B0 F9 Mv GB GJ G8
attribute [go_sem ↓ high] H0
section
variable {md:Region.Mode} {ops:Array Oper}
def Na(md:Region.Mode)(ops:Array Oper):Nat→List Oper→Bool
 |_,[]=>true
 |k,o::l=>o.after.toList.all (fun e=>!Region.binds md e||decide (e.on<k))&&l.all (fun oj=>oj.after.toList.any (fun e=>Region.binds md e&&e.on==k)||o.apart ops oj)&&Na md ops (k+1) l
theorem sS:∀(l:List Oper) (k:Nat) (listed:Array Bool),(∀j,l[j]? =ops[k+j]?)→listed.size=ops.size→(∀i,i<k→listed[i]? =some true)→(∀i,k≤i→i<ops.size→listed[i]? =some false)→Na md ops k l=true→Region.lexFrom md ops l.length k listed=true
 |[],k,listed,hl,hs,h1,h2,_=>by
  simp only[List.length_nil,Region.lexFrom]
  have:Region.ready md ops listed=[]:=List.eq_nil_iff_forall_not_mem.2 fun i hi=>by
   obtain⟨hun,o,ho,_⟩:=mem_ready.1 hi
   rw[dJ]at hun
   rcases Nat.lt_or_ge i k with h|h
   ·rw[h1 i h]at hun;cases hun
   ·have:=hl (i-k)
    rw[show k+(i-k)=i by omega,ho]at this
    simp at this
  rw[this];rfl
 |o::l,k,listed,hl,hs,h1,h2,hG=>by
  have h0:ops[k]? =some o:=by simpa using(hl 0).symm
  have hk:k<ops.size:=(Array.getElem?_eq_some_iff.1 h0).1
  simp only[Na,Bool.and_eq_true]at hG
  obtain⟨⟨ha,hb⟩,hc⟩:=hG
  simp only[List.length_cons,Region.lexFrom,Bool.and_eq_true]
  have hr:k∈Region.ready md ops listed:=mem_ready.2 ⟨dJ.2 (h2 k (Nat.le_refl _) hk),o,h0,fun e he hbind=>by
   have:=List.all_eq_true.1 ha e (Array.mem_toList_iff.2 he)
   rw[hbind]at this
   simp at this
   exact dE.2 (h1 _ this)⟩
  refine⟨⟨by simpa using hr,?_⟩,?_⟩
  ·unfold Region.free
   rw[h0]
   simp only[List.all_eq_true,List.mem_range]
   intro j hj
   rcases Nat.lt_trichotomy j k with h|h|h
   ·have:listed.getD j true=true:=by rw[Array.getD_eq_getD_getElem?,h1 j h];rfl
    simp[this]
   ·simp[h]
   ·have hj2:=hl (j-k)
    rw[show k+(j-k)=j by omega,show j-k=(j-k-1)+1 by omega,List.getElem?_cons_succ]at hj2
    rw[←hj2]
    cases hq:l[j-k-1]? with
    |none=>simp
    |some oj=>
     have:=List.all_eq_true.1 hb oj (List.mem_of_getElem? hq)
     simp only[Bool.or_eq_true]at this ⊢
     refine .inr ?_
     rcases this with h|h
     ·refine .inl ?_
      obtain⟨e,he,h⟩:=List.any_eq_true.1 h
      exact Array.any_eq_true'.2 ⟨e,Array.mem_toList_iff.1 he,h⟩
     ·exact .inr h
  ·refine sS l (k+1) _ (fun j=>?_) (by simpa using hs) (fun i hi=>?_) (fun i hi hi2=>?_) hc
   ·have:=hl (j+1)
    simpa[Nat.add_assoc,Nat.add_comm 1 j]using this
   ·rw[Array.getElem?_setIfInBounds]
    by_cases h:k=i
    ·subst h;rw[if_pos rfl,if_pos (by omega)]
    ·rw[if_neg h];exact h1 i (by omega)
   ·rw[Array.getElem?_setIfInBounds,if_neg (by omega)]
    exact h2 i (by omega) hi2
theorem Dv{l:List Oper}(hs:Region.noSelect l.toArray=true)(h:Na md l.toArray 0 l=true):Region.lexB md l.toArray=true:=by
 unfold Region.lexB
 rw[hs,Bool.true_and]
 have:=sS (md:=md) (ops:=l.toArray) l 0 (Array.replicate l.toArray.size false) (fun j=>by simp) (by simp) (fun i hi=>absurd hi (by omega)) (fun i _ hi=>by rw[Array.getElem?_replicate,if_pos hi]) h
 simpa using this
end
def uT(ss:List Nat):Code→Bool
 | .seq x y=>uT ss x&&uT ss y
 | .cond _ x y=>uT ss x&&uT ss y
 | .block n c=>ss.contains (n+1000)||uT ss c
 | .region n ops false=>ss.contains n||ops.toList.all (fun o=>gU o.op)
 | .region n ops true=>ss.contains n||(ops.toList.all (fun o=>gU o.op)&&Region.noSelect (ops.toList.take (nG ops.toList)).toArray&&Na .any (ops.toList.take (nG ops.toList)).toArray 0 (ops.toList.take (nG ops.toList))&&rq .any ops (nG ops.toList))
 |_=>true
theorem dy{ss:List Nat}(hm:P.follows .mixedOrders=true):∀(c:Code) {fr:List DV} {S:St} {Q:Exit→List DV→St→Prop},uT ss c=true→vw P w0 ss c fr S Q→gk P w0 c fr S Q
 | .skip,fr,S,Q,_,h=>J7 h
 | .seq x y,fr,S,Q,ho,h=>by
  simp only[uT,Bool.and_eq_true]at ho
  exact Oi ((dy hm x ho.1 h).mono fun e fr S hq=>by cases e <;>first|exact dy hm y ho.2 hq|exact hq)
 | .cond c x y,fr,S,Q,ho,h=>by
  simp only[uT,Bool.and_eq_true]at ho
  exact Lh (CG (fun h=>dy hm x ho.1 h) (fun h=>dy hm y ho.2 h) h)
 | .block n c,fr,S,Q,ho,h=>by
  unfold vw eH at h
  unfold uT at ho
  split at h
  ·exact h
  ·rename_i hn
   rw[hn,Bool.false_or]at ho
   exact Gw (dy hm c ho h)
 | .exit n,fr,S,Q,_,h=>JQ h
 | .ret,fr,S,Q,_,h=>NJ h
 | .region n ops false,fr,S,Q,ho,h=>by
  unfold vw at h
  unfold eH at h
  unfold uT at ho
  split at h
  ·exact h
  rename_i hn
  rw[hn,Bool.false_or]at ho
  simp only at h
  have:=nk _ ho h
  have:=uE (id:=n) (l:=ops.toList) this
  simpa using this
 | .region n ops true,fr,S,Q,ho,h=>by
  unfold vw at h
  unfold eH at h
  unfold uT at ho
  split at h
  ·exact h
  rename_i hn
  rw[hn,Bool.false_or]at ho
  simp only[Bool.and_eq_true]at ho
  simp only at h
  have:=F1 (id:=n) (l:=ops.toList) (fr:=fr) (S:=S) (Q:=Q) hm (Dv ho.1.1.2 ho.1.2) ho.2 ho.1.1.1 h
  simpa using this
 | .loop c,fr,S,Q,_,h=>h
 | .rangeFunc f ps a b,fr,S,Q,_,h=>h
 | .scope c,fr,S,Q,_,h=>h
 | .label l,fr,S,Q,_,h=>h
 | .goto l,fr,S,Q,_,h=>h
 | .refuse w,fr,S,Q,_,h=>h
theorem nB(ss:List Nat){f:FuncId}{fn:Func}{c:Code}{rs:List ResultVar}{args:List DV}{S:St}{K:DV→St→Prop}(hm:P.follows .mixedOrders=true)(hf:P.funcs[f]? =some fn)(hb:fn.body=some c)(hrs:fn.results=rs.toArray)(hc:uT ss c=true)
 (h:vw P w0 ss c (fq (args++List.replicate (fn.ntmps-args.length) ud)) S fun e fr S'=>(e= .normal∨e= .ret)∧tK P fr S' rs fun d=>K d S'):aa P w0 f args S K:=
 uJ hf hb hrs (dy hm c hc h)
end
end Aml
