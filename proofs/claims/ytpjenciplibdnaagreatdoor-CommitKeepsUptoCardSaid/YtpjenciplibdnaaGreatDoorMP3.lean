/-
  Facts on the types and functions of the translation, printed by program (wip/tools/types.py); Loops by a state; forgetting slots; growing slices out of nil; The equations by which the reckoning goes: each for one form of value; Statements whose order Go leaves open: where each operation hands back one abstract value and leaves the store, every order serves; Reckoning over statements whose order is open; The rules as they are used: functions, loops; plain values; wraps; Statements whose order is open but for their end: what writes comes behind all that reads; Which parts of the walk's words the reckoning may enter: what comes behind a step is entered when the step is done; The walk by reckoning, whole; functions and loops. By an AI agent.
-/
import Derived.Test.YtpjenciplibdnaaGreatDoorMP2
import Derived.Test.YtpjenciplibdnaaGreatDoorProg
import Derived.KernelRfl
import Derived.Still
set_option linter.unusedVariables false
set_option linter.unusedSimpArgs false
set_option maxRecDepth 100000
set_option maxHeartbeats 16000000
namespace Go.Proofs.YtpjenciplibdnaaGreatDoor
open Aml
@[go_sem] theorem ty.k1:tk Tryz.prog 1= .fn:=by kernel_rfl
@[go_sem] theorem ty.z1:zD Tryz.prog 1= .v .nilFunc:=by kernel_rfl
@[go_sem] theorem ty.c1:Tryz.prog.cellsOf 1=1:=by kernel_rfl
@[go_sem] theorem ty.i1:(Tryz.prog.info? 1).isSome=true:=by kernel_rfl
@[go_sem] theorem ty.k2:tk Tryz.prog 2= .int .i64:=by kernel_rfl
@[go_sem] theorem ty.z2:zD Tryz.prog 2= .v (.int .i64 0):=by kernel_rfl
@[go_sem] theorem ty.c2:Tryz.prog.cellsOf 2=1:=by kernel_rfl
@[go_sem] theorem ty.i2:(Tryz.prog.info? 2).isSome=true:=by kernel_rfl
@[go_sem] theorem ty.k3:tk Tryz.prog 3= .int .i64:=by kernel_rfl
@[go_sem] theorem ty.z3:zD Tryz.prog 3= .v (.int .i64 0):=by kernel_rfl
@[go_sem] theorem ty.c3:Tryz.prog.cellsOf 3=1:=by kernel_rfl
@[go_sem] theorem ty.i3:(Tryz.prog.info? 3).isSome=true:=by kernel_rfl
@[go_sem] theorem ty.k4:tk Tryz.prog 4= .one:=by kernel_rfl
@[go_sem] theorem ty.z4:zD Tryz.prog 4= .v (.bool false):=by kernel_rfl
@[go_sem] theorem ty.c4:Tryz.prog.cellsOf 4=1:=by kernel_rfl
@[go_sem] theorem ty.i4:(Tryz.prog.info? 4).isSome=true:=by kernel_rfl
@[go_sem] theorem ty.k5:tk Tryz.prog 5= .int .u8:=by kernel_rfl
@[go_sem] theorem ty.z5:zD Tryz.prog 5= .v (.int .u8 0):=by kernel_rfl
@[go_sem] theorem ty.c5:Tryz.prog.cellsOf 5=1:=by kernel_rfl
@[go_sem] theorem ty.i5:(Tryz.prog.info? 5).isSome=true:=by kernel_rfl
@[go_sem] theorem ty.k6:tk Tryz.prog 6= .int .u8:=by kernel_rfl
@[go_sem] theorem ty.z6:zD Tryz.prog 6= .v (.int .u8 0):=by kernel_rfl
@[go_sem] theorem ty.c6:Tryz.prog.cellsOf 6=1:=by kernel_rfl
@[go_sem] theorem ty.i6:(Tryz.prog.info? 6).isSome=true:=by kernel_rfl
@[go_sem] theorem ty.q7:AQ Tryz.prog 7=some [.int .i64,.int .i64,.bool,.int .u8]:=by kernel_rfl
@[go_sem] theorem ty.z7:zD Tryz.prog 7= .agg [.v (.int .i64 0),.v (.int .i64 0),.v (.bool false),.v (.int .u8 0)]:=by kernel_rfl
@[go_sem] theorem ty.c7:Tryz.prog.cellsOf 7=4:=by kernel_rfl
@[go_sem] theorem ty.i7:(Tryz.prog.info? 7).isSome=true:=by kernel_rfl
@[go_sem] theorem ty.q8:AQ Tryz.prog 8=some [.int .i64,.int .i64,.bool,.int .u8]:=by kernel_rfl
@[go_sem] theorem ty.z8:zD Tryz.prog 8= .agg [.v (.int .i64 0),.v (.int .i64 0),.v (.bool false),.v (.int .u8 0)]:=by kernel_rfl
@[go_sem] theorem ty.c8:Tryz.prog.cellsOf 8=4:=by kernel_rfl
@[go_sem] theorem ty.k9:tk Tryz.prog 9= .str:=by kernel_rfl
@[go_sem] theorem ty.z9:zD Tryz.prog 9= .v (.string ByteArray.empty):=by kernel_rfl
@[go_sem] theorem ty.c9:Tryz.prog.cellsOf 9=1:=by kernel_rfl
@[go_sem] theorem ty.i9:(Tryz.prog.info? 9).isSome=true:=by kernel_rfl
@[go_sem] theorem ty.k22:tk Tryz.prog 22= .sl 58 4 48 true:=by kernel_rfl
@[go_sem] theorem ty.k23:tk Tryz.prog 23= .int .u16:=by kernel_rfl
@[go_sem] theorem ty.k26:tk Tryz.prog 26= .int .u64:=by kernel_rfl
@[go_sem] theorem ty.c26:Tryz.prog.cellsOf 26=1:=by kernel_rfl
@[go_sem] theorem ty.i26:(Tryz.prog.info? 26).isSome=true:=by kernel_rfl
@[go_sem] theorem ty.k28:tk Tryz.prog 28= .st [(0,1,false),(1,1,false),(2,1,false),(3,1,false),(4,1,false)] 5:=by kernel_rfl
@[go_sem] theorem ty.z28:zD Tryz.prog 28= .agg [.v (.int .i64 0),.v (.int .u64 0),.v (.int .i64 0),.v (.int .i64 0),.v (.int .i64 0)]:=by kernel_rfl
@[go_sem] theorem ty.c28:Tryz.prog.cellsOf 28=5:=by kernel_rfl
@[go_sem] theorem ty.i28:(Tryz.prog.info? 28).isSome=true:=by kernel_rfl
@[go_sem] theorem ty.k29:tk Tryz.prog 29= .sl 9 1 16 true:=by kernel_rfl
@[go_sem] theorem ty.e29:dJ Tryz.prog 29=9:=by kernel_rfl
@[go_sem] theorem ty.z29:zD Tryz.prog 29= .sl 0 true []:=by kernel_rfl
@[go_sem] theorem ty.c29:Tryz.prog.cellsOf 29=1:=by kernel_rfl
@[go_sem] theorem ty.i29:(Tryz.prog.info? 29).isSome=true:=by kernel_rfl
@[go_sem] theorem ty.k30:tk Tryz.prog 30= .sl 143 2 40 true:=by kernel_rfl
@[go_sem] theorem ty.e30:dJ Tryz.prog 30=143:=by kernel_rfl
@[go_sem] theorem ty.z30:zD Tryz.prog 30= .sl 0 true []:=by kernel_rfl
@[go_sem] theorem ty.c30:Tryz.prog.cellsOf 30=1:=by kernel_rfl
@[go_sem] theorem ty.i30:(Tryz.prog.info? 30).isSome=true:=by kernel_rfl
@[go_sem] theorem ty.k31:tk Tryz.prog 31= .sl 33 5 88 true:=by kernel_rfl
@[go_sem] theorem ty.e31:dJ Tryz.prog 31=33:=by kernel_rfl
@[go_sem] theorem ty.z31:zD Tryz.prog 31= .sl 0 true []:=by kernel_rfl
@[go_sem] theorem ty.c31:Tryz.prog.cellsOf 31=1:=by kernel_rfl
@[go_sem] theorem ty.i31:(Tryz.prog.info? 31).isSome=true:=by kernel_rfl
@[go_sem] theorem ty.k33:tk Tryz.prog 33= .st [(0,1,false),(1,1,false),(2,1,false),(3,1,false),(4,1,false)] 5:=by kernel_rfl
@[go_sem] theorem ty.z33:zD Tryz.prog 33= .agg [.v (.int .i64 0),.v (.bool false),.sl 0 true [],.sl 0 true [],.sl 0 true []]:=by kernel_rfl
@[go_sem] theorem ty.c33:Tryz.prog.cellsOf 33=5:=by kernel_rfl
@[go_sem] theorem ty.i33:(Tryz.prog.info? 33).isSome=true:=by kernel_rfl
@[go_sem] theorem ty.k34:tk Tryz.prog 34= .sl 85 6 104 true:=by kernel_rfl
@[go_sem] theorem ty.e34:dJ Tryz.prog 34=85:=by kernel_rfl
@[go_sem] theorem ty.c34:Tryz.prog.cellsOf 34=1:=by kernel_rfl
@[go_sem] theorem ty.i34:(Tryz.prog.info? 34).isSome=true:=by kernel_rfl
@[go_sem] theorem ty.k36:tk Tryz.prog 36= .st [(0,5,true),(5,1,false)] 6:=by kernel_rfl
@[go_sem] theorem ty.z36:zD Tryz.prog 36= .agg [.v (.int .i64 0),.v (.bool false),.sl 0 true [],.sl 0 true [],.sl 0 true [],.sl 0 true []]:=by kernel_rfl
@[go_sem] theorem ty.c36:Tryz.prog.cellsOf 36=6:=by kernel_rfl
@[go_sem] theorem ty.i36:(Tryz.prog.info? 36).isSome=true:=by kernel_rfl
@[go_sem] theorem ty.k37:tk Tryz.prog 37= .sl 3 1 8 true:=by kernel_rfl
@[go_sem] theorem ty.e37:dJ Tryz.prog 37=3:=by kernel_rfl
@[go_sem] theorem ty.z37:zD Tryz.prog 37= .sl 0 true []:=by kernel_rfl
@[go_sem] theorem ty.c37:Tryz.prog.cellsOf 37=1:=by kernel_rfl
@[go_sem] theorem ty.i37:(Tryz.prog.info? 37).isSome=true:=by kernel_rfl
@[go_sem] theorem ty.k38:tk Tryz.prog 38= .sl 93 2 32 true:=by kernel_rfl
@[go_sem] theorem ty.e38:dJ Tryz.prog 38=93:=by kernel_rfl
@[go_sem] theorem ty.c38:Tryz.prog.cellsOf 38=1:=by kernel_rfl
@[go_sem] theorem ty.i38:(Tryz.prog.info? 38).isSome=true:=by kernel_rfl
@[go_sem] theorem ty.k40:tk Tryz.prog 40= .st [(0,1,false),(1,1,false),(2,1,false)] 3:=by kernel_rfl
@[go_sem] theorem ty.z40:zD Tryz.prog 40= .agg [.v (.int .i64 0),.sl 0 true [],.sl 0 true []]:=by kernel_rfl
@[go_sem] theorem ty.c40:Tryz.prog.cellsOf 40=3:=by kernel_rfl
@[go_sem] theorem ty.i40:(Tryz.prog.info? 40).isSome=true:=by kernel_rfl
@[go_sem] theorem ty.k42:tk Tryz.prog 42= .st [(0,5,true),(5,6,true),(11,1,false),(12,3,true)] 15:=by kernel_rfl
@[go_sem] theorem ty.z42:zD Tryz.prog 42= .agg [.v (.int .i64 0),.v (.int .u64 0),.v (.int .i64 0),.v (.int .i64 0),.v (.int .i64 0),.v (.int .i64 0),.v (.bool false),.sl 0 true [],.sl 0 true [],.sl 0 true [],.sl 0 true [],.sl 0 true [],.v (.int .i64 0),.sl 0 true [],.sl 0 true []]:=by kernel_rfl
@[go_sem] theorem ty.c42:Tryz.prog.cellsOf 42=15:=by kernel_rfl
@[go_sem] theorem ty.i42:(Tryz.prog.info? 42).isSome=true:=by kernel_rfl
@[go_sem] theorem ty.k44:tk Tryz.prog 44= .st [(0,1,false),(1,1,false),(2,1,false),(3,1,false),(4,1,false)] 5:=by kernel_rfl
@[go_sem] theorem ty.q44:AQ Tryz.prog 44=some [.int .i64,.int .u64,.int .i64,.int .i64,.int .i64]:=by kernel_rfl
@[go_sem] theorem ty.z44:zD Tryz.prog 44= .agg [.v (.int .i64 0),.v (.int .u64 0),.v (.int .i64 0),.v (.int .i64 0),.v (.int .i64 0)]:=by kernel_rfl
@[go_sem] theorem ty.k45:tk Tryz.prog 45= .sl 90 4 80 true:=by kernel_rfl
@[go_sem] theorem ty.e45:dJ Tryz.prog 45=90:=by kernel_rfl
@[go_sem] theorem ty.c45:Tryz.prog.cellsOf 45=1:=by kernel_rfl
@[go_sem] theorem ty.i45:(Tryz.prog.info? 45).isSome=true:=by kernel_rfl
@[go_sem] theorem ty.z46:zD Tryz.prog 46= .agg [.v (.int .i64 0),.v (.bool false),.sl 0 true []]:=by kernel_rfl
@[go_sem] theorem ty.k47:tk Tryz.prog 47= .st [(0,1,false),(1,1,false),(2,1,false)] 3:=by kernel_rfl
@[go_sem] theorem ty.z47:zD Tryz.prog 47= .agg [.v (.int .i64 0),.v (.bool false),.sl 0 true []]:=by kernel_rfl
@[go_sem] theorem ty.c47:Tryz.prog.cellsOf 47=3:=by kernel_rfl
@[go_sem] theorem ty.i47:(Tryz.prog.info? 47).isSome=true:=by kernel_rfl
@[go_sem] theorem ty.k48:tk Tryz.prog 48= .sl 130 4 56 true:=by kernel_rfl
@[go_sem] theorem ty.e48:dJ Tryz.prog 48=130:=by kernel_rfl
@[go_sem] theorem ty.c48:Tryz.prog.cellsOf 48=1:=by kernel_rfl
@[go_sem] theorem ty.i48:(Tryz.prog.info? 48).isSome=true:=by kernel_rfl
@[go_sem] theorem ty.k50:tk Tryz.prog 50= .st [(0,3,true),(3,1,false)] 4:=by kernel_rfl
@[go_sem] theorem ty.z50:zD Tryz.prog 50= .agg [.v (.int .i64 0),.v (.bool false),.sl 0 true [],.sl 0 true []]:=by kernel_rfl
@[go_sem] theorem ty.c50:Tryz.prog.cellsOf 50=4:=by kernel_rfl
@[go_sem] theorem ty.i50:(Tryz.prog.info? 50).isSome=true:=by kernel_rfl
@[go_sem] theorem ty.k51:tk Tryz.prog 51= .sl 133 2 32 true:=by kernel_rfl
@[go_sem] theorem ty.e51:dJ Tryz.prog 51=133:=by kernel_rfl
@[go_sem] theorem ty.z51:zD Tryz.prog 51= .sl 0 true []:=by kernel_rfl
@[go_sem] theorem ty.c51:Tryz.prog.cellsOf 51=1:=by kernel_rfl
@[go_sem] theorem ty.i51:(Tryz.prog.info? 51).isSome=true:=by kernel_rfl
@[go_sem] theorem ty.k53:tk Tryz.prog 53= .st [(0,1,false),(1,1,false),(2,1,false)] 3:=by kernel_rfl
@[go_sem] theorem ty.z53:zD Tryz.prog 53= .agg [.v (.int .i64 0),.sl 0 true [],.sl 0 true []]:=by kernel_rfl
@[go_sem] theorem ty.c53:Tryz.prog.cellsOf 53=3:=by kernel_rfl
@[go_sem] theorem ty.i53:(Tryz.prog.info? 53).isSome=true:=by kernel_rfl
@[go_sem] theorem ty.k55:tk Tryz.prog 55= .st [(0,5,true),(5,4,true),(9,1,false),(10,3,true)] 13:=by kernel_rfl
@[go_sem] theorem ty.z55:zD Tryz.prog 55= .agg [.v (.int .i64 0),.v (.int .u64 0),.v (.int .i64 0),.v (.int .i64 0),.v (.int .i64 0),.v (.int .i64 0),.v (.bool false),.sl 0 true [],.sl 0 true [],.sl 0 true [],.v (.int .i64 0),.sl 0 true [],.sl 0 true []]:=by kernel_rfl
@[go_sem] theorem ty.c55:Tryz.prog.cellsOf 55=13:=by kernel_rfl
@[go_sem] theorem ty.i55:(Tryz.prog.info? 55).isSome=true:=by kernel_rfl
@[go_sem] theorem ty.k58:tk Tryz.prog 58= .st [(0,1,false),(1,1,false),(2,1,false),(3,1,false)] 4:=by kernel_rfl
@[go_sem] theorem ty.k62:tk Tryz.prog 62= .sl 75 2 32 true:=by kernel_rfl
@[go_sem] theorem ty.e62:dJ Tryz.prog 62=75:=by kernel_rfl
@[go_sem] theorem ty.c62:Tryz.prog.cellsOf 62=1:=by kernel_rfl
@[go_sem] theorem ty.i62:(Tryz.prog.info? 62).isSome=true:=by kernel_rfl
@[go_sem] theorem ty.k63:tk Tryz.prog 63= .sl 5 1 1 true:=by kernel_rfl
@[go_sem] theorem ty.e63:dJ Tryz.prog 63=5:=by kernel_rfl
@[go_sem] theorem ty.z63:zD Tryz.prog 63= .sl 0 true []:=by kernel_rfl
@[go_sem] theorem ty.k75:tk Tryz.prog 75= .st [(0,1,false),(1,1,false)] 2:=by kernel_rfl
@[go_sem] theorem ty.z75:zD Tryz.prog 75= .agg [.v (.int .i64 0),.sl 0 true []]:=by kernel_rfl
@[go_sem] theorem ty.k80:tk Tryz.prog 80= .sl 4 1 1 true:=by kernel_rfl
@[go_sem] theorem ty.e80:dJ Tryz.prog 80=4:=by kernel_rfl
@[go_sem] theorem ty.k85:tk Tryz.prog 85= .st [(0,1,false),(1,5,true)] 6:=by kernel_rfl
@[go_sem] theorem ty.z85:zD Tryz.prog 85= .agg [.v (.string ByteArray.empty),.v (.int .i64 0),.v (.bool false),.sl 0 true [],.sl 0 true [],.sl 0 true []]:=by kernel_rfl
@[go_sem] theorem ty.c85:Tryz.prog.cellsOf 85=6:=by kernel_rfl
@[go_sem] theorem ty.i85:(Tryz.prog.info? 85).isSome=true:=by kernel_rfl
@[go_sem] theorem ty.k87:tk Tryz.prog 87= .st [(0,1,false),(1,1,false)] 2:=by kernel_rfl
@[go_sem] theorem ty.z87:zD Tryz.prog 87= .agg [.v (.string ByteArray.empty),.sl 0 true []]:=by kernel_rfl
@[go_sem] theorem ty.c87:Tryz.prog.cellsOf 87=2:=by kernel_rfl
@[go_sem] theorem ty.i87:(Tryz.prog.info? 87).isSome=true:=by kernel_rfl
@[go_sem] theorem ty.k88:tk Tryz.prog 88= .sl 47 3 40 true:=by kernel_rfl
@[go_sem] theorem ty.e88:dJ Tryz.prog 88=47:=by kernel_rfl
@[go_sem] theorem ty.c88:Tryz.prog.cellsOf 88=1:=by kernel_rfl
@[go_sem] theorem ty.i88:(Tryz.prog.info? 88).isSome=true:=by kernel_rfl
@[go_sem] theorem ty.k90:tk Tryz.prog 90= .st [(0,1,false),(1,2,true),(3,1,false)] 4:=by kernel_rfl
@[go_sem] theorem ty.z90:zD Tryz.prog 90= .agg [.v (.string ByteArray.empty),.v (.string ByteArray.empty),.sl 0 true [],.sl 0 true []]:=by kernel_rfl
@[go_sem] theorem ty.c90:Tryz.prog.cellsOf 90=4:=by kernel_rfl
@[go_sem] theorem ty.i90:(Tryz.prog.info? 90).isSome=true:=by kernel_rfl
@[go_sem] theorem ty.k93:tk Tryz.prog 93= .st [(0,1,false),(1,1,false)] 2:=by kernel_rfl
@[go_sem] theorem ty.z93:zD Tryz.prog 93= .agg [.v (.int .u64 0),.sl 0 true []]:=by kernel_rfl
@[go_sem] theorem ty.c93:Tryz.prog.cellsOf 93=2:=by kernel_rfl
@[go_sem] theorem ty.i93:(Tryz.prog.info? 93).isSome=true:=by kernel_rfl
@[go_sem] theorem ty.k94:tk Tryz.prog 94= .int .i64:=by kernel_rfl
@[go_sem] theorem ty.z94:zD Tryz.prog 94= .v (.int .i64 0):=by kernel_rfl
@[go_sem] theorem ty.c94:Tryz.prog.cellsOf 94=1:=by kernel_rfl
@[go_sem] theorem ty.i94:(Tryz.prog.info? 94).isSome=true:=by kernel_rfl
@[go_sem] theorem ty.abW:tk Tryz.prog 106= .st [(0,15,true),(15,15,true),(30,1,false),(31,1,false),(32,1,false)] 33:=by kernel_rfl
@[go_sem] theorem ty.ab4:zD Tryz.prog 106= .agg [.v (.int .i64 0),.v (.int .u64 0),.v (.int .i64 0),.v (.int .i64 0),.v (.int .i64 0),.v (.int .i64 0),.v (.bool false),.sl 0 true [],.sl 0 true [],.sl 0 true [],.sl 0 true [],.sl 0 true [],.v (.int .i64 0),.sl 0 true [],.sl 0 true [],.v (.int .i64 0),.v (.int .u64 0),.v (.int .i64 0),.v (.int .i64 0),.v (.int .i64 0),.v (.int .i64 0),.v (.bool false),.sl 0 true [],.sl 0 true [],.sl 0 true [],.sl 0 true [],.sl 0 true [],.v (.int .i64 0),.sl 0 true [],.sl 0 true [],.v (.int .i64 0),.sl 0 true [],.sl 0 true []]:=by kernel_rfl
@[go_sem] theorem ty.abH:tk Tryz.prog 107= .sl 111 1 8 true:=by kernel_rfl
@[go_sem] theorem ty.ab1:dJ Tryz.prog 107=111:=by kernel_rfl
@[go_sem] theorem ty.aat:tk Tryz.prog 109= .fn:=by kernel_rfl
@[go_sem] theorem ty.abc:tk Tryz.prog 111= .st [(0,1,false)] 1:=by kernel_rfl
@[go_sem] theorem ty.abD:zD Tryz.prog 111= .agg [.v .nilFunc]:=by kernel_rfl
@[go_sem] theorem ty.aaF:Tryz.prog.cellsOf 111=1:=by kernel_rfl
@[go_sem] theorem ty.i111:(Tryz.prog.info? 111).isSome=true:=by kernel_rfl
@[go_sem] theorem ty.aaJ:tk Tryz.prog 130= .st [(0,1,false),(1,3,true)] 4:=by kernel_rfl
@[go_sem] theorem ty.z130:zD Tryz.prog 130= .agg [.v (.string ByteArray.empty),.v (.int .i64 0),.v (.bool false),.sl 0 true []]:=by kernel_rfl
@[go_sem] theorem ty.z131:zD Tryz.prog 131= .v .nilFunc:=by kernel_rfl
@[go_sem] theorem ty.abp:tk Tryz.prog 133= .st [(0,1,false),(1,1,false)] 2:=by kernel_rfl
@[go_sem] theorem ty.abw:zD Tryz.prog 133= .agg [.v (.int .u64 0),.sl 0 true []]:=by kernel_rfl
@[go_sem] theorem ty.abn:tk Tryz.prog 143= .st [(0,1,false),(1,1,false)] 2:=by kernel_rfl
@[go_sem] theorem ty.z143:zD Tryz.prog 143= .agg [.v (.string ByteArray.empty),.sl 0 true []]:=by kernel_rfl
@[go_sem] theorem ty.aaV:Tryz.prog.cellsOf 143=2:=by kernel_rfl
@[go_sem] theorem ty.i143:(Tryz.prog.info? 143).isSome=true:=by kernel_rfl
@[go_sem] theorem ty.aaA:tk Tryz.prog 165= .sl 37 1 24 true:=by kernel_rfl
@[go_sem] theorem ty.aax:dJ Tryz.prog 165=37:=by kernel_rfl
@[go_sem] theorem ty.aaW:zD Tryz.prog 165= .sl 0 true []:=by kernel_rfl
@[go_sem] theorem ty.abd:Tryz.prog.cellsOf 165=1:=by kernel_rfl
@[go_sem] theorem ty.i165:(Tryz.prog.info? 165).isSome=true:=by kernel_rfl
@[go_sem] theorem ty.abl:tk Tryz.prog 166= .fn:=by kernel_rfl
@[go_sem] theorem ty.abf:tk Tryz.prog 168= .st [(0,1,false),(1,1,false)] 2:=by kernel_rfl
@[go_sem] theorem ty.z168:zD Tryz.prog 168= .agg [.v (.int .u64 0),.v (.int .i64 0)]:=by kernel_rfl
@[go_sem] theorem ty.aaU:Tryz.prog.cellsOf 168=2:=by kernel_rfl
@[go_sem] theorem ty.i168:(Tryz.prog.info? 168).isSome=true:=by kernel_rfl
@[go_sem] theorem ty.abY:tk Tryz.prog 169= .sl 168 2 16 true:=by kernel_rfl
@[go_sem] theorem ty.abU:dJ Tryz.prog 169=168:=by kernel_rfl
@[go_sem] theorem ty.ab6:tk Tryz.prog 172= .sl 63 1 24 true:=by kernel_rfl
@[go_sem] theorem ty.aaZ:dJ Tryz.prog 172=63:=by kernel_rfl
@[go_sem] theorem ty.abJ:zD Tryz.prog 172= .sl 0 true []:=by kernel_rfl
@[go_sem] theorem ty.abo:Tryz.prog.cellsOf 172=1:=by kernel_rfl
@[go_sem] theorem ty.i172:(Tryz.prog.info? 172).isSome=true:=by kernel_rfl
@[go_sem] theorem ty.z182:zD Tryz.prog 182= .v .nilFunc:=by kernel_rfl
@[go_sem] theorem ty.z183:zD Tryz.prog 183= .v .nilFunc:=by kernel_rfl
@[go_sem] theorem ty.aa4:tk Tryz.prog 194= .int .u64:=by kernel_rfl
@[go_sem] theorem ty.aa0:tk Tryz.prog 197= .int .u32:=by kernel_rfl
@[go_sem] theorem ty.abT:tk Tryz.prog 205= .fn:=by kernel_rfl
@[go_sem] theorem ty.abx:zD Tryz.prog 205= .v .nilFunc:=by kernel_rfl
@[go_sem] theorem ty.abq:Tryz.prog.cellsOf 205=1:=by kernel_rfl
@[go_sem] theorem ty.i205:(Tryz.prog.info? 205).isSome=true:=by kernel_rfl
@[go_sem] theorem ty.z218:zD Tryz.prog 218= .v .nilFunc:=by kernel_rfl
@[go_sem] theorem ty.z222:zD Tryz.prog 222= .v .nilFunc:=by kernel_rfl
@[go_sem] theorem ty.abR:tk Tryz.prog 228= .sl 230 1 8 true:=by kernel_rfl
@[go_sem] theorem ty.acd:dJ Tryz.prog 228=230:=by kernel_rfl
@[go_sem] theorem ty.z228:zD Tryz.prog 228= .sl 0 true []:=by kernel_rfl
@[go_sem] theorem ty.z229:zD Tryz.prog 229= .agg [.v .nilFunc]:=by kernel_rfl
@[go_sem] theorem ty.aaB:tk Tryz.prog 230= .st [(0,1,false)] 1:=by kernel_rfl
@[go_sem] theorem ty.abE:zD Tryz.prog 230= .agg [.v .nilFunc]:=by kernel_rfl
@[go_sem] theorem ty.abg:tk Tryz.prog 234= .ar 128 5 1 false 128:=by kernel_rfl
@[go_sem] theorem ty.z234:zD Tryz.prog 234= .agg [.v (.int .u8 0),.v (.int .u8 0),.v (.int .u8 0),.v (.int .u8 0),.v (.int .u8 0),.v (.int .u8 0),.v (.int .u8 0),.v (.int .u8 0),.v (.int .u8 0),.v (.int .u8 0),.v (.int .u8 0),.v (.int .u8 0),.v (.int .u8 0),.v (.int .u8 0),.v (.int .u8 0),.v (.int .u8 0),.v (.int .u8 0),.v (.int .u8 0),.v (.int .u8 0),.v (.int .u8 0),.v (.int .u8 0),.v (.int .u8 0),.v (.int .u8 0),.v (.int .u8 0),.v (.int .u8 0),.v (.int .u8 0),.v (.int .u8 0),.v (.int .u8 0),.v (.int .u8 0),.v (.int .u8 0),.v (.int .u8 0),.v (.int .u8 0),.v (.int .u8 0),.v (.int .u8 0),.v (.int .u8 0),.v (.int .u8 0),.v (.int .u8 0),.v (.int .u8 0),.v (.int .u8 0),.v (.int .u8 0),.v (.int .u8 0),.v (.int .u8 0),.v (.int .u8 0),.v (.int .u8 0),.v (.int .u8 0),.v (.int .u8 0),.v (.int .u8 0),.v (.int .u8 0),.v (.int .u8 0),.v (.int .u8 0),.v (.int .u8 0),.v (.int .u8 0),.v (.int .u8 0),.v (.int .u8 0),.v (.int .u8 0),.v (.int .u8 0),.v (.int .u8 0),.v (.int .u8 0),.v (.int .u8 0),.v (.int .u8 0),.v (.int .u8 0),.v (.int .u8 0),.v (.int .u8 0),.v (.int .u8 0),.v (.int .u8 0),.v (.int .u8 0),.v (.int .u8 0),.v (.int .u8 0),.v (.int .u8 0),.v (.int .u8 0),.v (.int .u8 0),.v (.int .u8 0),.v (.int .u8 0),.v (.int .u8 0),.v (.int .u8 0),.v (.int .u8 0),.v (.int .u8 0),.v (.int .u8 0),.v (.int .u8 0),.v (.int .u8 0),.v (.int .u8 0),.v (.int .u8 0),.v (.int .u8 0),.v (.int .u8 0),.v (.int .u8 0),.v (.int .u8 0),.v (.int .u8 0),.v (.int .u8 0),.v (.int .u8 0),.v (.int .u8 0),.v (.int .u8 0),.v (.int .u8 0),.v (.int .u8 0),.v (.int .u8 0),.v (.int .u8 0),.v (.int .u8 0),.v (.int .u8 0),.v (.int .u8 0),.v (.int .u8 0),.v (.int .u8 0),.v (.int .u8 0),.v (.int .u8 0),.v (.int .u8 0),.v (.int .u8 0),.v (.int .u8 0),.v (.int .u8 0),.v (.int .u8 0),.v (.int .u8 0),.v (.int .u8 0),.v (.int .u8 0),.v (.int .u8 0),.v (.int .u8 0),.v (.int .u8 0),.v (.int .u8 0),.v (.int .u8 0),.v (.int .u8 0),.v (.int .u8 0),.v (.int .u8 0),.v (.int .u8 0),.v (.int .u8 0),.v (.int .u8 0),.v (.int .u8 0),.v (.int .u8 0),.v (.int .u8 0),.v (.int .u8 0),.v (.int .u8 0),.v (.int .u8 0),.v (.int .u8 0)]:=by kernel_rfl
@[go_sem] theorem ty.abI:tk Tryz.prog 245= .fn:=by kernel_rfl
@[go_sem] theorem ty.abL:zD Tryz.prog 245= .v .nilFunc:=by kernel_rfl
@[go_sem] theorem ty.aaG:Tryz.prog.cellsOf 245=1:=by kernel_rfl
@[go_sem] theorem ty.i245:(Tryz.prog.info? 245).isSome=true:=by kernel_rfl
@[go_sem] theorem ty.acb:tk Tryz.prog 278= .fn:=by kernel_rfl
@[go_sem] theorem ty.ab0:zD Tryz.prog 278= .v .nilFunc:=by kernel_rfl
@[go_sem] theorem ty.abN:Tryz.prog.cellsOf 278=1:=by kernel_rfl
@[go_sem] theorem ty.i278:(Tryz.prog.info? 278).isSome=true:=by kernel_rfl
@[go_sem] theorem ty.aay:tk Tryz.prog 314= .st [(0,1,false),(1,1,false)] 2:=by kernel_rfl
@[go_sem] theorem ty.abr:zD Tryz.prog 314= .agg [.sl 0 true [],.sl 0 true []]:=by kernel_rfl
@[go_sem] theorem ty.abz:tk Tryz.prog 316= .map 3 3:=by kernel_rfl
@[go_sem] theorem ty.aaH:tk Tryz.prog 317= .ar 16 197 1 false 16:=by kernel_rfl
@[go_sem] theorem ty.abM:tk Tryz.prog 328= .sl 31 1 24 true:=by kernel_rfl
@[go_sem] theorem ty.ab2:dJ Tryz.prog 328=31:=by kernel_rfl
@[go_sem] theorem ty.abk:tk Tryz.prog 330= .sl 29 1 24 true:=by kernel_rfl
@[go_sem] theorem ty.aaY:dJ Tryz.prog 330=29:=by kernel_rfl
@[go_sem] theorem ty.abK:tk Tryz.prog 332= .sl 30 1 24 true:=by kernel_rfl
@[go_sem] theorem ty.abV:dJ Tryz.prog 332=30:=by kernel_rfl
@[go_sem] theorem ty.abB:tk Tryz.prog 338= .sl 353 5 56 true:=by kernel_rfl
@[go_sem] theorem ty.ab3:dJ Tryz.prog 338=353:=by kernel_rfl
@[go_sem] theorem ty.abZ:tk Tryz.prog 341= .st [(0,1,false),(1,1,false)] 2:=by kernel_rfl
@[go_sem] theorem ty.abt:zD Tryz.prog 341= .agg [.v (.bool false),.sl 0 true []]:=by kernel_rfl
@[go_sem] theorem ty.aba:tk Tryz.prog 346= .st [(0,1,false),(1,1,false)] 2:=by kernel_rfl
@[go_sem] theorem ty.abC:zD Tryz.prog 346= .agg [.v (.string ByteArray.empty),.v (.string ByteArray.empty)]:=by kernel_rfl
@[go_sem] theorem ty.abS:Tryz.prog.cellsOf 346=2:=by kernel_rfl
@[go_sem] theorem ty.i346:(Tryz.prog.info? 346).isSome=true:=by kernel_rfl
@[go_sem] theorem ty.ab8:tk Tryz.prog 351= .st [(0,1,false),(1,1,false),(2,1,false),(3,1,false)] 4:=by kernel_rfl
@[go_sem] theorem ty.abQ:AQ Tryz.prog 351=some [.str,.bool,.int .i64,.int .i64]:=by kernel_rfl
@[go_sem] theorem ty.aa8:zD Tryz.prog 351= .agg [.v (.string ByteArray.empty),.v (.bool false),.v (.int .i64 0),.v (.int .i64 0)]:=by kernel_rfl
@[go_sem] theorem ty.aaw:Tryz.prog.cellsOf 351=4:=by kernel_rfl
@[go_sem] theorem ty.i351:(Tryz.prog.info? 351).isSome=true:=by kernel_rfl
@[go_sem] theorem ty.ab9:tk Tryz.prog 353= .st [(0,1,false),(1,4,true)] 5:=by kernel_rfl
@[go_sem] theorem ty.aaP:zD Tryz.prog 353= .agg [.v (.string ByteArray.empty),.v (.string ByteArray.empty),.v (.bool false),.v (.int .i64 0),.v (.int .i64 0)]:=by kernel_rfl
@[go_sem] theorem ty.abb:Tryz.prog.cellsOf 353=5:=by kernel_rfl
@[go_sem] theorem ty.i353:(Tryz.prog.info? 353).isSome=true:=by kernel_rfl
@[go_sem] theorem ty.ab5:tk Tryz.prog 355= .ptr 357:=by kernel_rfl
@[go_sem] theorem ty.aaS:zD Tryz.prog 355= .v (.pointer none):=by kernel_rfl
@[go_sem] theorem ty.abu:Tryz.prog.cellsOf 355=1:=by kernel_rfl
@[go_sem] theorem ty.i355:(Tryz.prog.info? 355).isSome=true:=by kernel_rfl
@[go_sem] theorem ty.aaE:tk Tryz.prog 357= .st [(0,1,false),(1,1,false)] 2:=by kernel_rfl
@[go_sem] theorem ty.aaN:zD Tryz.prog 357= .agg [.sl 0 true [],.v (.map none)]:=by kernel_rfl
@[go_sem] theorem ty.aaQ:tk Tryz.prog 364= .jQ ["jalousie/node.least", "jalousie/node.may", "jalousie/node.put", "jalousie/node.take"]:=by kernel_rfl
@[go_sem] theorem ty.aca:zD Tryz.prog 364= .v .nilIface:=by kernel_rfl
@[go_sem] theorem ty.abX:tk Tryz.prog 365= .sl 364 1 16 true:=by kernel_rfl
@[go_sem] theorem ty.aaO:dJ Tryz.prog 365=364:=by kernel_rfl
@[go_sem] theorem ty.abh:tk Tryz.prog 376= .st [] 0:=by kernel_rfl
@[go_sem] theorem ty.ab7:zD Tryz.prog 376= .agg []:=by kernel_rfl
@[go_sem] theorem ty.aa7:tk Tryz.prog 377= .st [] 0:=by kernel_rfl
@[go_sem] theorem ty.aau:zD Tryz.prog 377= .agg []:=by kernel_rfl
@[go_sem] theorem ty.f0:okF Tryz.prog 0=false:=by kernel_rfl
@[go_sem] theorem ty.f1:okF Tryz.prog 1=false:=by kernel_rfl
@[go_sem] theorem ty.f2:okF Tryz.prog 2=true:=by kernel_rfl
@[go_sem] theorem ty.f3:okF Tryz.prog 3=true:=by kernel_rfl
@[go_sem] theorem ty.f4:okF Tryz.prog 4=true:=by kernel_rfl
@[go_sem] theorem ty.f5:okF Tryz.prog 5=true:=by kernel_rfl
@[go_sem] theorem ty.f6:okF Tryz.prog 6=true:=by kernel_rfl
@[go_sem] theorem ty.f7:okF Tryz.prog 7=true:=by kernel_rfl
@[go_sem] theorem ty.f8:okF Tryz.prog 8=true:=by kernel_rfl
@[go_sem] theorem ty.f9:okF Tryz.prog 9=true:=by kernel_rfl
@[go_sem] theorem ty.f11:okF Tryz.prog 11=true:=by kernel_rfl
@[go_sem] theorem ty.f12:okF Tryz.prog 12=true:=by kernel_rfl
@[go_sem] theorem ty.f13:okF Tryz.prog 13=true:=by kernel_rfl
@[go_sem] theorem ty.f15:okF Tryz.prog 15=true:=by kernel_rfl
@[go_sem] theorem ty.f16:okF Tryz.prog 16=true:=by kernel_rfl
@[go_sem] theorem ty.f17:okF Tryz.prog 17=true:=by kernel_rfl
@[go_sem] theorem ty.f18:okF Tryz.prog 18=true:=by kernel_rfl
@[go_sem] theorem ty.f20:okF Tryz.prog 20=true:=by kernel_rfl
@[go_sem] theorem ty.f21:okF Tryz.prog 21=true:=by kernel_rfl
@[go_sem] theorem ty.f22:okF Tryz.prog 22=true:=by kernel_rfl
@[go_sem] theorem ty.f23:okF Tryz.prog 23=true:=by kernel_rfl
@[go_sem] theorem ty.f24:okF Tryz.prog 24=true:=by kernel_rfl
@[go_sem] theorem ty.f26:okF Tryz.prog 26=true:=by kernel_rfl
@[go_sem] theorem ty.f27:okF Tryz.prog 27=true:=by kernel_rfl
@[go_sem] theorem ty.f28:okF Tryz.prog 28=true:=by kernel_rfl
@[go_sem] theorem ty.f30:okF Tryz.prog 30=true:=by kernel_rfl
@[go_sem] theorem ty.f31:okF Tryz.prog 31=true:=by kernel_rfl
@[go_sem] theorem ty.f32:okF Tryz.prog 32=true:=by kernel_rfl
@[go_sem] theorem ty.f33:okF Tryz.prog 33=true:=by kernel_rfl
@[go_sem] theorem ty.f34:okF Tryz.prog 34=true:=by kernel_rfl
@[go_sem] theorem ty.f46:okF Tryz.prog 46=true:=by kernel_rfl
@[go_sem] theorem ty.f47:okF Tryz.prog 47=true:=by kernel_rfl
@[go_sem] theorem ty.f48:okF Tryz.prog 48=true:=by kernel_rfl
@[go_sem] theorem ty.f49:okF Tryz.prog 49=true:=by kernel_rfl
@[go_sem] theorem ty.f50:okF Tryz.prog 50=true:=by kernel_rfl
@[go_sem] theorem ty.f51:okF Tryz.prog 51=true:=by kernel_rfl
@[go_sem] theorem ty.f52:okF Tryz.prog 52=true:=by kernel_rfl
@[go_sem] theorem ty.f53:okF Tryz.prog 53=true:=by kernel_rfl
@[go_sem] theorem ty.f55:okF Tryz.prog 55=true:=by kernel_rfl
@[go_sem] theorem ty.f56:okF Tryz.prog 56=true:=by kernel_rfl
@[go_sem] theorem ty.f57:okF Tryz.prog 57=true:=by kernel_rfl
@[go_sem] theorem ty.f60:okF Tryz.prog 60=true:=by kernel_rfl
@[go_sem] theorem ty.f61:okF Tryz.prog 61=true:=by kernel_rfl
@[go_sem] theorem ty.f62:okF Tryz.prog 62=true:=by kernel_rfl
@[go_sem] theorem ty.f63:okF Tryz.prog 63=true:=by kernel_rfl
@[go_sem] theorem ty.f64:okF Tryz.prog 64=true:=by kernel_rfl
@[go_sem] theorem ty.f65:okF Tryz.prog 65=true:=by kernel_rfl
@[go_sem] theorem ty.f66:okF Tryz.prog 66=true:=by kernel_rfl
@[go_sem] theorem ty.f67:okF Tryz.prog 67=true:=by kernel_rfl
@[go_sem] theorem ty.f70:okF Tryz.prog 70=true:=by kernel_rfl
@[go_sem] theorem ty.f71:okF Tryz.prog 71=true:=by kernel_rfl
@[go_sem] theorem ty.f73:okF Tryz.prog 73=true:=by kernel_rfl
@[go_sem] theorem ty.f74:okF Tryz.prog 74=true:=by kernel_rfl
@[go_sem] theorem ty.f75:okF Tryz.prog 75=true:=by kernel_rfl
@[go_sem] theorem ty.f76:okF Tryz.prog 76=true:=by kernel_rfl
@[go_sem] theorem ty.f77:okF Tryz.prog 77=true:=by kernel_rfl
@[go_sem] theorem ty.f78:okF Tryz.prog 78=true:=by kernel_rfl
@[go_sem] theorem ty.f79:okF Tryz.prog 79=true:=by kernel_rfl
@[go_sem] theorem ty.f80:okF Tryz.prog 80=true:=by kernel_rfl
@[go_sem] theorem ty.f81:okF Tryz.prog 81=true:=by kernel_rfl
@[go_sem] theorem ty.f82:okF Tryz.prog 82=true:=by kernel_rfl
@[go_sem] theorem ty.f95:okF Tryz.prog 95=true:=by kernel_rfl
@[go_sem] theorem ty.f96:okF Tryz.prog 96=true:=by kernel_rfl
@[go_sem] theorem ty.f97:okF Tryz.prog 97=true:=by kernel_rfl
@[go_sem] theorem ty.f98:okF Tryz.prog 98=true:=by kernel_rfl
@[go_sem] theorem ty.f99:okF Tryz.prog 99=true:=by kernel_rfl
@[go_sem] theorem ty.f102:okF Tryz.prog 102=true:=by kernel_rfl
@[go_sem] theorem ty.f103:okF Tryz.prog 103=true:=by kernel_rfl
@[go_sem] theorem ty.f104:okF Tryz.prog 104=true:=by kernel_rfl
@[go_sem] theorem ty.f106:okF Tryz.prog 106=true:=by kernel_rfl
@[go_sem] theorem ty.f107:okF Tryz.prog 107=true:=by kernel_rfl
@[go_sem] theorem ty.f110:okF Tryz.prog 110=true:=by kernel_rfl
@[go_sem] theorem ty.f111:okF Tryz.prog 111=true:=by kernel_rfl
@[go_sem] theorem ty.f112:okF Tryz.prog 112=true:=by kernel_rfl
@[go_sem] theorem ty.f113:okF Tryz.prog 113=false:=by kernel_rfl
@[go_sem] theorem ty.f115:okF Tryz.prog 115=true:=by kernel_rfl
@[go_sem] theorem ty.f116:okF Tryz.prog 116=true:=by kernel_rfl
@[go_sem] theorem ty.f117:okF Tryz.prog 117=true:=by kernel_rfl
@[go_sem] theorem ty.f118:okF Tryz.prog 118=true:=by kernel_rfl
@[go_sem] theorem ty.f119:okF Tryz.prog 119=true:=by kernel_rfl
@[go_sem] theorem ty.f120:okF Tryz.prog 120=true:=by kernel_rfl
@[go_sem] theorem ty.f121:okF Tryz.prog 121=true:=by kernel_rfl
@[go_sem] theorem ty.f122:okF Tryz.prog 122=true:=by kernel_rfl
@[go_sem] theorem ty.f123:okF Tryz.prog 123=true:=by kernel_rfl
@[go_sem] theorem ty.f124:okF Tryz.prog 124=true:=by kernel_rfl
@[go_sem] theorem ty.f125:okF Tryz.prog 125=true:=by kernel_rfl
@[go_sem] theorem ty.f126:okF Tryz.prog 126=true:=by kernel_rfl
@[go_sem] theorem ty.f127:okF Tryz.prog 127=true:=by kernel_rfl
@[go_sem] theorem ty.f128:okF Tryz.prog 128=true:=by kernel_rfl
@[go_sem] theorem ty.f129:okF Tryz.prog 129=true:=by kernel_rfl
@[go_sem] theorem ty.f130:okF Tryz.prog 130=true:=by kernel_rfl
@[go_sem] theorem ty.f131:okF Tryz.prog 131=true:=by kernel_rfl
@[go_sem] theorem ty.f132:okF Tryz.prog 132=true:=by kernel_rfl
@[go_sem] theorem ty.f133:okF Tryz.prog 133=true:=by kernel_rfl
@[go_sem] theorem ty.f134:okF Tryz.prog 134=true:=by kernel_rfl
@[go_sem] theorem ty.f135:okF Tryz.prog 135=true:=by kernel_rfl
@[go_sem] theorem ty.f136:okF Tryz.prog 136=true:=by kernel_rfl
@[go_sem] theorem ty.f137:okF Tryz.prog 137=true:=by kernel_rfl
@[go_sem] theorem ty.f138:okF Tryz.prog 138=true:=by kernel_rfl
@[go_sem] theorem ty.f139:okF Tryz.prog 139=true:=by kernel_rfl
@[go_sem] theorem ty.f140:okF Tryz.prog 140=true:=by kernel_rfl
@[go_sem] theorem ty.f141:okF Tryz.prog 141=true:=by kernel_rfl
@[go_sem] theorem ty.f150:okF Tryz.prog 150=true:=by kernel_rfl
@[go_sem] theorem ty.f151:okF Tryz.prog 151=true:=by kernel_rfl
@[go_sem] theorem ty.f158:okF Tryz.prog 158=true:=by kernel_rfl
@[go_sem] theorem ty.f163:okF Tryz.prog 163=true:=by kernel_rfl
@[go_sem] theorem ty.f165:okF Tryz.prog 165=true:=by kernel_rfl
@[go_sem] theorem ty.f167:okF Tryz.prog 167=true:=by kernel_rfl
@[go_sem] theorem ty.f168:okF Tryz.prog 168=true:=by kernel_rfl
@[go_sem] theorem ty.f169:okF Tryz.prog 169=true:=by kernel_rfl
@[go_sem] theorem ty.f170:okF Tryz.prog 170=true:=by kernel_rfl
@[go_sem] theorem ty.f171:okF Tryz.prog 171=true:=by kernel_rfl
@[go_sem] theorem ty.f172:okF Tryz.prog 172=true:=by kernel_rfl
@[go_sem] theorem ty.f173:okF Tryz.prog 173=true:=by kernel_rfl
@[go_sem] theorem ty.f174:okF Tryz.prog 174=true:=by kernel_rfl
@[go_sem] theorem ty.f175:okF Tryz.prog 175=true:=by kernel_rfl
@[go_sem] theorem ty.f176:okF Tryz.prog 176=true:=by kernel_rfl
@[go_sem] theorem ty.f177:okF Tryz.prog 177=true:=by kernel_rfl
@[go_sem] theorem ty.f178:okF Tryz.prog 178=true:=by kernel_rfl
@[go_sem] theorem ty.f179:okF Tryz.prog 179=true:=by kernel_rfl
@[go_sem] theorem ty.f180:okF Tryz.prog 180=true:=by kernel_rfl
@[go_sem] theorem ty.f181:okF Tryz.prog 181=true:=by kernel_rfl
@[go_sem] theorem ty.f182:okF Tryz.prog 182=true:=by kernel_rfl
@[go_sem] theorem ty.f183:okF Tryz.prog 183=true:=by kernel_rfl
@[go_sem] theorem ty.f184:okF Tryz.prog 184=true:=by kernel_rfl
@[go_sem] theorem ty.f185:okF Tryz.prog 185=true:=by kernel_rfl
@[go_sem] theorem ty.f186:okF Tryz.prog 186=true:=by kernel_rfl
@[go_sem] theorem ty.f187:okF Tryz.prog 187=true:=by kernel_rfl
@[go_sem] theorem ty.f188:okF Tryz.prog 188=true:=by kernel_rfl
@[go_sem] theorem ty.f189:okF Tryz.prog 189=true:=by kernel_rfl
@[go_sem] theorem ty.f190:okF Tryz.prog 190=true:=by kernel_rfl
@[go_sem] theorem ty.f196:okF Tryz.prog 196=true:=by kernel_rfl
@[go_sem] theorem ty.f213:okF Tryz.prog 213=true:=by kernel_rfl
@[go_sem] theorem ty.f214:okF Tryz.prog 214=false:=by kernel_rfl
@[go_sem] theorem ty.f215:okF Tryz.prog 215=true:=by kernel_rfl
@[go_sem] theorem ty.f216:okF Tryz.prog 216=true:=by kernel_rfl
@[go_sem] theorem ty.f217:okF Tryz.prog 217=true:=by kernel_rfl
@[go_sem] theorem ty.f218:okF Tryz.prog 218=true:=by kernel_rfl
@[go_sem] theorem ty.f219:okF Tryz.prog 219=true:=by kernel_rfl
@[go_sem] theorem ty.f220:okF Tryz.prog 220=true:=by kernel_rfl
@[go_sem] theorem ty.f221:okF Tryz.prog 221=true:=by kernel_rfl
@[go_sem] theorem ty.f222:okF Tryz.prog 222=true:=by kernel_rfl
@[go_sem] theorem ty.f223:okF Tryz.prog 223=true:=by kernel_rfl
@[go_sem] theorem ty.f224:okF Tryz.prog 224=true:=by kernel_rfl
@[go_sem] theorem ty.f225:okF Tryz.prog 225=true:=by kernel_rfl
@[go_sem] theorem ty.f226:okF Tryz.prog 226=true:=by kernel_rfl
@[go_sem] theorem ty.f227:okF Tryz.prog 227=true:=by kernel_rfl
@[go_sem] theorem ty.f228:okF Tryz.prog 228=true:=by kernel_rfl
@[go_sem] theorem ty.f229:okF Tryz.prog 229=true:=by kernel_rfl
@[go_sem] theorem ty.f230:okF Tryz.prog 230=true:=by kernel_rfl
@[go_sem] theorem ty.f231:okF Tryz.prog 231=true:=by kernel_rfl
@[go_sem] theorem ty.f243:okF Tryz.prog 243=true:=by kernel_rfl
@[go_sem] theorem ty.f244:okF Tryz.prog 244=true:=by kernel_rfl
@[go_sem] theorem ty.f245:okF Tryz.prog 245=true:=by kernel_rfl
@[go_sem] theorem ty.f246:okF Tryz.prog 246=true:=by kernel_rfl
@[go_sem] theorem ty.f247:okF Tryz.prog 247=true:=by kernel_rfl
@[go_sem] theorem ty.f248:okF Tryz.prog 248=true:=by kernel_rfl
@[go_sem] theorem ty.f249:okF Tryz.prog 249=true:=by kernel_rfl
@[go_sem] theorem ty.f250:okF Tryz.prog 250=true:=by kernel_rfl
@[go_sem] theorem ty.f251:okF Tryz.prog 251=true:=by kernel_rfl
@[go_sem] theorem ty.f252:okF Tryz.prog 252=true:=by kernel_rfl
@[go_sem] theorem ty.f253:okF Tryz.prog 253=true:=by kernel_rfl
@[go_sem] theorem ty.f257:okF Tryz.prog 257=true:=by kernel_rfl
@[go_sem] theorem ty.f258:okF Tryz.prog 258=true:=by kernel_rfl
@[go_sem] theorem ty.f259:okF Tryz.prog 259=true:=by kernel_rfl
@[go_sem] theorem ty.f260:okF Tryz.prog 260=true:=by kernel_rfl
@[go_sem] theorem ty.f261:okF Tryz.prog 261=true:=by kernel_rfl
@[go_sem] theorem ty.f262:okF Tryz.prog 262=true:=by kernel_rfl
@[go_sem] theorem ty.f263:okF Tryz.prog 263=true:=by kernel_rfl
@[go_sem] theorem ty.f264:okF Tryz.prog 264=true:=by kernel_rfl
@[go_sem] theorem ty.f265:okF Tryz.prog 265=true:=by kernel_rfl
@[go_sem] theorem ty.f266:okF Tryz.prog 266=true:=by kernel_rfl
@[go_sem] theorem ty.f267:okF Tryz.prog 267=true:=by kernel_rfl
@[go_sem] theorem ty.f268:okF Tryz.prog 268=true:=by kernel_rfl
@[go_sem] theorem ty.f269:okF Tryz.prog 269=true:=by kernel_rfl
@[go_sem] theorem ty.f270:okF Tryz.prog 270=true:=by kernel_rfl
@[go_sem] theorem ty.f271:okF Tryz.prog 271=true:=by kernel_rfl
@[go_sem] theorem ty.f272:okF Tryz.prog 272=true:=by kernel_rfl
@[go_sem] theorem ty.f274:okF Tryz.prog 274=true:=by kernel_rfl
@[go_sem] theorem ty.f275:okF Tryz.prog 275=true:=by kernel_rfl
@[go_sem] theorem ty.f293:okF Tryz.prog 293=true:=by kernel_rfl
@[go_sem] theorem ty.f294:okF Tryz.prog 294=true:=by kernel_rfl
@[go_sem] theorem ty.f295:okF Tryz.prog 295=true:=by kernel_rfl
@[go_sem] theorem ty.f296:okF Tryz.prog 296=false:=by kernel_rfl
@[go_sem] theorem ty.f297:okF Tryz.prog 297=true:=by kernel_rfl
@[go_sem] theorem ty.f298:okF Tryz.prog 298=true:=by kernel_rfl
@[go_sem] theorem ty.f299:okF Tryz.prog 299=true:=by kernel_rfl
@[go_sem] theorem ty.f300:okF Tryz.prog 300=true:=by kernel_rfl
@[go_sem] theorem ty.f301:okF Tryz.prog 301=true:=by kernel_rfl
@[go_sem] theorem ty.f302:okF Tryz.prog 302=true:=by kernel_rfl
theorem mx:Tryz.prog.follows .mixedOrders=true:=by kernel_rfl
end Go.Proofs.YtpjenciplibdnaaGreatDoor
namespace Aml
open Go Go.RowKit
def wy:List DV→Nat→List Nat→List DV
 |[],_,_=>[]
 |_::ds,i,[]=> .any::wy ds (i+1) []
 |d::ds,i,j::js=>if i=j then d::wy ds (i+1) js else .any::wy ds (i+1) (j::js)
def wk(live:List Nat)(fr:List DV):List DV:=wy fr 0 live
def mm(fr:List DV):List (Nat×DV)→List DV
 |[]=>fr
 |(i,d)::us=>mm (fr.set i d) us
structure Wm where
 a0:DV
 a1:DV
 a2:DV
 a3:DV
 a4:DV
 a5:DV
 a6:DV
 a7:DV
 a8:DV
 a9:DV
 bU:DV
 bZ:DV
 a12:DV
 cB:DV
 cE:DV
 cN:DV
def rc(r:Wm)(l:List DV):List DV:=r.a0::r.a1::r.a2::r.a3::r.a4::r.a5::r.a6::r.a7::r.a8::r.a9::r.bU::r.bZ::r.a12::r.cB::r.cE::r.cN::l
def fu(l:List DV):List DV:=l
theorem Lg{g:Gh}:∀{ds es:List DV} {us:List Value},aj g ds us→ds.length=es.length→(∀(i:Nat) (d e:DV),ds[i]? =some d→es[i]? =some e→e=d∨e= .any)→aj g es us:=
 fun{ds es us} h hl hs=>⟨by rw[←hl];exact h.len,fun i e u h1 h2=>by
  have hi:i<ds.length:=by rw[hl];exact(List.getElem?_eq_some_iff.1 h1).1
  rcases hs i _ e (List.getElem?_eq_getElem hi) h1 with rfl|rfl
  ·exact h.at_ i _ u (List.getElem?_eq_getElem hi) h2
  ·exact .any u⟩
theorem mr:∀(ds:List DV) (k:Nat) (js:List Nat),(wy ds k js).length=ds.length∧∀(i:Nat) (d e:DV),ds[i]? =some d→(wy ds k js)[i]? =some e→e=d∨e= .any
 |[],k,js=>⟨by simp[wy],fun i d e h=>by simp at h⟩
 |d::ds,k,[]=>by
  obtain⟨h1,h2⟩:=mr ds (k+1) []
  refine⟨by simp[wy,h1],fun i d' e a b=>?_⟩
  cases i with
  |zero=>simp[wy]at b;exact .inr b.symm
  |succ i=>simp[wy]at a b;exact h2 i d' e a b
 |d::ds,k,j::js=>by
  simp only[wy]
  split
  ·obtain⟨h1,h2⟩:=mr ds (k+1) js
   refine⟨by simp[h1],fun i d' e a b=>?_⟩
   cases i with
   |zero=>simp at a b;exact .inl (b.symm.trans a)
   |succ i=>simp at a b;exact h2 i d' e a b
  ·obtain⟨h1,h2⟩:=mr ds (k+1) (j::js)
   refine⟨by simp[h1],fun i d' e a b=>?_⟩
   cases i with
   |zero=>simp at b;exact .inr b.symm
   |succ i=>simp at a b;exact h2 i d' e a b
theorem sM{g:Gh}{fr:List DV}{us:List Value}(live:List Nat)(h:aj g fr us):aj g (wk live fr) us:=
 Lg h (mr fr 0 live).1.symm (mr fr 0 live).2
section
variable {P:Program} {w0:W0}
theorem J4(i s:Nat)(hs:0<s){c:Code}{fr:List DV}{S:St}{Q:Exit→List DV→St→Prop}{s0:Nat}(hi:fr[i]? =some (.sl s0 true []))
 (h:∀l,iX S.acc l→fW P w0 c (fr.set i (.acc l 0)) ⟨S.box,(l,.arr s [])::S.acc⟩ Q):fW P w0 c fr S Q:=by
 intro g a w h1 h2 h3
 have hlt:i<a.tmps.toList.length:=by rw[←h2.len];exact(List.getElem?_eq_some_iff.1 hi).1
 have hr:=h2.at_ i _ _ hi (List.getElem?_eq_getElem hlt)
 have hr':aM g (.sl s true []) a.tmps.toList[i]:=by obtain⟨o',ho'⟩:=eI hr;rw[ho'];exact .nil _ _ _ _ fun _=>rfl
 obtain⟨l,g',hle,hne,hR,hA⟩:=h1.qJ hs hr' (.arr s []) (.inr ⟨rfl,rfl⟩)
 have hfr:=fp (h2.mono hle) (List.getElem?_eq_getElem hlt) hA
 exact eM (h l (di hne) g' a w hR hfr (hle.dk h3)) fun _ _ _ k=>k.of_le hle
end
end Aml
namespace Aml
open Go Go.RowKit
def Ip(xs:List DV)(i:Nat)(F:DV→Prop):Prop:=∀d,xs[i]? =some d→eK d=true∧F d
def BX(xs:List DV)(i:Nat)(F:DV→Prop):Prop:=∃d,xs[i]? =some d∧eK d=true∧F d
theorem zx{α:Type}(f:α→DV)(l:List α)(i:Nat)(F:DV→Prop):Ip (List.map f l) i F=∀a,l[i]? =some a→eK (f a)=true∧F (f a):=by
 unfold Ip
 refine propext ⟨fun h a ha=>h _ (by rw[List.getElem?_map,ha];rfl),fun h d hd=>?_⟩
 rw[List.getElem?_map,Option.map_eq_some_iff]at hd
 obtain⟨a,ha,rfl⟩:=hd
 exact h a ha
theorem LB(i:Nat)(F:DV→Prop):Ip [] i F=True:=by simp[Ip]
theorem Iv(x:DV)(xs:List DV)(F:DV→Prop):Ip (x::xs) 0 F=(eK x=true∧F x):=by simp[Ip]
theorem G3(x:DV)(xs:List DV)(i:Nat)(F:DV→Prop):Ip (x::xs) (i+1) F=Ip xs i F:=by simp[Ip]
theorem AE{α:Type}(f:α→DV)(l:List α)(i:Nat)(F:DV→Prop):BX (List.map f l) i F=(i<l.length∧∀a,l[i]? =some a→eK (f a)=true∧F (f a)):=by
 unfold BX
 refine propext ⟨fun⟨d,hd,h⟩=>?_,fun⟨hi,h⟩=>⟨f l[i],by rw[List.getElem?_map,List.getElem?_eq_getElem hi];rfl,h _ (List.getElem?_eq_getElem hi)⟩⟩
 rw[List.getElem?_map,Option.map_eq_some_iff]at hd
 obtain⟨a,ha,rfl⟩:=hd
 exact⟨(List.getElem?_eq_some_iff.1 ha).1,fun b hb=>by rw[ha]at hb;cases hb;exact h⟩
theorem Jq(i:Nat)(F:DV→Prop):BX [] i F=False:=by simp[BX]
theorem Ow(u:Value):eK (.v u)=true:=rfl
theorem MH(s:Nat)(f:Bool)(xs:List DV):eK (.sl s f xs)=true:=rfl
theorem H8(ds:List DV):eK (.agg ds)=true:=rfl
theorem Ga(t:TypeId)(d:DV):eK (.jQ t d)=true:=rfl
theorem Hd(l n:Nat):eK (.acc l n)=true:=rfl
theorem Tu(u:Value):cd (.v u)=[.v u]:=rfl
theorem Q9(s:Nat)(f:Bool)(xs:List DV):cd (.sl s f xs)=[.sl s f xs]:=rfl
theorem Mi(ds:List DV):cd (.agg ds)=ds:=rfl
theorem MW(t:TypeId)(d:DV):cd (.jQ t d)=[.jQ t d]:=rfl
theorem L1(l n:Nat):cd (.acc l n)=[.acc l n]:=rfl
theorem fq{α:Type}(k:Nat)(x:α)(t:List (Nat×α)):lk ((k,x)::t) k=some x:=by simp[lk]
theorem pQ{α:Type}{k n:Nat}(h:¬k=n)(x:α)(t:List (Nat×α)):lk ((k,x)::t) n=lk t n:=by simp[lk,h]
theorem Ic{α:Type}(k:Nat)(x y:α)(t:List (Nat×α)):up ((k,x)::t) k y=(k,y)::t:=by simp[up]
theorem NQ{α:Type}{k n:Nat}(h:¬k=n)(x y:α)(t:List (Nat×α)):up ((k,x)::t) n y=(k,x)::up t n y:=by simp[up,h]
section
variable {P:Program} {w0:W0} (K:DV→Prop) (K2:DV→St→Prop) (S:St)
theorem Lf(k:IntKind)(d:DV)(ds:List DV):qi (.int k) (d::ds) K=K d:=rfl
theorem Ll(d:DV)(ds:List DV):qi .one (d::ds) K=K d:=rfl
theorem NV(d:DV)(ds:List DV):qi .fn (d::ds) K=K d:=rfl
theorem Kh(d:DV)(ds:List DV):qi .str (d::ds) K=K d:=rfl
theorem Rf(e s b:Nat)(i:Bool)(d:DV)(ds:List DV):qi (.sl e s b i) (d::ds) K=K d:=rfl
theorem Jo(k e:Nat)(d:DV)(ds:List DV):qi (.map k e) (d::ds) K=K d:=rfl
theorem Lv(e:Nat)(d:DV)(ds:List DV):qi (.ptr e) (d::ds) K=K d:=rfl
theorem Lu(m:List String)(d:DV)(ds:List DV):qi (.jQ m) (d::ds) K=K d:=rfl
theorem OX(fs:List (Nat×Nat×Bool))(n:Nat)(ds:List DV):qi (.st fs n) ds K=(n≤ds.length∧K (.agg (ds.take n))):=rfl
theorem Hk(k:TK)(ds:List DV):bR k S (.ip ds) K=qi k ds K:=rfl
theorem PM(e s b s':Nat)(f:Bool)(xs:List DV)(k:IntKind)(z:Int):aG (.sl e s b true) (.sl s' f xs) (.v (.int k z)) K=(s'=s∧0≤z∧z<xs.length∧Ip xs z.toNat fun d=>K (.ip (cd d))):=rfl
theorem IT(e s b bb o n c:Nat)(k:IntKind)(z:Int):aG (.sl e s b true) (.v (.slice (some ⟨bb,o,none⟩) n c)) (.v (.int k z)) K=(0≤z∧z<n∧K (.v (.pointer (some ⟨bb,o+z.toNat*s,none⟩)))):=rfl
theorem Mh(len e s nn bb o:Nat)(a:Bool)(k:IntKind)(z:Int):aG (.ar len e s a nn) (.v (.pointer (some ⟨bb,o,none⟩))) (.v (.int k z)) K=(0<s∧0≤z∧z<len∧K (.v (.pointer (some ⟨bb,o+z.toNat*s,none⟩)))):=rfl
theorem HC(len e s nn:Nat)(a:Bool)(ds:List DV)(k:IntKind)(z:Int):aG (.ar len e s a nn) (.ip ds) (.v (.int k z)) K=(0<s∧0≤z∧z<len∧z.toNat*s≤ds.length∧K (.ip (ds.drop (z.toNat*s)))):=rfl
theorem MZ(e s b l n:Nat)(k:IntKind)(z:Int):aG (.sl e s b true) (.acc l n) (.v (.int k z)) K=(0≤z∧z<n∧K (.ap l n s z.toNat 0)):=rfl
theorem MN(op:BinOp)(t:TK)(cx cy:Bool)(k k':IntKind)(m n:Int):sg op t cx cy (.v (.int k m)) (.v (.int k' n)) K=(sameKind op k k'=true∧nX op k m n K):=rfl
theorem Kw(op:BinOp)(t:TK)(cx cy:Bool)(a b:ByteArray):sg op t cx cy (.v (.string a)) (.v (.string b)) K=j2 op a b K:=rfl
theorem MK(cx cy a b:Bool):sg .neq .one cx cy (.v (.bool a)) (.v (.bool b)) K=K (.v (.bool (!(a==b)))):=rfl
theorem JW(b:Bool):Hy .not (.v (.bool b)) K=K (.v (.bool (!b))):=rfl
theorem LN(k:IntKind)(n:Int):Hy .xor (.v (.int k n)) K=K (.v (.int k (fD .xor k (if k.signed then -1 else k.max) n))):=rfl
theorem KQ(k0 k k1:IntKind)(n:Int):iW (.int k0) (.int k) (.v (.int k1 n)) K=K (.v (.int k (k.wrap n))):=rfl
theorem KZ(a:Addr):notNil (.v (.pointer (some a)))=true:=rfl
theorem JT(u:Value):nw S (.v u) K2=K2 (.v u) S:=rfl
theorem HL(s:Nat)(f:Bool)(xs:List DV):nw S (.sl s f xs) K2=K2 (.sl s f xs) S:=rfl
theorem zO(K3:List DV→St→Prop):mz S [] K3=K3 [] S:=rfl
theorem x9(d:DV)(ds:List DV)(K3:List DV→St→Prop):mz S (d::ds) K3=nw S d fun e S=>mz S ds fun es S=>K3 (e::es) S:=rfl
theorem OQ(u:Value):shr S (.v u) K2=K2 (.v u) S:=rfl
theorem KG(s:Nat)(f:Bool)(xs:List DV):shr S (.sl s f xs) K2=K2 (.sl s f xs) S:=rfl
theorem HQ(t:TypeId)(d:DV):shr S (.jQ t d) K2=K2 (.jQ t d) S:=rfl
theorem Gj(l n:Nat):shr S (.acc l n) K2=nw S (.acc l n) K2:=rfl
theorem Hg(ds:List DV):shr S (.agg ds) K2=mz S ds fun ds S=>K2 (.agg ds) S:=rfl
theorem Ef(K3:List DV→St→Prop):gP S [] K3=K3 [] S:=rfl
theorem y5(d:DV)(ds:List DV)(K3:List DV→St→Prop):gP S (d::ds) K3=shr S d fun e S=>gP S ds fun es S=>K3 (e::es) S:=rfl
theorem NA(u:Value):oz S (.v u) K2=K2 (.v u) S:=rfl
theorem HF(s:Nat)(f:Bool)(xs:List DV):oz S (.sl s f xs) K2=K2 (.sl s f xs) S:=rfl
theorem Dr(l n:Nat):oz S (.acc l n) K2=nw S (.acc l n) K2:=rfl
theorem Cx(ds:List DV):oz S (.agg ds) K2=mz S ds fun ds S=>K2 (.agg ds) S:=rfl
theorem CO(ds:List DV):oz S (.bN ds) K2=gP S ds fun ds S=>K2 (.bN ds) S:=rfl
theorem CD(z:Int)(K4:Int→Prop):kH none z K4=K4 z:=rfl
theorem Ec(k:IntKind)(n z:Int)(K4:Int→Prop):kH (some (.v (.int k n))) z K4=K4 n:=rfl
theorem Db(e s b s':Nat)(f:Bool)(xs:List DV)(lo hi mx:Option DV):fx (.sl e s b true) (.sl s' f xs) lo hi mx K=((s'=s∨xs=[])∧kH lo 0 fun l=>kH hi xs.length fun h=>kH mx h fun m=>0≤l∧l≤h∧h≤m∧m≤xs.length∧
 K (.sl s (if mx.isSome then decide (m=h)else(f&&(hi.isNone||xs.isEmpty))) ((xs.take h.toNat).drop l.toNat))):=rfl
theorem Ad(s:ByteArray)(lo hi mx:Option DV):fx .str (.v (.string s)) lo hi mx K=(mx.isNone=true∧kH lo 0 fun l=>kH hi s.size fun h=>0≤l∧l≤h∧h≤s.size∧K (.v (.string (s.extract l.toNat h.toNat)))):=rfl
theorem Ja(e s b:Nat)(i:Bool)(s':Nat)(f:Bool)(xs:List DV):oX (.sl e s b i) (.sl s' f xs) K=K (.v (.int .i64 xs.length)):=rfl
theorem IB(e s b:Nat)(i:Bool)(l n:Nat):oX (.sl e s b i) (.acc l n) K=K (.v (.int .i64 n)):=rfl
theorem F4(s:ByteArray):oX .str (.v (.string s)) K=K (.v (.int .i64 s.size)):=rfl
theorem VP(k k':IntKind)(m n:Int):r9 (.v (.int k m)) (.v (.int k' n)) K=K (.v (.int k (if n<m then n else m))):=rfl
theorem WM(k k':IntKind)(m n:Int):rW (.v (.int k m)) (.v (.int k' n)) K=K (.v (.int k (if m<n then n else m))):=rfl
theorem Ah(k:TK)(s:Nat)(f:Bool)(xs:List DV)(lo hi mx:Option DV):ir k S (.sl s f xs) lo hi mx K2=fx k (.sl s f xs) lo hi mx (K2 · S):=rfl
theorem EC(k:TK)(u:Value)(lo hi mx:Option DV):ir k S (.v u) lo hi mx K2=fx k (.v u) lo hi mx (K2 · S):=rfl
theorem xQ(k:TK)(l n:Nat)(lo hi mx:Option DV):ir k S (.acc l n) lo hi mx K2=((lo.isNone=true∧mx.isNone=true∧Vt n hi∧(∃e s b,k= .sl e s b true)∧wc S (.acc l n) (Xp hi) K2)∨kn k S (.acc l n) lo hi mx K2):=rfl
theorem Vx(k:IntKind)(m:Nat)(n:Int):Vt m (some (.v (.int k n)))=((n==0)=true∨(0≤n∧n≤m)):=rfl
theorem Wy(k:IntKind)(n:Int):Xp (some (.v (.int k n)))=n.toNat:=rfl
theorem OY(m:Nat):Vt m none=False:=rfl
theorem B5(t:Nat):iS (.tmp t)=false:=rfl
theorem D3(k:IntKind)(n:Int):iS (.const (.int k n))=false:=rfl
theorem DL(s:ByteArray):iS (.const (.string s))=false:=rfl
theorem CA:iS (.const (.slice none 0 0))=true:=rfl
theorem CR(e s b s':Nat)(i f:Bool)(xs:List DV):mu .eql (.sl e s b i) (.sl s' f xs) K=∀b:Bool,(xs≠[]→b=false)→K (.v (.bool b)):=rfl
theorem CF(e s b n c:Nat)(i:Bool)(p:Addr):mu .eql (.sl e s b i) (.v (.slice (some p) n c)) K=K (.v (.bool false)):=rfl
theorem Kf(e s b s':Nat)(z:DV)(k:IntKind)(n:Int):lV (.sl e s b true) z S (.sl s' true []) (.v (.int k n)) K2=(eK z=true∧0<n∧n*b≤140737488355328∧n≤9223372036854775807∧∀l,iX S.acc l→K2 (.acc l n.toNat) ⟨S.box,(l,.arr s (List.replicate n.toNat z))::S.acc⟩):=rfl
theorem B9(n:Nat)(u:Value)(y:DV)(K5:St→Prop):fK n S (.v u) y K5=oq n S (.v u) y K5:=rfl
theorem Ay(e s b:Nat)(z:DV)(k k':IntKind)(n m:Int):fN (.sl e s b true) z (.v (.int k n)) (.v (.int k' m)) S K2=(eK z=true∧0≤n∧n≤m∧m*b≤140737488355328∧m≤9223372036854775807∧∀l,iX S.acc l→K2 (.acc l n.toNat) ⟨S.box,(l,.arr s (List.replicate n.toNat z))::S.acc⟩):=rfl
theorem Xb(e s b:Nat)(i:Bool)(s':Nat)(xs:List DV):rV (.sl e s b i) (.sl s' true xs) K=K (.v (.int .i64 xs.length)):=rfl
theorem Hh(s:Nat)(f:Bool)(xs:List DV)(K6:Nat→List DV→Prop):gl S (.sl s f xs) K6=K6 s xs:=rfl
theorem Eg(b o n c:Nat)(K6:Nat→List DV→Prop):gl S (.v (.slice (some ⟨b,o,none⟩) n c)) K6=oK (lk S.box b) fun ds=>o+n≤ds.length∧K6 1 ((ds.drop o).take n):=by
 cases h:lk S.box b <;>simp[gl,oK,h]
theorem DW(b:ByteArray)(K6:Nat→List DV→Prop):gl S (.v (.string b)) K6=K6 1 (b.data.toList.map fun c=> .v (.int .u8 c.toNat)):=rfl
theorem Ji(e s b:Nat)(k2:TK)(x y:DV):lU (.sl e s b true) k2 S x y K2=(oY k2=true∧gl S y fun s2 ys=>(s2=s∨ys=[])∧vB s b S x ys K2):=rfl
theorem Gn(s0 s by':Nat)(ys:List DV):vB s by' S (.sl s0 true []) ys K2=(ys.length*by'≤140737488355328∧ys.length≤maxLen∧∀l,iX S.acc l→K2 (.acc l ys.length) ⟨S.box,(l,.arr s ys)::S.acc⟩):=rfl
theorem D7(s0 s by':Nat)(x:DV)(xs ys:List DV):vB s by' S (.sl s0 true (x::xs)) ys K2=(s0=s∧((x::xs).length+ys.length)*by'≤140737488355328∧(x::xs).length+ys.length≤maxLen∧∀l,iX S.acc l→K2 (.acc l ((x::xs)++ys).length) ⟨S.box,(l,.tl s ((x::xs)++ys))::S.acc⟩):=rfl
theorem Sj(f:FuncId)(a cap:Array Value)(ds:List DV):p7 P w0 (.v (.func (.func f) a cap)) ds S K2=(cap.toList.all (fun u=>u.oneCell')=true∧Ht a (gX (okF P f) (iG S ds fun ds S=>@AC P w0 f (ds++cap.toList.map .v) S ⟨K2⟩) (@XC P w0 f (ds++cap.toList.map .v) S ⟨K2⟩)) fun us=>okF P f=true∧iG S ds fun ds S=>@AC P w0 f (us.map .v++(ds++cap.toList.map .v)) S ⟨K2⟩):=rfl
theorem Gf(A:Prop)(B:List Value→Prop):Ht #[] A B=A:=rfl
theorem Hf(u:Value)(A:Prop)(B:List Value→Prop):Ht #[u] A B=(([u]:List Value).all (fun u=>u.oneCell')=true∧B [u]):=rfl
theorem VW(t:TypeId)(name:String)(F:FuncId→DV→Prop):tG P (.jQ t (.agg [])) name F=oK (r8 P t name) fun f=>okF P f=true∧F f (.agg []):=by
 unfold tG
 cases h:r8 P t name <;>simp only[oK,h]
theorem yN:iT []=false:=rfl
theorem xA(l n:Nat)(ds:List DV):iT (.acc l n::ds)=true:=rfl
theorem Dq(u:Value)(ds:List DV):iT (.v u::ds)=iT ds:=rfl
theorem zk(s:Nat)(f:Bool)(xs ds:List DV):iT (.sl s f xs::ds)=iT ds:=rfl
theorem xD(xs ds:List DV):iT (.agg xs::ds)=iT ds:=rfl
theorem Gx(fr:List DV)(t:Nat):rA P fr S K (.tmp t)=K (fr.getD t ud):=rfl
theorem Ds(fr:List DV)(a t:Nat):rA P fr S K (.cell a t)=bR (tk P t) S (fr.getD a ud) K:=rfl
theorem CX(fr:List DV)(r:ResultVar):u9 P fr S [r] K=rA P fr S K r:=rfl
theorem DB(fr:List DV):u9 P fr S [] K=K (.bN []):=rfl
theorem DR(fr:List DV)(r r':ResultVar)(rs:List ResultVar):u9 P fr S (r::r'::rs) K=uz P fr S (r::r'::rs) fun ds=>K (.bN ds):=rfl
end
theorem wI{α:Type}(a:α)(F:α→Prop):oK (some a) F=F a:=rfl
def bK:Option Ob→(Nat→List DV→Prop)→(Nat→List DV→Prop)→Prop
 |some (.arr s xs),F,_=>F s xs
 |some (.tl s xs),_,G=>G s xs
 |_,_,_=>False
theorem JM(s:Nat)(xs:List DV)(F G:Nat→List DV→Prop):bK (some (.arr s xs)) F G=F s xs:=rfl
theorem PF(s:Nat)(xs:List DV)(F G:Nat→List DV→Prop):bK (some (.tl s xs)) F G=G s xs:=rfl
def Te(p:Option (Nat×Nat×Bool))(x:DV)(K:DV→Prop):Prop:=match p with
 |some (off,sz,_)=>sz≠0∧(match x with
  | .v (.pointer (some ⟨b,o,none⟩))=>K (.v (.pointer (some ⟨b,o+off,none⟩)))
  | .ip ds=>off≤ds.length∧K (.ip (ds.drop off))
  | .ap l n s i o=>K (.ap l n s i (o+off))
  |_=>False)
 |none=>False
def fvK(p:Option (Nat×Nat×Bool))(ds:List DV)(K:DV→Prop):Prop:=match p with
 |some (off,sz,true)=>off+sz≤ds.length∧K (.agg ((ds.drop off).take sz))
 |some (off,sz,false)=>off+sz≤ds.length∧oK (ds[off]?) K
 |none=>False
def gD(t:Nat)(d:DV)(fr:List DV)(want:Bool)(A B:List DV→Prop):Prop:=match d with
 | .v (.bool b)=>(b=want→A (fr.set t (.v (.bool want))))∧(b=!want→B (fr.set t (.v (.bool !want))))
 | .bN []=>B fr
 |_=>False
def gK(t:Option Tmp)(fr:List DV)(want:Bool)(A B:List DV→Prop):Prop:=match t with
 |none=>B fr
 |some t=>gD t (fr.getD t ud) fr want A B
def WZ(k:TK)(z:DV)(parts:List (Nat×DV))(K:DV→Prop):Prop:=match k,z with
 | .st fs _,.agg zs=>oK (lg fs zs parts) fun ds=>K (.agg ds)
 |_,_=>False
section
variable {P:Program} {w0:W0} (K:DV→Prop) (K2:DV→St→Prop) (S:St)
theorem Em(k:TK)(b o:Nat):bR k S (.v (.pointer (some ⟨b,o,none⟩))) K=oK (lk S.box b) fun ds=>qi k (ds.drop o) K:=by
 cases h:lk S.box b <;>simp[bR,oK,h]
theorem F1(k:TK)(l n s i o:Nat):bR k S (.ap l n s i o) K=bK (lk S.acc l) (fun s' xs=>xs.length=n∧s'=s∧BX xs i fun d=>qi k ((cd d).drop o) K) (fun s' xs=>xs.length=n∧s'=s∧BX xs i fun d=>qi k ((cd d).drop o) K):=by
 cases h:lk S.acc l with
 |none=>simp[bR,bK,h]
 |some o=>cases o <;>simp[bR,bK,h,BX]
theorem CE(n e s nn bb o:Nat)(a:Bool)(lo hi mx:Option DV):fx (.ar n e s a nn) (.v (.pointer (some ⟨bb,o,none⟩))) lo hi mx K=(0<s∧kH lo 0 fun l=>kH hi n fun h=>kH mx n fun m=>0≤l∧l≤h∧h≤m∧m≤n∧
 K (.v (.slice (some ⟨bb,if m.toNat=l.toNat then o else o+l.toNat*s,none⟩) (h.toNat-l.toNat) (m.toNat-l.toNat)))):=rfl
theorem zT(e s b bb o n c:Nat)(lo hi mx:Option DV):fx (.sl e s b true) (.v (.slice (some ⟨bb,o,none⟩) n c)) lo hi mx K=kH lo 0 fun l=>kH hi n fun h=>kH mx c fun m=>0≤l∧l≤h∧h≤m∧m≤c∧
 K (.v (.slice (some ⟨bb,if m.toNat=l.toNat then o else o+l.toNat*s,none⟩) (h.toNat-l.toNat) (m.toNat-l.toNat))):=rfl
theorem GK(e s b:Nat)(i:Bool)(a:Option Addr)(n c:Nat):oX (.sl e s b i) (.v (.slice a n c)) K=K (.v (.int .i64 n)):=rfl
theorem F8(e s b:Nat)(i:Bool)(a:Option Addr)(n c:Nat):rV (.sl e s b i) (.v (.slice a n c)) K=K (.v (.int .i64 c)):=rfl
theorem zH(a:Addr)(n c:Nat):tf (.v (.slice (some a) n c))=true:=rfl
theorem Cw(s:Nat)(f:Bool)(xs:List DV):tf (.sl s f xs)=false:=rfl
theorem BU(l n:Nat):tf (.acc l n)=false:=rfl
theorem Dc(s b o m c:Nat)(F:Nat→List DV→Prop):pM S s (.v (.slice (some ⟨b,o,none⟩) m c)) F=oK (lk S.box b) fun es=>o+m*s≤es.length∧F m ((es.drop o).take (m*s)):=by
 cases h:lk S.box b <;>simp[pM,oK,h]
theorem GO(s s':Nat)(f:Bool)(ys:List DV)(F:Nat→List DV→Prop):pM S s (.sl s' f ys) F=((s'=s∨ys=[])∧(∀d,d∈ys→eK d=true)∧F ys.length (ys.flatMap cd)):=rfl
theorem Ux(e s b bb o n c:Nat)(y:DV):pY (.sl e s b true) S (.v (.slice (some ⟨bb,o,none⟩) n c)) y K2=oK (lk S.box bb) fun ds=>o+n*s≤ds.length∧wK S s ds o bb n y K2:=by
 cases h:lk S.box bb with
 |none=>simp[pY,oK,h]
 |some ds=>
  simp only[pY,oK,h,wK]
  split
  ·rename_i b2 o2 m c2
   cases h2:lk S.box b2 <;>simp[oK]
  ·rfl
theorem zW(s bb o n:Nat)(ds:List DV)(b2 o2 m c2:Nat):wK S s ds o bb n (.v (.slice (some ⟨b2,o2,none⟩) m c2)) K2=oK (lk S.box b2) fun es=>o2+m*s≤es.length∧K2 (.v (.int .i64 (min m n:Nat))) ⟨up S.box bb (cu ds o ((es.drop o2).take (min m n*s))),S.acc⟩:=rfl
theorem Cu(s bb o n:Nat)(ds:List DV)(s':Nat)(f:Bool)(ys:List DV):wK S s ds o bb n (.sl s' f ys) K2=((s'=s∨ys=[])∧(∀d,d∈ys→eK d=true)∧ys.length≤n∧K2 (.v (.int .i64 ys.length)) ⟨up S.box bb (cu ds o (ys.flatMap cd)),S.acc⟩):=rfl
theorem QN(e s b bb o n c:Nat)(z:DV):mU (.sl e s b true) z S (.v (.slice (some ⟨bb,o,none⟩) n c)) K2=oK (lk S.box bb) fun ds=>eK z=true∧o+n*s≤ds.length∧K2 ud ⟨up S.box bb (cu ds o (iV z n)),S.acc⟩:=by
 cases h:lk S.box bb <;>simp[mU,oK,h]
theorem Tw(e s by' b o n c:Nat)(k2:TK)(y:DV):rG (.sl e s by' true) k2 S (.v (.slice (some ⟨b,o,none⟩) n c)) y K2=oK (lk S.box b) fun ds=>oY k2=true∧o+c*s≤ds.length∧n≤c∧pM S s y fun m cs=>
 (n+m≤c→K2 (.v (.slice (some ⟨b,o,none⟩) (n+m) c)) ⟨up S.box b (cu ds (o+n*s) cs),S.acc⟩)∧
 (c<n+m→(n+m)*by'≤140737488355328∧n+m≤maxLen∧∀C,n+m≤C→C≤maxLen→∀b2,iX S.box b2→
  K2 (.v (.slice (some ⟨b2,0,none⟩) (n+m) C)) ⟨(b2,(ds.drop o).take (n*s)++cs++List.replicate ((C-(n+m))*s) .any)::S.box,S.acc⟩):=by
 cases h:lk S.box b <;>simp[rG,oK,h]
theorem Tf(e s by' b o n c:Nat)(k:IntKind)(m:Int)(z:DV):rT (.sl e s by' true) z S (.v (.slice (some ⟨b,o,none⟩) n c)) (.v (.int k m)) K2=oK (lk S.box b) fun ds=>eK z=true∧o+c*s≤ds.length∧n≤c∧0<m∧c<n+m.toNat∧(n+m.toNat)*by'≤140737488355328∧n+m.toNat≤maxLen∧∀C,n+m.toNat≤C→C≤maxLen→∀b2,iX S.box b2→
 K2 (.v (.slice (some ⟨b2,0,none⟩) (n+m.toNat) C)) ⟨(b2,(ds.drop o).take (n*s)++iV z m.toNat++List.replicate ((C-(n+m.toNat))*s) .any)::S.box,S.acc⟩:=by
 cases h:lk S.box b <;>simp[rT,oK,h]
theorem OH(fs:List (Nat×Nat×Bool))(n f:Nat)(x:DV):ij (.st fs n) f x K=Te (fs[f]?) x K:=by
 cases h:fs[f]? <;>simp only[ij,Te,h] <;>cases x <;>rfl
theorem Jt(off sz b o:Nat)(ag:Bool):Te (some (off,sz,ag)) (.v (.pointer (some ⟨b,o,none⟩))) K=(sz≠0∧K (.v (.pointer (some ⟨b,o+off,none⟩)))):=rfl
theorem Qj(off sz:Nat)(ag:Bool)(ds:List DV):Te (some (off,sz,ag)) (.ip ds) K=(sz≠0∧off≤ds.length∧K (.ip (ds.drop off))):=rfl
theorem NX(off sz l m s i o:Nat)(ag:Bool):Te (some (off,sz,ag)) (.ap l m s i o) K=(sz≠0∧K (.ap l m s i (o+off))):=rfl
theorem G9(i:Nat)(ds:List DV):dV i (.bN ds) K=oK (ds[i]?) K:=by
 cases h:ds[i]? <;>simp[dV,oK,h]
theorem Ci(l n:Nat):nw S (.acc l n) K2=bK (lk S.acc l) (fun s xs=>xs.length=n∧K2 (.sl s false xs) ⟨S.box,up S.acc l (.tl s xs)⟩) (fun s xs=>xs.length=n∧K2 (.sl s false xs) S):=by
 cases h:lk S.acc l with
 |none=>simp[nw,bK,h]
 |some o=>cases o <;>simp[nw,bK,h]
theorem N7(n b o:Nat)(y:DV)(K5:St→Prop):oq n S (.v (.pointer (some ⟨b,o,none⟩))) y K5=(eK y=true∧(cd y).length=n∧oK (lk S.box b) fun ds=>o+n≤ds.length∧K5 ⟨up S.box b (gr ds o (cd y)),S.acc⟩):=by
 cases h:lk S.box b <;>simp[oq,oK,h]
theorem A3(n l m s i o:Nat)(y:DV)(K5:St→Prop):fK n S (.ap l m s i o) y K5=(eK y=true∧(cd y).length=n∧bK (lk S.acc l) (fun s' xs=>s'=s∧xs.length=m∧o+n≤s∧BX xs i fun d=>oK (rJ d o n s y) fun d'=>K5 ⟨S.box,up S.acc l (.arr s (xs.set i d'))⟩) (fun _ _=>False)):=by
 cases h:lk S.acc l with
 |none=>simp[fK,bK,h]
 |some o=>cases o with
  |tl s' xs=>simp[fK,bK,h]
  |xo f=>simp[fK,bK,h]
  |arr s' xs=>
   simp only[fK,bK,h,BX]
   refine propext (and_congr Iff.rfl (and_congr Iff.rfl (and_congr Iff.rfl (and_congr Iff.rfl (and_congr Iff.rfl (exists_congr fun d=>and_congr Iff.rfl (and_congr Iff.rfl ?_)))))))
   cases rJ d o n s y with
   |none=>simp[oK]
   |some x=>simp[oK]
theorem D0(l n:Nat)(K6:Nat→List DV→Prop):gl S (.acc l n) K6=bK (lk S.acc l) (fun s xs=>xs.length=n∧K6 s xs) (fun s xs=>xs.length=n∧K6 s xs):=by
 cases h:lk S.acc l with
 |none=>simp[gl,bK,h]
 |some o=>cases o <;>simp[gl,bK,h]
theorem Gs(l n s by':Nat)(ys:List DV):vB s by' S (.acc l n) ys K2=bK (lk S.acc l)
 (fun s' xs=>s'=s∧xs.length=n∧(xs.length+ys.length)*by'≤140737488355328∧xs.length+ys.length≤maxLen∧K2 (.acc l (xs++ys).length) ⟨S.box,up S.acc l (.arr s (xs++ys))⟩)
 (fun s' xs=>s'=s∧xs.length=n∧(xs.length+ys.length)*by'≤140737488355328∧xs.length+ys.length≤maxLen∧K2 (.acc l (xs++ys).length) ⟨S.box,up S.acc l (.tl s (xs++ys))⟩):=by
 cases h:lk S.acc l with
 |none=>simp[vB,bK,h]
 |some o=>cases o <;>simp[vB,bK,h]
theorem xV(ops:Array Oper)(fr:List DV)(j:Nat)(want:Bool)(A B:List DV→Prop):cj ops fr (some (j,want)) A B=gK ((ops[j]?).bind (·.dst)) fr want A B:=by
 cases h:(ops[j]?).bind (·.dst) <;>simp only[cj,gK,h] <;>rfl
theorem Ix(t:Nat)(fr:List DV)(want:Bool)(A B:List DV→Prop):gK (some t) fr want A B=gD t (fr.getD t ud) fr want A B:=rfl
theorem On(t:Nat)(fr:List DV)(want:Bool)(A B:List DV→Prop):gD t ud fr want A B=B fr:=rfl
theorem Sx(fn:Fn)(a b:List DV):nq fn a b K=oK (eR a) fun us=>oK (eR b) fun vs=>K (.v (.func fn us.toArray vs.toArray)):=by
 cases h:eR a <;>cases h':eR b <;>simp[nq,oK,h,h']
theorem QB(t:TypeId)(parts:List (Nat×DV)):gA P t parts K=WZ (tk P t) (zD P t) parts K:=by
 cases h:tk P t <;>cases h':zD P t <;>simp only[gA,WZ,h,h'] <;>(rename_i fs _ zs;cases h2:lg fs zs parts <;>simp[oK])
theorem YR(fs:List (Nat×Nat×Bool))(n:Nat)(zs:List DV)(parts:List (Nat×DV)):WZ (.st fs n) (.agg zs) parts K=oK (lg fs zs parts) fun ds=>K (.agg ds):=rfl
theorem VS(e s b len:Nat)(z:DV)(parts:List (Nat×DV)):aR (.sl e s b true) z len parts K=(eK z=true∧(cd z).length=s∧len*s≤16777216∧oK (oc s (List.replicate len z) parts) fun xs=>K (.sl s true xs)):=by
 cases h:oc s (List.replicate len z) parts <;>simp[aR,oK,h]
end
end Aml
namespace Aml
open Go Go.RowKit
def QY(P:Program)(w0:W0)(S:St)(o:Oper)(fr:List DV)(d:DV):Prop:=an P w0 o (ev fr) S fun d' S'=>d'=d∧S'=S
def dz(ops:Array Oper)(fr:List DV)(gd:Option (Nat×Bool)):Option Bool:=match gd with
 |none=>some true
 |some (j,want)=>match(ops[j]?).bind (·.dst)with
  |none=>some false
  |some t=>match fr.getD t ud with
   | .v (.bool b)=>some (b==want)
   | .bN []=>some false
   |_=>none
def LQ(P:Program)(w0:W0)(S:St)(ops:Array Oper)(K:List DV→Prop):List Oper→List DV→Prop
 |[],fr=>K fr
 |o::rest,fr=>cj ops fr o.guard (fun fr=>∃d,QY P w0 S o fr d∧LQ P w0 S ops K rest (pt fr o.dst d)) (fun fr=>LQ P w0 S ops K rest (pt fr o.dst ud))
def qOp(P:Program)(w0:W0)(S:St)(ops:Array Oper)(i:Nat)(K:List DV→Prop)(fr:List DV):Prop:=
 match ops[i]? with
 |none=>K fr
 |some o=>(dz ops fr o.guard=some true∧∃d,QY P w0 S o fr d∧K (pt fr o.dst d))∨(dz ops fr o.guard=some false∧K (pt fr o.dst ud))
def qy(P:Program)(w0:W0)(S:St)(md:Region.Mode)(ops:Array Oper)(K:List DV→Prop):Nat→Array Bool→List DV→Prop
 |0,listed,fr=>Region.ready md ops listed=[]∧K fr
 |fuel+1,listed,fr=>(Region.ready md ops listed=[]→K fr)∧∀i∈Region.ready md ops listed,qOp P w0 S ops i (qy P w0 S md ops K fuel (listed.setIfInBounds i true)) fr
def YD(P:Program)(w0:W0)(S:St)(ops:Array Oper)(o:Oper)(d:DV)(fr:List DV):Prop:=
 (dz ops fr o.guard=some true∧QY P w0 S o fr d)∨(dz ops fr o.guard=some false∧d=ud)
section
variable {P:Program} {w0:W0} {S:St} {ops:Array Oper} {md:Region.Mode}
theorem zX{fr:List DV}{t:Nat}{d:DV}(h:fr.getD t ud=d)(hd:d≠ud):fr.set t d=fr:=by
 rcases Nat.lt_or_ge t fr.length with hl|hl
 ·rw[List.getD_eq_getElem?_getD,List.getElem?_eq_getElem hl,Option.getD_some]at h
  rw[←h,List.set_getElem_self]
 ·rw[List.getD_eq_getElem?_getD,List.getElem?_eq_none hl]at h
  exact absurd h.symm hd
theorem j8{fr:List DV}{gd:Option (Nat×Bool)}{A B:List DV→Prop}(h:cj ops fr gd A B):(dz ops fr gd=some true∧A fr)∨(dz ops fr gd=some false∧B fr):=by
 unfold cj at h
 unfold dz
 split at h
 ·exact .inl ⟨rfl,h⟩
 ·rename_i j want
  split at h
  ·rename_i hj
   exact .inr ⟨by simp only[hj],h⟩
  ·rename_i t hj
   simp only[hj]
   split at h
   ·rename_i b hb
    rw[hb]
    by_cases hw:b=want
    ·have:=h.1 hw
     rw[←hw,zX hb (by simp[ud])]at this
     exact .inl ⟨by simp[hw],this⟩
    ·have hw':b=!want:=by cases b <;>cases want <;>simp_all
     have:=h.2 hw'
     rw[←hw',zX hb (by simp[ud])]at this
     exact .inr ⟨by simp[hw],this⟩
   ·rename_i hb
    rw[hb]
    exact .inr ⟨rfl,h⟩
   ·exact h.elim
theorem DU{fr:List DV}{gd:Option (Nat×Bool)}{x:Bool}(h:dz ops fr gd=some x):cj ops fr gd (fun _=>x=true) (fun _=>x=false):=by
 unfold dz at h
 unfold cj
 split at h
 ·simpa using h.symm
 ·rename_i j want
  split at h
  ·rename_i hj;simp only[hj];simpa using h.symm
  ·rename_i t hj
   simp only[hj]
   split at h
   ·rename_i b hb
    rw[hb]
    simp only[Option.some.injEq]at h
    exact⟨fun e=>by simp[←h,e],fun e=>by simp[←h,e]⟩
   ·rename_i hb;rw[hb];simpa using h.symm
   ·cases h
theorem eE{g:Gh}{fr:List DV}{a:Act}{o:Oper}{x:Bool}(hr:aj g fr a.tmps.toList)(h:dz ops fr o.guard=some x):Region.wanted o (yielded ops a.tmps)=x:=by
 rcases my (o:=o) hr (DU h)with⟨h1,_,_,h2⟩|⟨h1,_,_,h2⟩
 ·rw[h1,h2]
 ·rw[h1,h2]
theorem qOp_mono{i:Nat}{fr:List DV}{K K':List DV→Prop}(h:∀fr,K fr→K' fr)(hh:qOp P w0 S ops i K fr):qOp P w0 S ops i K' fr:=by
 unfold qOp at*
 split
 ·rename_i ho;simp only[ho]at hh;exact h _ hh
 ·rename_i o ho
  simp only[ho]at hh
  rcases hh with⟨h1,d,h2,h3⟩|⟨h1,h2⟩
  ·exact .inl ⟨h1,d,h2,h _ h3⟩
  ·exact .inr ⟨h1,h _ h2⟩
theorem YD.qOp{i:Nat}{o:Oper}{d:DV}{fr:List DV}(hi:ops[i]? =some o)(hy:YD P w0 S ops o d fr){K:List DV→Prop}(h:K (pt fr o.dst d)):qOp P w0 S ops i K fr:=by
 unfold Aml.qOp
 simp only[hi]
 rcases hy with⟨h1,h2⟩|⟨h1,rfl⟩
 ·exact .inl ⟨h1,d,h2,h⟩
 ·exact .inr ⟨h1,h⟩
theorem HN{i:Nat}{o:Oper}{fr:List DV}{K:List DV→Prop}(hi:ops[i]? =some o)(h:qOp P w0 S ops i K fr):∃d,YD P w0 S ops o d fr∧K (pt fr o.dst d):=by
 unfold qOp at h
 simp only[hi]at h
 rcases h with⟨h1,d,h2,h3⟩|⟨h1,h2⟩
 ·exact⟨d,.inl ⟨h1,h2⟩,h3⟩
 ·exact⟨ud,.inr ⟨h1,rfl⟩,h2⟩
theorem aQ{o:Oper}{ρD ρD':Operand→DV}{K:DV→St→Prop}(h:∀x,x∈o.op.operands.toList→ρD x=ρD' x)(hy:an P w0 o ρD S K):an P w0 o ρD' S K:=
 fun g w ρ h1 h2 h3=>hy g w ρ h1 (fun x hx=>by rw[h x hx];exact h2 x hx) h3
theorem zo{fr:List DV}{t t':Nat}{d:DV}(h:t≠t'):(fr.set t d).getD t' ud=fr.getD t' ud:=by
 simp only[List.getD_eq_getElem?_getD,List.getElem?_set,if_neg h]
theorem fb{fr:List DV}{dst:Option Tmp}{d:DV}{o:Oper}(h:∀t,dst=some t→t∉o.looksAt ops):∀x,x∈o.op.operands.toList→ev (pt fr dst d) x=ev fr x:=by
 intro x hx
 cases dst with
 |none=>rfl
 |some t=>
  cases x with
  |tmp t'=>
   have:t≠t':=by
    rintro rfl
    exact h t rfl (List.mem_append_left _ (List.mem_filterMap.2 ⟨.tmp t,hx,rfl⟩))
   exact zo this
  |_=>rfl
theorem ix{fr:List DV}{dst:Option Tmp}{d:DV}{o:Oper}(h:∀t,dst=some t→t∉o.looksAt ops):dz ops (pt fr dst d) o.guard=dz ops fr o.guard:=by
 cases dst with
 |none=>rfl
 |some t=>
  unfold dz
  cases hg:o.guard with
  |none=>rfl
  |some gw=>
   obtain⟨j,want⟩:=gw
   simp only
   cases ht:(ops[j]?).bind (·.dst)with
   |none=>rfl
   |some t'=>
    have hne:t≠t':=fun e=>h t rfl (by subst e;simp[Oper.looksAt,hg,ht])
    simp only[pt]
    rw[zo hne]
theorem jV(fr:List DV){x y:Option Tmp}(d e:DV)(h:∀t,x=some t→y≠some t):pt (pt fr x d) y e=pt (pt fr y e) x d:=by
 cases x with
 |none=>rfl
 |some t=>
  cases y with
  |none=>rfl
  |some u=>
   have hne:t≠u:=fun he=>h t rfl (he▸rfl)
   simp only[pt]
   exact List.set_comm _ _ hne
theorem YD.put{o:Oper}{d:DV}{fr:List DV}(hy:YD P w0 S ops o d fr){dst:Option Tmp}{e:DV}(h:∀t,dst=some t→t∉o.looksAt ops):YD P w0 S ops o d (pt fr dst e):=by
 unfold YD at*
 rw[ix h]
 exact hy.imp (fun⟨a,b⟩=>⟨a,aQ (fun x hx=>(fb (ops:=ops) h x hx).symm) b⟩) id
theorem qOp_put{j:Nat}{oi oj:Oper}{d:DV}(hj:ops[j]? =some oj)(hap:oi.apart ops oj=true){K:List DV→Prop}{fr:List DV}(hy:YD P w0 S ops oi d fr)(h:qOp P w0 S ops j K (pt fr oi.dst d)):
 qOp P w0 S ops j (fun fr'=>YD P w0 S ops oi d fr'∧K (pt fr' oi.dst d)) fr:=by
 obtain⟨h1,h2,h3⟩:=Oper.apart_spec hap
 unfold Aml.qOp at*
 simp only[hj]at*
 rw[ix h1]at h
 rcases h with⟨hw,e,hq,hk⟩|⟨hw,hk⟩
 ·exact .inl ⟨hw,e,aQ (fun x hx=>fb (ops:=ops) h1 x hx) hq,hy.put h3,by rw[←jV fr d e h2];exact hk⟩
 ·exact .inr ⟨hw,hy.put h3,by rw[←jV fr d ud h2];exact hk⟩
theorem yU{K:List DV→Prop}{i:Nat}{oi:Oper}{d:DV}(hi:ops[i]? =some oi):
 ∀(fuel:Nat) (listed:Array Bool) (fr:List DV),
  (∀j oj,ops[j]? =some oj→j≠i→listed.getD j true=false→(∀e∈oj.after,Region.binds md e=true→e.on≠i)→oi.apart ops oj=true)→
  i∈Region.ready md ops listed→YD P w0 S ops oi d fr→
  qy P w0 S md ops K fuel (listed.setIfInBounds i true) (pt fr oi.dst d)→qy P w0 S md ops K (fuel+1) listed fr:=by
 intro fuel
 induction fuel with
 |zero=>
  intro listed fr _ hr hy H
  refine⟨fun h=>(by rw[h]at hr;cases hr),fun j hj=>?_⟩
  by_cases hji:j=i
  ·subst hji;exact hy.qOp hi H
  ·have:=ready_mono hj hji
   rw[H.1]at this
   cases this
 |succ fuel ih=>
  intro listed fr hfree hr hy H
  refine⟨fun h=>(by rw[h]at hr;cases hr),fun j hj=>?_⟩
  by_cases hji:j=i
  ·subst hji;exact hy.qOp hi H
  ·have h1:=H.2 j (ready_mono hj hji)
   obtain⟨hjun,oj,hoj,hall⟩:=mem_ready.1 hj
   have hnot:∀e∈oj.after,Region.binds md e=true→e.on≠i:=fun e he hb heq=>by
    have h1:=hall e he hb
    have h0:=(mem_ready.1 hr).1
    rw[heq]at h1
    rcases Nat.lt_or_ge i listed.size with h'|h'
    ·simp[h']at h0 h1;rw[h0]at h1;cases h1
    ·simp[Array.getElem?_eq_none h']at h1
   have h2:=qOp_put hoj (hfree j oj hoj hji hjun hnot) hy h1
   have hfree':∀k ok,ops[k]? =some ok→k≠i→(listed.setIfInBounds j true).getD k true=false→
    (∀e∈ok.after,Region.binds md e=true→e.on≠i)→oi.apart ops ok=true:=fun k ok hk hki hun hno=>by
    refine hfree k ok hk hki ?_ hno
    by_cases hjk:j=k
    ·subst hjk;exact hjun
    ·rw[getD_set_ne true hjk]at hun;exact hun
   refine qOp_mono (fun fr' h3=>ih (listed.setIfInBounds j true) fr' hfree' (ready_mono hr (Ne.symm hji)) h3.1 ?_) h2
   rw[Array.setIfInBounds_comm _ _ hji]
   exact h3.2
theorem tR{K:List DV→Prop}:∀(l:List Oper) (k:Nat) (listed:Array Bool) (fr:List DV),(∀j,l[j]? =ops[k+j]?)→
 Region.lexFrom md ops l.length k listed=true→LQ P w0 S ops K l fr→qy P w0 S md ops K l.length listed fr
 |[],_,_,_,_,hB,h=>⟨by simpa[Region.lexFrom]using hB,h⟩
 |o::l,k,listed,fr,hl,hB,h=>by
  have h0:ops[k]? =some o:=by simpa using(hl 0).symm
  simp only[List.length_cons,Region.lexFrom,Bool.and_eq_true]at hB
  obtain⟨⟨hr,hf⟩,hB'⟩:=hB
  have hst:qOp P w0 S ops k (LQ P w0 S ops K l) fr:=by
   unfold qOp
   simp only[h0]
   exact j8 h
  obtain⟨d,hy,hK⟩:=HN h0 hst
  exact yU h0 l.length listed fr (Region.free_spec h0 hf) (by simpa using hr) hy
   (tR l (k+1) _ _ (fun j=>by have:=hl (j+1);simpa[Nat.add_assoc,Nat.add_comm 1 j]using this) hB' hK)
end
end Aml
namespace Aml
open Go Go.RowKit
section
variable {P:Program} {w0:W0} {S:St} {K:DV→Prop}
theorem tQ{c a b:DV}(h:jw c a b K):∃d,jw c a b (·=d)∧K d:=by
 unfold jw at*
 split at h
 ·rename_i t
  cases t
  ·exact⟨b,⟨by simp,fun _=>rfl⟩,h.2 rfl⟩
  ·exact⟨a,⟨fun _=>rfl,by simp⟩,h.1 rfl⟩
 ·exact h.elim
theorem Uf{ds:List DV}(h:Sm ds K):∃d,Sm ds (·=d)∧K d:=by
 unfold Sm at*
 split at h
 ·exact⟨_,rfl,h⟩
 ·exact h.elim
theorem xC{k:TK}{ds:List DV}(h:qi k ds K):∃d,qi k ds (·=d)∧K d:=by
 unfold qi at*
 split at h
 ·exact⟨_,⟨h.1,rfl⟩,h.2⟩
 ·exact⟨_,⟨h.1,rfl⟩,h.2⟩
 ·exact h.elim
 ·exact Uf h
theorem pa{k:TK}{x:DV}(h:bR k S x K):∃d,bR k S x (·=d)∧K d:=by
 unfold bR at*
 split at h
 ·split at h
  ·rename_i hb;(try simp only[hb]);exact xC h
  ·exact h.elim
 ·exact xC h
 ·split at h
  ·rename_i hb
   obtain⟨h1,h2,d,h3,h4,h5⟩:=h
   obtain⟨e,q1,q2⟩:=xC h5
   exact⟨e,by first|exact⟨h1,h2,d,h3,h4,q1⟩|(simp only[hb];exact⟨h1,h2,d,h3,h4,q1⟩),q2⟩
  ·rename_i hb
   obtain⟨h1,h2,d,h3,h4,h5⟩:=h
   obtain⟨e,q1,q2⟩:=xC h5
   exact⟨e,by first|exact⟨h1,h2,d,h3,h4,q1⟩|(simp only[hb];exact⟨h1,h2,d,h3,h4,q1⟩),q2⟩
  ·exact h.elim
 ·exact h.elim
theorem qG{k:TK}{f:Nat}{x:DV}(h:ij k f x K):∃d,ij k f x (·=d)∧K d:=by
 unfold ij at*
 split at h
 ·split at h
  ·rename_i hf
   try simp only[hf]
   obtain⟨h1,h⟩:=h
   split at h
   ·exact⟨_,⟨h1,rfl⟩,h⟩
   ·exact⟨_,⟨h1,h.1,rfl⟩,h.2⟩
   ·exact⟨_,⟨h1,rfl⟩,h⟩
   ·exact h.elim
  ·exact h.elim
 ·exact h.elim
theorem cU{k:TK}{x i:DV}(h:aG k x i K):∃d,aG k x i (·=d)∧K d:=by
 unfold aG at*
 split at h
 ·split at h
  ·obtain⟨h1,h2,h3,h4⟩:=h
   rename_i z _ _ _ xs
   have hlt:z.toNat<xs.length:=by omega
   obtain⟨h5,h6⟩:=h4 _ (List.getElem?_eq_getElem hlt)
   exact⟨_,⟨h1,h2,h3,fun d hd=>by rw[List.getElem?_eq_getElem hlt]at hd;cases hd;exact⟨h5,rfl⟩⟩,h6⟩
  ·exact⟨_,⟨h.1,h.2.1,rfl⟩,h.2.2⟩
  ·exact⟨_,⟨h.1,h.2.1,rfl⟩,h.2.2⟩
  ·exact h.elim
 ·obtain⟨h1,h2,h3,h4⟩:=h
  split at h4
  ·exact⟨_,⟨h1,h2,h3,rfl⟩,h4⟩
  ·exact⟨_,⟨h1,h2,h3,h4.1,rfl⟩,h4.2⟩
  ·exact h4.elim
 ·exact h.elim
theorem ES{w0:W0}{fr:List DV}{x:Operand}{k:TK}{i:DV}(h:Gw w0 fr x fun d=>aG k d i K):∃d,(Gw w0 fr x fun d'=>aG k d' i (·=d))∧K d:=by
 cases x with
 |global b=>
  obtain⟨us,hg,h⟩:=h
  obtain⟨d,q1,q2⟩:=cU h
  exact⟨d,⟨us,hg,q1⟩,q2⟩
 |tmp n=>exact cU (x:=ev fr (.tmp n)) h
 |const u=>exact cU (x:=ev fr (.const u)) h
 |func f=>exact cU (x:=ev fr (.func f)) h
theorem qI{k:TK}{x i:DV}(h:lF k x i K):∃d,lF k x i (·=d)∧K d:=by
 unfold lF at*
 split at h
 ·obtain⟨h1,h2,h3⟩:=h
  rename_i s _ z
  have hlt:z.toNat<s.data.toList.length:=by simp;have:s.data.size=s.size:=rfl;omega
  exact⟨_,⟨h1,h2,fun d hd=>by rw[List.getElem?_eq_getElem hlt]at hd;cases hd;rfl⟩,h3 _ (List.getElem?_eq_getElem hlt)⟩
 ·exact h.elim
theorem ou{k:TK}{f:Nat}{x:DV}(h:jc k f x K):∃d,jc k f x (·=d)∧K d:=by
 unfold jc at*
 split at h
 ·split at h
  ·rename_i hf
   try simp only[hf]
   split at h
   ·obtain⟨h1,h⟩:=h
    split at h
    ·exact⟨_,⟨h1,rfl⟩,h⟩
    ·split at h
     ·rename_i hd;(try simp only[hd]);exact⟨_,⟨h1,rfl⟩,h⟩
     ·exact h.elim
   ·exact h.elim
  ·exact h.elim
 ·exact h.elim
theorem np{i:Nat}{x:DV}(h:dV i x K):∃d,dV i x (·=d)∧K d:=by
 unfold dV at*
 split at h
 ·split at h
  ·rename_i hd;(try simp only[hd]);exact⟨_,rfl,h⟩
  ·exact h.elim
 ·exact h.elim
theorem J5{op:BinOp}{k:IntKind}{m n:Int}(h:nX op k m n K):∃d,nX op k m n (·=d)∧K d:=by
 cases op <;>simp only[nX]at h ⊢ <;>first|exact⟨_,rfl,h⟩|exact⟨_,⟨h.1,rfl⟩,h.2⟩
theorem Nb{op:BinOp}{x y:ByteArray}(h:j2 op x y K):∃d,j2 op x y (·=d)∧K d:=by
 cases op <;>simp only[j2]at h ⊢ <;>first|exact⟨_,rfl,h⟩|exact⟨_,⟨h.1,rfl⟩,h.2⟩
theorem PE{op:BinOp}{t:TK}{cx cy:Bool}{x y:DV}(h:sg op t cx cy x y K):∃d,sg op t cx cy x y (·=d)∧K d:=by
 unfold sg at*
 split at h
 ·obtain⟨d,q1,q2⟩:=J5 h.2
  exact⟨d,⟨h.1,q1⟩,q2⟩
 ·exact Nb h
 ·split at h <;>first|exact⟨_,rfl,h⟩|exact h.elim
 ·split at h <;>first|exact⟨_,⟨h.1,rfl⟩,h.2⟩|exact h.elim
 ·split at h <;>first|exact⟨_,rfl,h⟩|exact h.elim
 ·split at h <;>first|exact⟨_,rfl,h⟩|exact h.elim
 ·split at h <;>first|exact⟨_,⟨h.1,rfl⟩,h.2⟩|exact h.elim
 ·exact h.elim
theorem tM{op:BinOp}{t:TypeId}{cx cy:Bool}{x y:DV}(h:ll P op t cx cy x y K):∃d,ll P op t cx cy x y (·=d)∧K d:=by
 unfold ll at*
 split at h
 ·unfold oQ at*
  split at h
  ·rename_i he
   obtain⟨q,q1,q2⟩:=mD h
   exact⟨_,jh (fun r e=>by rw[e]) q1,q2⟩
  ·rename_i he
   obtain⟨q,q1,q2⟩:=mD h
   exact⟨_,jh (fun r e=>by rw[e]) q1,q2⟩
  ·exact h.elim
 ·exact PE h
theorem B7{op:UnOp}{x:DV}(h:Hy op x K):∃d,Hy op x (·=d)∧K d:=by
 unfold Hy at*
 split at h <;>first|exact⟨_,rfl,h⟩|exact h.elim
theorem ui{a b:TK}{x:DV}(h:iW a b x K):∃d,iW a b x (·=d)∧K d:=by
 unfold iW at*
 split at h <;>first|exact⟨_,rfl,h⟩|exact h.elim
theorem tT{fn:Fn}{a b:List DV}(h:nq fn a b K):∃d,nq fn a b (·=d)∧K d:=by
 unfold nq at*
 split at h <;>first|exact⟨_,rfl,h⟩|exact h.elim
theorem gG{x:Option DV}{z:Int}{F:(DV→Prop)→Int→Prop}(hF:∀n,F K n→∃d,F (·=d) n∧K d)(h:kH x z (F K)):∃d,kH x z (F (·=d))∧K d:=by
 unfold kH at*
 split at h <;>first|exact hF _ h|exact h.elim
theorem qV{k:TK}{x:DV}{lo hi mx:Option DV}(h:fx k x lo hi mx K):∃d,fx k x lo hi mx (·=d)∧K d:=by
 unfold fx at*
 split at h
 ·obtain⟨h1,h⟩:=h
  rename_i e s b s' f xs
  obtain⟨d,q1,q2⟩:=gG (F:=fun K l=>kH hi xs.length fun h=>kH mx h fun m=>0≤l∧l≤h∧h≤m∧m≤xs.length∧
   K (.sl s (if mx.isSome then decide (m=h)else(f&&(hi.isNone||xs.isEmpty))) ((xs.take h.toNat).drop l.toNat))) (fun l h=>gG (F:=fun K h=>kH mx h fun m=>0≤l∧l≤h∧h≤m∧m≤xs.length∧
   K (.sl s (if mx.isSome then decide (m=h)else(f&&(hi.isNone||xs.isEmpty))) ((xs.take h.toNat).drop l.toNat))) (fun hh h=>gG (F:=fun K m=>0≤l∧l≤hh∧hh≤m∧m≤xs.length∧
   K (.sl s (if mx.isSome then decide (m=hh)else(f&&(hi.isNone||xs.isEmpty))) ((xs.take hh.toNat).drop l.toNat))) (fun m h=>⟨_,⟨h.1,h.2.1,h.2.2.1,h.2.2.2.1,rfl⟩,h.2.2.2.2⟩) h) h) h
  exact⟨d,⟨h1,q1⟩,q2⟩
 ·obtain⟨h1,h⟩:=h
  rename_i s
  obtain⟨d,q1,q2⟩:=gG (F:=fun K l=>kH hi s.size fun h=>0≤l∧l≤h∧h≤s.size∧K (.v (.string (s.extract l.toNat h.toNat)))) (fun l h=>gG (F:=fun K h=>0≤l∧l≤h∧h≤s.size∧K (.v (.string (s.extract l.toNat h.toNat))))
   (fun hh h=>⟨_,⟨h.1,h.2.1,h.2.2.1,rfl⟩,h.2.2.2⟩) h) h
  exact⟨d,⟨h1,q1⟩,q2⟩
 ·rename_i e s by' b o n c
  exact gG (F:=fun K l=>kH hi n fun h=>kH mx c fun m=>0≤l∧l≤h∧h≤m∧m≤c∧
   K (.v (.slice (some ⟨b,if m.toNat=l.toNat then o else o+l.toNat*s,none⟩) (h.toNat-l.toNat) (m.toNat-l.toNat)))) (fun l h=>gG (F:=fun K h=>kH mx c fun m=>0≤l∧l≤h∧h≤m∧m≤c∧
   K (.v (.slice (some ⟨b,if m.toNat=l.toNat then o else o+l.toNat*s,none⟩) (h.toNat-l.toNat) (m.toNat-l.toNat)))) (fun hh h=>gG (F:=fun K m=>0≤l∧l≤hh∧hh≤m∧m≤c∧
   K (.v (.slice (some ⟨b,if m.toNat=l.toNat then o else o+l.toNat*s,none⟩) (hh.toNat-l.toNat) (m.toNat-l.toNat)))) (fun m h=>⟨_,⟨h.1,h.2.1,h.2.2.1,h.2.2.2.1,rfl⟩,h.2.2.2.2⟩) h) h) h
 ·obtain⟨h1,h⟩:=h
  rename_i n e s ag nn b o
  obtain⟨d,q1,q2⟩:=gG (F:=fun K l=>kH hi n fun h=>kH mx n fun m=>0≤l∧l≤h∧h≤m∧m≤n∧
   K (.v (.slice (some ⟨b,if m.toNat=l.toNat then o else o+l.toNat*s,none⟩) (h.toNat-l.toNat) (m.toNat-l.toNat)))) (fun l h=>gG (F:=fun K h=>kH mx n fun m=>0≤l∧l≤h∧h≤m∧m≤n∧
   K (.v (.slice (some ⟨b,if m.toNat=l.toNat then o else o+l.toNat*s,none⟩) (h.toNat-l.toNat) (m.toNat-l.toNat)))) (fun hh h=>gG (F:=fun K m=>0≤l∧l≤hh∧hh≤m∧m≤n∧
   K (.v (.slice (some ⟨b,if m.toNat=l.toNat then o else o+l.toNat*s,none⟩) (hh.toNat-l.toNat) (m.toNat-l.toNat)))) (fun m h=>⟨_,⟨h.1,h.2.1,h.2.2.1,h.2.2.2.1,rfl⟩,h.2.2.2.2⟩) h) h) h
  exact⟨d,⟨h1,q1⟩,q2⟩
 ·exact h.elim
theorem yu{k:TK}{x:DV}(h:oX k x K):∃d,oX k x (·=d)∧K d:=by
 unfold oX at*
 split at h <;>first|exact⟨_,rfl,h⟩|exact h.elim
theorem xZ{k:TK}{x:DV}(h:rV k x K):∃d,rV k x (·=d)∧K d:=by
 unfold rV at*
 split at h <;>first|exact⟨_,rfl,h⟩|exact h.elim
theorem yM{x y:DV}(h:r9 x y K):∃d,r9 x y (·=d)∧K d:=by
 unfold r9 at*
 split at h <;>first|exact⟨_,rfl,h⟩|exact h.elim
theorem yk{x y:DV}(h:rW x y K):∃d,rW x y (·=d)∧K d:=by
 unfold rW at*
 split at h <;>first|exact⟨_,rfl,h⟩|exact h.elim
theorem qm{t:TypeId}{parts:List (Nat×DV)}(h:gA P t parts K):∃d,gA P t parts (·=d)∧K d:=by
 unfold gA at*
 split at h
 ·split at h
  ·rename_i hf;(try simp only[hf]);exact⟨_,rfl,h⟩
  ·exact h.elim
 ·exact h.elim
theorem jB{k:TK}{z:DV}{len:Nat}{parts:List (Nat×DV)}(h:aR k z len parts K):∃d,aR k z len parts (·=d)∧K d:=by
 unfold aR at*
 split at h
 ·obtain⟨h1,h2,h3,h⟩:=h
  split at h
  ·rename_i hf;(try simp only[hf]);exact⟨_,⟨h1,h2,h3,rfl⟩,h⟩
  ·exact h.elim
 ·exact h.elim
def vz:DV→Bool
 | .acc _ _=>false
 |_=>true
def gu:DV→Bool
 | .agg ds=>ds.all vz
 |d=>vz d
theorem EU{K:DV→St→Prop}{d:DV}(hd:vz d=true)(h:K d S):nw S d K:=by
 cases d <;>first|(cases hd;done)|exact h
theorem Im{K:DV→St→Prop}{k:TK}{x:DV}{lo hi mx:Option DV}(hx:vz x=true)(h:kn k S x lo hi mx K):ir k S x lo hi mx K:=by
 cases x <;>first|(cases hx;done)|exact h
theorem By:∀{ds:List DV} {K:List DV→St→Prop},ds.all vz=true→K ds S→mz S ds K
 |[],K,_,h=>h
 |d::ds,K,hd,h=>by
  simp only[List.all_cons,Bool.and_eq_true]at hd
  exact EU hd.1 (By hd.2 h)
theorem Kr{K:DV→St→Prop}{d:DV}(hd:gu d=true)(h:K d S):shr S d K:=by
 cases d with
 |agg ds=>exact By hd h
 |acc l n=>cases hd
 |_=>exact h
theorem sL:∀{ds:List DV} {K:List DV→St→Prop},ds.all gu=true→K ds S→gP S ds K
 |[],K,_,h=>h
 |d::ds,K,hd,h=>by
  simp only[List.all_cons,Bool.and_eq_true]at hd
  exact Kr hd.1 (sL hd.2 h)
theorem mP{ds:List DV}{F:List DV→St→Prop}(hd:ds.all gu=true)(h:F ds S):iG S ds F:=by
 unfold iG
 split
 ·exact .inl h
 ·exact sL hd h
def nh(P:Program)(w0:W0)(cal:DV)(ds:List DV)(S:St)(K:DV→Prop):Prop:=match cal with
 | .v (.func (.func f) a cap)=>a.size=0∧okF P f=true∧cap.toList.all (fun u=>u.oneCell')=true∧ds.all gu=true∧∃d,aa P w0 f (ds++cap.toList.map .v) S (fun d' S'=>d'=d∧S'=S)∧K d
 |_=>False
theorem uT{m:Option (KK×DV)}{S:St}{x y:DV}{ok:Bool}{K:DV→Prop}(h:dv m S x y ok K):∃d,dv m S x y ok (·=d)∧K d:=by
 unfold dv at*
 cases m with
 |none=>exact h.elim
 |some p=>
  simp only[oK]at h ⊢
  obtain⟨h0,h⟩:=h
  cases hk:ry y with
  |none=>rw[hk]at h;exact h.elim
  |some k=>
   rw[hk]at h
   simp only at h ⊢
   obtain⟨h1,h⟩:=h
   split at h
   ·exact⟨_,⟨h0,h1,rfl⟩,h⟩
   ·split at h
    ·obtain⟨h2,h⟩:=h
     cases hg:iQ _ k with
     |none=>rw[hg]at h;exact⟨_,⟨h0,h1,h2,rfl⟩,h⟩
     |some d=>rw[hg]at h;exact⟨_,⟨h0,h1,h2,rfl⟩,h⟩
    ·exact h.elim
   ·exact h.elim
def aF(P:Program)(w0:W0)(op:Op)(fr:List DV)(S:St)(K:DV→Prop):Prop:=match op with
 | .move x=>K (ev fr x)
 | .assign x=>K (ev fr x)
 | .pick c a b=>jw (ev fr c) (ev fr a) (ev fr b) K
 | .load t x=>bR (tk P t) S (ev fr x) K
 | .fieldAddr t x f=>ij (tk P t) f (ev fr x) K
 | .indexAddr t x i=>Gw w0 fr x fun d=>aG (tk P t) d (ev fr i) K
 | .index t x i=>lF (tk P t) (ev fr x) (ev fr i) K
 | .field t x f=>jc (tk P t) f (ev fr x) K
 | .extract x i=>dV i (ev fr x) K
 | .nilCheck x=>notNil (ev fr x)=true∧K (ev fr x)
 | .binOp b t x y _=>iS y=false∧ll P b t (zq x) (zq y) (ev fr x) (ev fr y) K
 | .unOp b _ x=>Hy b (ev fr x) K
 | .convert s d x=>iW (tk P s) (tk P d) (ev fr x) K
 | .makeInterface t x=>rM (tk P t)=false∧gu (ev fr x)=true∧K (.jQ t (ev fr x))
 | .makeFunc fn a b=>nq fn (a.toList.map (ev fr)) (b.toList.map (ev fr)) K
 | .slice t x lo hi mx=>(mx.isSome=true→hi.isSome=true)∧vz (ev fr x)=true∧fx (tk P t) (ev fr x) (lo.map (ev fr)) (hi.map (ev fr)) (mx.map (ev fr)) K
 | .build t parts=>(parts.toList.map fun p=>ev fr p.2).all gu=true∧gA P t ((parts.toList.map (·.1)).zip (parts.toList.map fun p=>ev fr p.2)) K
 | .buildSlice t len parts=>(parts.toList.map fun p=>ev fr p.2).all gu=true∧aR (tk P t) (zD P (dJ P t)) len ((parts.toList.map (·.1)).zip (parts.toList.map fun p=>ev fr p.2)) K
 | .lookup t x y ok=>dv (sk P t) S (ev fr x) (ev fr y) ok K
 | .call c=>match c.callee with
  | .builtin .len=>(match c.args.toList,c.argTypes.toList with
   |[x],[t]=>oX (tk P t) (ev fr x) K
   |_,_=>False)
  | .builtin .cap=>(match c.args.toList,c.argTypes.toList with
   |[x],[t]=>rV (tk P t) (ev fr x) K
   |_,_=>False)
  | .builtin .min=>(match c.args.toList with
   |[x,y]=>r9 (ev fr x) (ev fr y) K
   |_=>False)
  | .builtin .max=>(match c.args.toList with
   |[x,y]=>rW (ev fr x) (ev fr y) K
   |_=>False)
  | .value cal=>nh P w0 (ev fr cal) (c.args.toList.map (ev fr)) S K
  | .invoke r name=>tG P (ev fr r) name fun f d=>nh P w0 (.v (.func (.func f) #[] #[])) (d::c.args.toList.map (ev fr)) S K
  |_=>False
 |_=>False
theorem jU{o:Oper}{fr:List DV}(hs:hJ o.op=true)(h:aF P w0 o.op fr S K):∃d,QY P w0 S o fr d∧K d:=by
 have fin:∀{d:DV},aJ P w0 o.op fr S (fun d' S'=>d'=d∧S'=S)→K d→∃d,QY P w0 S o fr d∧K d:=fun h1 h2=>⟨_,bH hs h1,h2⟩
 cases hop:o.op with
 |move x=>rw[hop]at h;exact fin (by rw[hop];exact⟨rfl,rfl⟩) h
 |assign x=>rw[hop]at h;exact fin (by rw[hop];exact⟨rfl,rfl⟩) h
 |pick c a b=>rw[hop]at h;obtain⟨d,q1,q2⟩:=tQ h;exact fin (by rw[hop];simpa[aJ]using q1) q2
 |load t x=>rw[hop]at h;obtain⟨d,q1,q2⟩:=pa h;exact fin (by rw[hop];simpa[aJ]using q1) q2
 |fieldAddr t x f=>rw[hop]at h;obtain⟨d,q1,q2⟩:=qG h;exact fin (by rw[hop];simpa[aJ]using q1) q2
 |indexAddr t x i=>
  rw[hop]at h
  cases x with
  |global b=>
   obtain⟨us,hg,h⟩:=(show rz w0 b fun d=>aG (tk P t) d (ev fr i) K from h)
   obtain⟨d,q1,q2⟩:=cU h
   exact fin (by rw[hop];exact⟨us,hg,by simpa using q1⟩) q2
  |tmp n=>obtain⟨d,q1,q2⟩:=cU (show aG (tk P t) (ev fr (.tmp n)) (ev fr i) K from h);exact fin (by rw[hop];simpa[aJ,Gw]using q1) q2
  |const u=>obtain⟨d,q1,q2⟩:=cU (show aG (tk P t) (ev fr (.const u)) (ev fr i) K from h);exact fin (by rw[hop];simpa[aJ,Gw]using q1) q2
  |func f=>obtain⟨d,q1,q2⟩:=cU (show aG (tk P t) (ev fr (.func f)) (ev fr i) K from h);exact fin (by rw[hop];simpa[aJ,Gw]using q1) q2
 |index t x i=>rw[hop]at h;obtain⟨d,q1,q2⟩:=qI h;exact fin (by rw[hop];simpa[aJ]using q1) q2
 |field t x f=>rw[hop]at h;obtain⟨d,q1,q2⟩:=ou h;exact fin (by rw[hop];simpa[aJ]using q1) q2
 |extract x i=>rw[hop]at h;obtain⟨d,q1,q2⟩:=np h;exact fin (by rw[hop];simpa[aJ]using q1) q2
 |nilCheck x=>rw[hop]at h;exact fin (by rw[hop];exact⟨h.1,rfl,rfl⟩) h.2
 |binOp b t x y t'=>rw[hop]at h;obtain⟨d,q1,q2⟩:=tM h.2;exact fin (by rw[hop];simp only[aJ,h.1];simpa using q1) q2
 |unOp b t x=>rw[hop]at h;obtain⟨d,q1,q2⟩:=B7 h;exact fin (by rw[hop];simpa[aJ]using q1) q2
 |convert s d x=>rw[hop]at h;obtain⟨d',q1,q2⟩:=ui h;exact fin (by rw[hop];simpa[aJ]using Ir (ke:=tk P (dJ P s)) (kb:=tk P (dJ P d)) (S:=S) q1) q2
 |makeInterface t x=>rw[hop]at h;exact fin (by rw[hop];exact⟨h.1,Kr h.2.1 ⟨rfl,rfl⟩⟩) h.2.2
 |makeFunc fn a b=>rw[hop]at h;obtain⟨d,q1,q2⟩:=tT h;exact fin (by rw[hop];simpa[aJ]using q1) q2
 |slice t x lo hi mx=>rw[hop]at h;obtain⟨d,q1,q2⟩:=qV h.2.2;exact fin (by rw[hop];exact⟨h.1,Im h.2.1 (EU h.2.1 (by simpa using q1))⟩) q2
 |lookup t x y ok=>rw[hop]at h;obtain⟨d,q1,q2⟩:=uT h;exact fin (by rw[hop];simpa[aJ]using q1) q2
 |build t parts=>rw[hop]at h;obtain⟨d,q1,q2⟩:=qm h.2;exact fin (by rw[hop];exact sL h.1 (by simpa using q1)) q2
 |buildSlice t len parts=>rw[hop]at h;obtain⟨d,q1,q2⟩:=jB h.2;exact fin (by rw[hop];exact sL h.1 (by simpa using q1)) q2
 |call c=>
  rw[hop]at h
  obtain⟨callee,args,ts⟩:=c
  simp only[aF]at h
  split at h
  ·split at h
   ·rename_i x t e1 e2
    obtain⟨d,q1,q2⟩:=yu h
    exact fin (by rw[hop];simp only[aJ,e1,e2];simpa using q1) q2
   ·exact h.elim
  ·split at h
   ·rename_i x t e1 e2
    obtain⟨d,q1,q2⟩:=xZ h
    exact fin (by rw[hop];simp only[aJ,e1,e2];simpa using q1) q2
   ·exact h.elim
  ·split at h
   ·rename_i x y e1
    obtain⟨d,q1,q2⟩:=yM h
    exact fin (by rw[hop];simp only[aJ,e1];simpa using q1) q2
   ·exact h.elim
  ·split at h
   ·rename_i x y e1
    obtain⟨d,q1,q2⟩:=yk h
    exact fin (by rw[hop];simp only[aJ,e1];simpa using q1) q2
   ·exact h.elim
  ·rename_i cal
   unfold nh at h
   split at h
   ·rename_i f a cap hcal
    obtain⟨h1,h2,h3,h4,d,h5,h6⟩:=h
    exact fin (by rw[hop];simp only[aJ,hcal];exact o8 h1 h3 (by rw[h2,Le];exact mP h4 h5)) h6
   ·exact h.elim
  ·rename_i r name
   unfold tG at h
   split at h
   ·rename_i t hx
    split at h
    ·rename_i f hi
     obtain⟨hf,_,h2,h3,h4,d,h5,h6⟩:=h
     have h5':aa P w0 f (.agg []::args.toList.map (ev fr)) S (fun d' S'=>d'=d∧S'=S):=by simpa using h5
     exact fin (by rw[hop];simp only[aJ,tG,hx,hi];exact⟨hf,mP h4 h5'⟩) h6
    ·exact h.elim
   ·exact h.elim
  ·exact h.elim
 |_=>rw[hop]at h;exact h.elim
end
end Aml
namespace Aml
open Go Go.RowKit
def dI(n:Int):DV:= .v (.int .i64 n)
def dU(n:Int):DV:= .v (.int .u64 n)
def dY(n:Int):DV:= .v (.int .u8 n)
def dB(b:Bool):DV:= .v (.bool b)
def dS(s:ByteArray):DV:= .v (.string s)
theorem ja{n:Int}(h0:0≤n)(h1:n≤18446744073709551615):IntKind.u64.wrap n=n:=by
 show n%18446744073709551616=n
 omega
theorem wu8{n:Int}(h0:0≤n)(h1:n≤255):IntKind.u8.wrap n=n:=by
 show n%256=n
 omega
section
variable {P:Program} {w0:W0}
end
end Aml
namespace Aml
open Go Go.RowKit
def qg:Op→Bool
 | .store ..| .box ..| .alloc ..| .makeSlice ..| .mapUpdate ..| .makeMap ..=>false
 | .call c=>match c.callee with
  | .builtin .append| .builtin .clear| .builtin .delete| .builtin .copy=>false
  |_=>true
 |_=>true
def u7(md:Region.Mode)(ops:Array Oper):Nat→Nat→Nat→Bool
 |0,_,_=>false
 |n+1,k,i=>match ops[k]? with
  |none=>false
  |some o=>o.after.any fun e=>Region.binds md e&&(e.on==i||u7 md ops n e.on i)
def RZ(md:Region.Mode)(ops:Array Oper):Bool:=(List.range ops.size).all fun k=>match ops[k]? with
 |none=>true
 |some o=>o.after.all fun e=>!Region.binds md e||decide (e.on<k)
def rE(md:Region.Mode)(ops:Array Oper)(n:Nat):Bool:=RZ md ops&&
 ((List.range ops.size).all fun k=>decide (k<n)||(List.range k).all fun i=>u7 md ops ops.size k i)&&
 (ops.toList.take n).all fun o=>match o.guard with|none=>true|some (j,_)=>decide (j<n)
section
variable {P:Program} {w0:W0} {ops:Array Oper} {md:Region.Mode}
theorem kG(h:RZ md ops=true){k:Nat}{o:Oper}(hk:ops[k]? =some o):∀e∈o.after,Region.binds md e=true→e.on<k:=by
 intro e he hb
 have hlt:k<ops.size:=(Array.getElem?_eq_some_iff.1 hk).1
 have:=List.all_eq_true.1 h k (List.mem_range.2 hlt)
 simp only[hk]at this
 have:=Array.all_eq_true'.1 this e he
 simpa[hb]using this
def NP(md:Region.Mode)(ops:Array Oper)(L:Array Bool):Prop:=∀(j:Nat) (o:Oper),ops[j]? =some o→L[j]? =some true→∀e∈o.after,Region.binds md e=true→L[e.on]? =some true
theorem lG{L:Array Bool}(hc:NP md ops L):∀(n k i:Nat) (o:Oper),ops[k]? =some o→(∀e∈o.after,Region.binds md e=true→L[e.on]? =some true)→u7 md ops n k i=true→L[i]? =some true
 |0,_,_,_,_,_,h=>by cases h
 |n+1,k,i,o,hk,ha,h=>by
  simp only[u7,hk]at h
  obtain⟨e,he,h⟩:=Array.any_eq_true'.1 h
  simp only[Bool.and_eq_true,Bool.or_eq_true,beq_iff_eq]at h
  rcases h.2 with h'|h'
  ·rw[←h'];exact ha e he h.1
  ·have hl:=ha e he h.1
   cases ho:ops[e.on]? with
   |none=>cases n <;>simp[u7,ho]at h'
   |some o'=>exact lG hc n e.on i o' ho (hc e.on o' ho hl) h'
theorem dD{L:Array Bool}{i:Nat}:L.getD i false=true↔L[i]? =some true:=by
 rw[Array.getD_eq_getD_getElem?]
 cases L[i]? <;>simp
theorem dZ{L:Array Bool}{i:Nat}:L.getD i true=false↔L[i]? =some false:=by
 rw[Array.getD_eq_getD_getElem?]
 cases L[i]? <;>simp
theorem Rg{ro:Option Nat}{g0 g:Gh}{Q:Exit→List DV→St→Prop}{o:Oper}{fr:List DV}{S:St}{a:Act}{w:World}{K:List DV→St→Prop}{K':Act→World→Prop}(k:g0.le g)(h1:Rel w0 g S w)(h2:aj g fr a.tmps.toList)(h3:Dk w0 g.obj a w)
 (hK:∀fr S g a w,g0.le g→Rel w0 g S w→aj g fr a.tmps.toList→Dk w0 g.obj a w→K fr S→K' a w)
 (h:cj ops fr o.guard (fun fr=>an P w0 o (ev fr) S fun d S'=>K (pt fr o.dst d) S') (fun fr=>K (pt fr o.dst ud) S)) {i:Nat} (hi:ops[i]? =some o):
 wpOpIn (fz ro) 0 P ops (Good w0 g0 Q) i K' a w:=by
 unfold wpOpIn
 simp only[hi]
 rcases my h2 h with⟨hw,fr',h2',hA⟩|⟨hw,fr',h2',hB⟩
 ·rw[if_pos hw]
  refine dQ hA h1 (fun x _=>nr h2' x) h3 fun g' d u S' w' k1 k2 k3 k4 k5=>?_
  exact hK _ _ g' _ _ (k.trans k1) k2 (dq (h2'.mono k1) _ k3) (k1.dk k5) k4
 ·rw[if_neg (by simp[hw])]
  exact⟨fun _ _=>trivial,hK _ _ g _ _ k h1 (dq h2' _ (jL g)) (h3.keep (put_defers _ _ _) fun _ _ h _=>h) hB⟩
theorem yO{S:St}{K K':List DV→Prop}(hk:∀fr,K fr→K' fr):∀{l:List Oper} {fr:List DV},LQ P w0 S ops K l fr→LQ P w0 S ops K' l fr
 |[],fr,h=>hk _ h
 |o::rest,fr,h=>iy (fun fr ⟨d,q1,q2⟩=>⟨d,q1,yO hk q2⟩) (fun fr h=>yO hk h) h
theorem Cl{ro:Option Nat}{g0:Gh}{Q:Exit→List DV→St→Prop}{n:Nat}(hB:rE md ops n=true):∀(l:List Oper) (k fuel:Nat) (L:Array Bool) (fr:List DV) (S:St) (g:Gh) (a:Act) (w:World),
 (∀j,l[j]? =ops[k+j]?)→n≤k→k≤ops.size→l.length≤fuel→L.size=ops.size→(∀i,i<k→L[i]? =some true)→(∀i,k≤i→i<ops.size→L[i]? =some false)→g0.le g→Rel w0 g S w→aj g fr a.tmps.toList→Dk w0 g.obj a w→
 Ba P w0 ops (fun fr S=>Q .normal fr S) l fr S→wpAnyIn (fz ro) 0 P md ops (Good w0 g0 Q) fuel L a w:=by
 simp only[rE,Bool.and_eq_true]at hB
 obtain⟨⟨hb,ha⟩, -⟩:=hB
 have none_ready:∀(k:Nat) (L:Array Bool),ops.size≤k→L.size=ops.size→(∀i,i<k→L[i]? =some true∨ops.size≤i)→∀i,i∉Region.ready md ops L:=by
  intro k L hk hs hl i hi
  obtain⟨h1,o,ho,_⟩:=mem_ready.1 hi
  rw[dZ]at h1
  have hlt:i<ops.size:=(Array.getElem?_eq_some_iff.1 ho).1
  rcases hl i (by omega)with h|h
  ·rw[h]at h1;cases h1
  ·omega
 intro l
 induction l with
 |nil=>
  intro k fuel L fr S g a w hl hn hk hf hs ht hu k1 h1 h2 h3 h
  have hk':ops.size≤k:=by
   have:=hl 0
   simp only[List.getElem?_nil,Nat.add_zero]at this
   exact Array.getElem?_eq_none_iff.1 this.symm
  have hno:=none_ready k L hk' hs (fun i hi=> .inl (ht i hi))
  have hemp:Region.ready md ops L=[]:=List.eq_nil_iff_forall_not_mem.2 hno
  cases fuel with
  |zero=>exact⟨hemp,k1.kd h3,g,fr,S,k1,h1,h2,h⟩
  |succ fuel=>exact⟨fun _=>⟨k1.kd h3,g,fr,S,k1,h1,h2,h⟩,fun i hi=>absurd hi (hno i)⟩
 |cons o rest ih=>
  intro k fuel L fr S g a w hl hn hk hf hs ht hu k1 h1 h2 h3 h
  have h0:ops[k]? =some o:=by simpa using(hl 0).symm
  have hklt:k<ops.size:=(Array.getElem?_eq_some_iff.1 h0).1
  have hready:k∈Region.ready md ops L:=mem_ready.2 ⟨dZ.2 (hu k (Nat.le_refl _) hklt),o,h0,fun e he hbe=>dD.2 (ht _ (kG hb h0 e he hbe))⟩
  cases fuel with
  |zero=>simp at hf
  |succ fuel=>
   refine⟨fun h=>(by rw[h]at hready;cases hready),fun i hi=>?_⟩
   obtain⟨hi1,oi,hoi,hia⟩:=mem_ready.1 hi
   rw[dZ]at hi1
   have hilt:i<ops.size:=(Array.getElem?_eq_some_iff.1 hoi).1
   have hclo:NP md ops L:=fun j oj hj hlj e he hbe=>by
    have hjk:j<k:=by
     rcases Nat.lt_or_ge j k with h|h
     ·exact h
     ·rw[hu j h (Array.getElem?_eq_some_iff.1 hj).1]at hlj;cases hlj
    exact ht _ (Nat.lt_trans (kG hb hj e he hbe) hjk)
   have hik:i=k:=by
    rcases Nat.lt_trichotomy i k with h|h|h
    ·rw[ht i h]at hi1;cases hi1
    ·exact h
    ·have hr:=List.all_eq_true.1 ha i (List.mem_range.2 hilt)
     rw[Bool.or_eq_true]at hr
     rcases hr with hr|hr
     ·have:=of_decide_eq_true hr;omega
     ·have hr:=List.all_eq_true.1 hr k (List.mem_range.2 h)
      have:=lG hclo _ i k oi hoi (fun e he hbe=>dD.1 (hia e he hbe)) hr
      rw[hu k (Nat.le_refl _) hklt]at this;cases this
   subst hik
   refine Rg (o:=o) k1 h1 h2 h3 (K:=Ba P w0 ops (fun fr S=>Q .normal fr S) rest) ?_ h h0
   intro fr' S' g' a' w' q1 q2 q3 q4 q5
   refine ih (i+1) fuel (L.setIfInBounds i true) fr' S' g' a' w' (fun j=>by have:=hl (j+1);simpa[Nat.add_assoc,Nat.add_comm 1 j]using this) (by omega) (by omega) (by simpa using hf) (by simpa using hs) ?_ ?_ q1 q2 q3 q4 q5
   ·intro j hj
    rw[Array.getElem?_setIfInBounds]
    split
    ·rename_i e;rw[if_pos (by omega)]
    ·exact ht j (by omega)
   ·intro j hj hj'
    rw[Array.getElem?_setIfInBounds,if_neg (by omega)]
    exact hu j (by omega) hj'
theorem GM{ro:Option Nat}{g0:Gh}{Q:Exit→List DV→St→Prop}{S:St}{n:Nat}(hB:rE md ops n=true)(hn:n≤ops.size):∀(fuel F:Nat) (L M:Array Bool) (fr:List DV) (g:Gh) (a:Act) (w:World),
 L.size=n→M.size=ops.size→(∀i,i<n→M[i]? =L[i]?)→(∀i,n≤i→i<ops.size→M[i]? =some false)→NP md ops M→fuel+(ops.size-n)≤F→g0.le g→Rel w0 g S w→aj g fr a.tmps.toList→Dk w0 g.obj a w→
 qy P w0 S md (ops.toList.take n).toArray (fun fr=>Ba P w0 ops (fun fr S=>Q .normal fr S) (ops.toList.drop n) fr S) fuel L fr→wpAnyIn (fz ro) 0 P md ops (Good w0 g0 Q) F M a w:=by
 have hB':=hB
 simp only[rE,Bool.and_eq_true]at hB'
 obtain⟨⟨hb,ha⟩,hg⟩:=hB'
 have hpre:∀i,i<n→(ops.toList.take n).toArray[i]? =ops[i]? :=fun i hi=>by simp[List.getElem?_take,hi]
 have full:∀(L M:Array Bool),L.size=n→M.size=ops.size→(∀i,i<n→M[i]? =L[i]?)→Region.ready md (ops.toList.take n).toArray L=[]→∀i,i<n→M[i]? =some true:=by
  intro L M hs hM hLM hr i
  induction i using Nat.strongRecOn with
  |_ i ih=>
   intro hi
   have hlt:i<M.size:=by omega
   have hsome:∃o,ops[i]? =some o:=⟨_,Array.getElem?_eq_getElem (by omega)⟩
   obtain⟨o,ho⟩:=hsome
   cases hx:M[i]? with
   |none=>rw[Array.getElem?_eq_getElem hlt]at hx;cases hx
   |some x=>
    cases x with
    |true=>rfl
    |false=>
     have:i∈Region.ready md (ops.toList.take n).toArray L:=mem_ready.2 ⟨dZ.2 (by rw[←hLM i hi];exact hx),o,by rw[hpre i hi];exact ho,fun e he hbe=>by
      have hlt':=kG hb ho e he hbe
      rw[dD,←hLM _ (by omega)]
      exact ih _ hlt' (by omega)⟩
     rw[hr]at this;cases this
 have tail:∀(F:Nat) (L M:Array Bool) (fr:List DV) (g:Gh) (a:Act) (w:World),L.size=n→M.size=ops.size→(∀i,i<n→M[i]? =L[i]?)→(∀i,n≤i→i<ops.size→M[i]? =some false)→ops.size-n≤F→g0.le g→Rel w0 g S w→aj g fr a.tmps.toList→Dk w0 g.obj a w→
  Region.ready md (ops.toList.take n).toArray L=[]→Ba P w0 ops (fun fr S=>Q .normal fr S) (ops.toList.drop n) fr S→wpAnyIn (fz ro) 0 P md ops (Good w0 g0 Q) F M a w:=by
  intro F L M fr g a w hs hM hLM hM0 hF q1 q2 q3 q4 hr h
  exact Cl hB (ops.toList.drop n) n F M fr S g a w (fun j=>by simp[List.getElem?_drop]) (Nat.le_refl _) hn (by simp;omega) hM (full L M hs hM hLM hr) hM0 q1 q2 q3 q4 h
 intro fuel
 induction fuel with
 |zero=>
  intro F L M fr g a w hs hM hLM hM0 hc hF q1 q2 q3 q4 h
  exact tail F L M fr g a w hs hM hLM hM0 (by omega) q1 q2 q3 q4 h.1 h.2
 |succ fuel ih=>
  intro F L M fr g a w hs hM hLM hM0 hc hF q1 q2 q3 q4 h
  by_cases hr:Region.ready md (ops.toList.take n).toArray L=[]
  ·exact tail F L M fr g a w hs hM hLM hM0 (by omega) q1 q2 q3 q4 hr (h.1 hr)
  ·obtain⟨F,rfl⟩:∃F',F=F'+1:=⟨F-1,by omega⟩
   have up:∀i,i∈Region.ready md (ops.toList.take n).toArray L→i∈Region.ready md ops M:=by
    intro i hi
    obtain⟨h1,o,ho,h2⟩:=mem_ready.1 hi
    have hi':i<n:=by have:=(Array.getElem?_eq_some_iff.1 ho).1;simp at this;omega
    rw[hpre i hi']at ho
    refine mem_ready.2 ⟨dZ.2 (by rw[hLM i hi'];exact dZ.1 h1),o,ho,fun e he hbe=>?_⟩
    have hlt:=kG hb ho e he hbe
    rw[dD,hLM _ (by omega)]
    exact dD.1 (h2 e he hbe)
   refine⟨fun h0=>?_,fun i hi=>?_⟩
   ·exfalso
    obtain⟨x,xs,hx⟩:∃x xs,Region.ready md (ops.toList.take n).toArray L=x::xs:=by
     cases he:Region.ready md (ops.toList.take n).toArray L with
     |nil=>exact absurd he hr
     |cons x xs=>exact⟨x,xs,rfl⟩
    have:=up x (by rw[hx];exact List.mem_cons_self)
    rw[h0]at this;cases this
   ·obtain⟨hi1,oi,hoi,hia⟩:=mem_ready.1 hi
    rw[dZ]at hi1
    have hilt:i<ops.size:=(Array.getElem?_eq_some_iff.1 hoi).1
    by_cases hin:i<n
    ·have hiL:i∈Region.ready md (ops.toList.take n).toArray L:=mem_ready.2 ⟨dZ.2 (by rw[←hLM i hin];exact hi1),oi,by rw[hpre i hin];exact hoi,fun e he hbe=>by
      have hlt:=kG hb hoi e he hbe
      rw[dD,←hLM _ (by omega)]
      exact dD.1 (hia e he hbe)⟩
     have hq:=h.2 i hiL
     have hgi:∀j want,oi.guard=some (j,want)→j<n:=by
      intro j want hgj
      have hmem:oi∈ops.toList.take n:=by
       have:(ops.toList.take n)[i]? =some oi:=by rw[List.getElem?_take,if_pos hin];simpa using hoi
       exact List.mem_of_getElem? this
      have:=List.all_eq_true.1 hg oi hmem
      simpa[hgj]using this
     have hwant:∀fr,dz (ops.toList.take n).toArray fr oi.guard=dz ops fr oi.guard:=by
      intro fr
      cases hgo:oi.guard with
      |none=>rfl
      |some p=>
       obtain⟨j,want⟩:=p
       simp only[dz,hpre j (hgi j want hgo)]
     have hLs:(L.setIfInBounds i true).size=n:=by simpa using hs
     have hMs:(M.setIfInBounds i true).size=ops.size:=by simpa using hM
     have hLM':∀j,j<n→(M.setIfInBounds i true)[j]? =(L.setIfInBounds i true)[j]? :=by
      intro j hj
      rw[Array.getElem?_setIfInBounds,Array.getElem?_setIfInBounds,hLM j hj]
      split
      ·rw[if_pos (by omega),if_pos (by omega)]
      ·rfl
     have hM0':∀j,n≤j→j<ops.size→(M.setIfInBounds i true)[j]? =some false:=by
      intro j hj hj'
      rw[Array.getElem?_setIfInBounds,if_neg (by omega)]
      exact hM0 j hj hj'
     have hc':NP md ops (M.setIfInBounds i true):=by
      intro j oj hj hlj e he hbe
      rw[Array.getElem?_setIfInBounds]
      split
      ·rw[if_pos (by omega)]
      ·rw[Array.getElem?_setIfInBounds]at hlj
       split at hlj
       ·rename_i hij
        subst hij
        rw[hoi]at hj;cases hj
        exact dD.1 (hia e he hbe)
       ·exact hc j oj hj hlj e he hbe
     have cont:∀fr' g' a' w',g0.le g'→Rel w0 g' S w'→aj g' fr' a'.tmps.toList→Dk w0 g'.obj a' w'→qy P w0 S md (ops.toList.take n).toArray (fun fr=>Ba P w0 ops (fun fr S=>Q .normal fr S) (ops.toList.drop n) fr S) fuel (L.setIfInBounds i true) fr'→
      wpAnyIn (fz ro) 0 P md ops (Good w0 g0 Q) F (M.setIfInBounds i true) a' w':=fun fr' g' a' w' p1 p2 p3 p4 p5=>
      ih F _ _ fr' g' a' w' hLs hMs hLM' hM0' hc' (by omega) p1 p2 p3 p4 p5
     unfold qOp at hq
     rw[hpre i hin]at hq
     unfold wpOpIn
     simp only[hoi]at hq ⊢
     rcases hq with⟨hw,d,hy,hk⟩|⟨hw,hk⟩
     ·rw[hwant]at hw
      have hw':=eE (o:=oi) q3 hw
      rw[if_pos hw']
      refine dQ hy q2 (fun x _=>nr q3 x) q4 fun g' d' u S' w' k1 k2 k3 k4 k5=>?_
      obtain⟨hd,hS⟩:=k4
      rw[hS]at k2
      rw[hd]at k3
      exact cont _ g' _ _ (q1.trans k1) k2 (dq (q3.mono k1) _ k3) (k1.dk k5) hk
     ·rw[hwant]at hw
      have hw':=eE (o:=oi) q3 hw
      rw[if_neg (by simp[hw'])]
      exact⟨fun _ _=>trivial,cont _ g _ _ q1 q2 (dq q3 _ (jL g)) (q4.keep (put_defers _ _ _) fun _ _ h _=>h) hk⟩
    ·exfalso
     have hall:∀j,j<n→M[j]? =some true:=by
      intro j hj
      have hr':=List.all_eq_true.1 ha i (List.mem_range.2 hilt)
      rw[Bool.or_eq_true]at hr'
      rcases hr' with hr'|hr'
      ·exact absurd (of_decide_eq_true hr') hin
      ·have hr':=List.all_eq_true.1 hr' j (List.mem_range.2 (by omega))
       exact lG hc _ i j oi hoi (fun e he hbe=>dD.1 (hia e he hbe)) hr'
     refine hr (List.eq_nil_iff_forall_not_mem.2 fun j hj=>?_)
     obtain⟨h1,o,ho,_⟩:=mem_ready.1 hj
     have hj':j<n:=by have:=(Array.getElem?_eq_some_iff.1 ho).1;simp at this;omega
     rw[dZ,←hLM j hj',hall j hj']at h1
     cases h1
def nU(l:List Oper):Nat:=(l.takeWhile fun o=>qg o.op).length
theorem Ii{id:Nat}{l:List Oper}{fr:List DV}{S:St}{Q:Exit→List DV→St→Prop}(n:Nat)(hn:n≤l.length)(hm:P.follows .mixedOrders=true)(hB:Region.lexB .any (l.take n).toArray=true)(hT:rE .any l.toArray n=true)(hs:l.all (fun o=>hJ o.op)=true)
 (h:LQ P w0 S (l.take n).toArray (fun fr=>yD P w0 l.toArray (fun fr S=>Q .normal fr S) (l.drop n) fr S) (l.take n) fr):fW P w0 (.region id l.toArray true) fr S Q:=by
 intro g a w h1 h2 h3
 simp only[Region.lexB,Bool.and_eq_true]at hB
 refine gx hm fun ro=>?_
 have hR:Rel w0 g S {w with drawn:=w.drawn+1}:=h1.grow (l5 w)
 have hs1:(l.take n).all (fun o=>hJ o.op)=true:=List.all_eq_true.2 fun o ho=>List.all_eq_true.1 hs o (List.mem_of_mem_take ho)
 have hs2:(l.drop n).all (fun o=>hJ o.op)=true:=List.all_eq_true.2 fun o ho=>List.all_eq_true.1 hs o (List.mem_of_mem_drop ho)
 have hLQ:LQ P w0 S (l.take n).toArray (fun fr=>Ba P w0 l.toArray (fun fr S=>Q .normal fr S) (l.drop n) fr S) (l.take n) fr:=by
  exact yO (fun fr h=>nx _ hs2 h) h
 have:=tR (P:=P) (w0:=w0) (S:=S) (md:= .any) (ops:=(l.take n).toArray) (l.take n) 0 (Array.replicate (l.take n).toArray.size false) fr (by simp) (by simpa using hB.2) hLQ
 refine GM (n:=n) (S:=S) hT (by simpa using hn) (l.take n).length _ (Array.replicate (l.take n).toArray.size false) _ fr g a _ (by simp;omega) (by simp) ?_ ?_ ?_ (by simp;omega) (.refl g) hR h2 (h3.keep rfl fun _ _ h _=>h) (by simpa using this)
 ·intro i hi
  simp only[Array.getElem?_replicate,List.size_toArray,List.length_take]
  rw[if_pos (by omega),if_pos (by omega)]
 ·intro i hi hi'
  simp only[Array.getElem?_replicate]
  rw[if_pos hi']
 ·intro j o hj hl
  simp[Array.getElem?_replicate]at hl
end
end Aml
namespace Aml
open Go Go.RowKit
@[congr] theorem Yi {d:DV} {d':DV} {A:Prop} {B:Prop} (hd:d=d'):gg d A B=gg d' A B:=by cases hd;rfl
@[congr] theorem aap {ds:List DV} {ds':List DV} {K:DV→Prop} (hds:ds=ds'):Sm ds K=Sm ds' K:=by cases hds;rfl
@[congr] theorem Z2 {k:TK} {k':TK} {ds:List DV} {ds':List DV} {K:DV→Prop} (hk:k=k') (hds:ds=ds'):qi k ds K=qi k' ds' K:=by cases hk;cases hds;rfl
@[congr] theorem Yy {c:DV} {c':DV} {a:DV} {a':DV} {b:DV} {b':DV} {K:DV→Prop} (hc:c=c') (ha:a=a') (hb:b=b'):jw c a b K=jw c' a' b' K:=by cases hc;cases ha;cases hb;rfl
@[congr] theorem X0 {k:TK} {k':TK} {S:St} {S':St} {x:DV} {x':DV} {K:DV→Prop} (hk:k=k') (hS:S=S') (hx:x=x'):bR k S x K=bR k' S' x' K:=by cases hk;cases hS;cases hx;rfl
@[congr] theorem Xg {k:TK} {k':TK} {f:Nat} {f':Nat} {x:DV} {x':DV} {K:DV→Prop} (hk:k=k') (hf:f=f') (hx:x=x'):ij k f x K=ij k' f' x' K:=by cases hk;cases hf;cases hx;rfl
@[congr] theorem Re {k:TK} {k':TK} {x:DV} {x':DV} {i:DV} {i':DV} {K:DV→Prop} (hk:k=k') (hx:x=x') (hi:i=i'):aG k x i K=aG k' x' i' K:=by cases hk;cases hx;cases hi;rfl
@[congr] theorem TY {i:Nat} {i':Nat} {x:DV} {x':DV} {K:DV→Prop} (hi:i=i') (hx:x=x'):dV i x K=dV i' x' K:=by cases hi;cases hx;rfl
@[congr] theorem Vi {k:TK} {k':TK} {f:Nat} {f':Nat} {x:DV} {x':DV} {K:DV→Prop} (hk:k=k') (hf:f=f') (hx:x=x'):jc k f x K=jc k' f' x' K:=by cases hk;cases hf;cases hx;rfl
@[congr] theorem Yw {op:BinOp} {k:IntKind} {m:Int} {m':Int} {n:Int} {n':Int} {K:DV→Prop} (hm:m=m') (hn:n=n'):nX op k m n K=nX op k m' n' K:=by cases hm;cases hn;rfl
@[congr] theorem Yd {op:BinOp} {x:ByteArray} {x':ByteArray} {y:ByteArray} {y':ByteArray} {K:DV→Prop} (hx:x=x') (hy:y=y'):j2 op x y K=j2 op x' y' K:=by cases hx;cases hy;rfl
@[congr] theorem YO {op:BinOp} {t:TK} {t':TK} {cx:Bool} {cx':Bool} {cy:Bool} {cy':Bool} {x:DV} {x':DV} {y:DV} {y':DV} {K:DV→Prop} (ht:t=t') (hcx:cx=cx') (hcy:cy=cy') (hx:x=x') (hy:y=y'):sg op t cx cy x y K=sg op t' cx' cy' x' y' K:=by cases ht;cases hcx;cases hcy;cases hx;cases hy;rfl
@[congr] theorem Wp {o:Option (List FK)} {o':Option (List FK)} {op:BinOp} {al:List DV} {al':List DV} {y:DV} {y':DV} {K:DV→Prop} (ho:o=o') (hal:al=al') (hy:y=y'):oQ o op al y K=oQ o' op al' y' K:=by cases ho;cases hal;cases hy;rfl
@[congr] theorem YZ {ks:List FK} {al:List DV} {al':List DV} {bs:List DV} {bs':List DV} {r:Bool} {r':Bool} {F:Bool→Prop} (hal:al=al') (hbs:bs=bs') (hr:r=r'):gO ks al bs r F=gO ks al' bs' r' F:=by cases hal;cases hbs;cases hr;rfl
@[congr] theorem Z8 {op:UnOp} {x:DV} {x':DV} {K:DV→Prop} (hx:x=x'):Hy op x K=Hy op x' K:=by cases hx;rfl
@[congr] theorem Yt {a:TK} {a':TK} {b:TK} {b':TK} {x:DV} {x':DV} {K:DV→Prop} (ha:a=a') (hb:b=b') (hx:x=x'):iW a b x K=iW a' b' x' K:=by cases ha;cases hb;cases hx;rfl
@[congr] theorem VQ {a:TK} {a':TK} {b:TK} {b':TK} {ke:TK} {ke':TK} {kb:TK} {kb':TK} {S:St} {S':St} {x:DV} {x':DV} {K:DV→Prop} (ha:a=a') (hb:b=b') (hke:ke=ke') (hkb:kb=kb') (hS:S=S') (hx:x=x'):jK a b ke kb S x K=jK a' b' ke' kb' S' x' K:=by cases ha;cases hb;cases hke;cases hkb;cases hS;cases hx;rfl
@[congr] theorem W2 {k:TK} {k':TK} {x:DV} {x':DV} {i:DV} {i':DV} {K:DV→Prop} (hk:k=k') (hx:x=x') (hi:i=i'):lF k x i K=lF k' x' i' K:=by cases hk;cases hx;cases hi;rfl
@[congr] theorem ZX {d:Option DV} {d':Option DV} {z:Int} {z':Int} {K:Int→Prop} (hd:d=d') (hz:z=z'):kH d z K=kH d' z' K:=by cases hd;cases hz;rfl
@[congr] theorem XE {k:TK} {k':TK} {x:DV} {x':DV} {lo:Option DV} {lo':Option DV} {hi:Option DV} {hi':Option DV} {mx:Option DV} {mx':Option DV} {K:DV→Prop} (hk:k=k') (hx:x=x') (hlo:lo=lo') (hhi:hi=hi') (hmx:mx=mx'):fx k x lo hi mx K=fx k' x' lo' hi' mx' K:=by cases hk;cases hx;cases hlo;cases hhi;cases hmx;rfl
@[congr] theorem ZG {k:TK} {k':TK} {x:DV} {x':DV} {K:DV→Prop} (hk:k=k') (hx:x=x'):oX k x K=oX k' x' K:=by cases hk;cases hx;rfl
@[congr] theorem YJ {k:TK} {k':TK} {x:DV} {x':DV} {K:DV→Prop} (hk:k=k') (hx:x=x'):rV k x K=rV k' x' K:=by cases hk;cases hx;rfl
@[congr] theorem Zy {x:DV} {x':DV} {y:DV} {y':DV} {K:DV→Prop} (hx:x=x') (hy:y=y'):r9 x y K=r9 x' y' K:=by cases hx;cases hy;rfl
@[congr] theorem ZO {x:DV} {x':DV} {y:DV} {y':DV} {K:DV→Prop} (hx:x=x') (hy:y=y'):rW x y K=rW x' y' K:=by cases hx;cases hy;rfl
@[congr] theorem VH {n:Nat} {n':Nat} {S:St} {S':St} {x:DV} {x':DV} {y:DV} {y':DV} {K:St→Prop} (hn:n=n') (hS:S=S') (hx:x=x') (hy:y=y'):oq n S x y K=oq n' S' x' y' K:=by cases hn;cases hS;cases hx;cases hy;rfl
@[congr] theorem Vj {n:Nat} {n':Nat} {S:St} {S':St} {x:DV} {x':DV} {y:DV} {y':DV} {K:St→Prop} (hn:n=n') (hS:S=S') (hx:x=x') (hy:y=y'):fK n S x y K=fK n' S' x' y' K:=by cases hn;cases hS;cases hx;cases hy;rfl
@[congr] theorem NK {k:TK} {k':TK} {z:DV} {z':DV} {len:Nat} {len':Nat} {parts:List (Nat×DV)} {parts':List (Nat×DV)} {K:DV→Prop} (hk:k=k') (hz:z=z') (hlen:len=len') (hparts:parts=parts'):aR k z len parts K=aR k' z' len' parts' K:=by cases hk;cases hz;cases hlen;cases hparts;rfl
@[congr] theorem Yu {S:St} {S':St} {d:DV} {d':DV} {K:Nat→List DV→Prop} (hS:S=S') (hd:d=d'):gl S d K=gl S' d' K:=by cases hS;cases hd;rfl
@[congr] theorem Zq {s:Nat} {s':Nat} {b:Nat} {b':Nat} {S:St} {S':St} {x:DV} {x':DV} {ys:List DV} {ys':List DV} {K:DV→St→Prop} (hs:s=s') (hb:b=b') (hS:S=S') (hx:x=x') (hys:ys=ys'):vB s b S x ys K=vB s' b' S' x' ys' K:=by cases hs;cases hb;cases hS;cases hx;cases hys;rfl
@[congr] theorem Vv {k:TK} {k':TK} {k2:TK} {k2':TK} {S:St} {S':St} {x:DV} {x':DV} {y:DV} {y':DV} {K:DV→St→Prop} (hk:k=k') (hk2:k2=k2') (hS:S=S') (hx:x=x') (hy:y=y'):lU k k2 S x y K=lU k' k2' S' x' y' K:=by cases hk;cases hk2;cases hS;cases hx;cases hy;rfl
@[congr] theorem Vh {k:TK} {k':TK} {z:DV} {z':DV} {S:St} {S':St} {x:DV} {x':DV} {y:DV} {y':DV} {K:DV→St→Prop} (hk:k=k') (hz:z=z') (hS:S=S') (hx:x=x') (hy:y=y'):lV k z S x y K=lV k' z' S' x' y' K:=by cases hk;cases hz;cases hS;cases hx;cases hy;rfl
@[congr] theorem Ye {k:TK} {k':TK} {k2:TK} {k2':TK} {S:St} {S':St} {x:DV} {x':DV} {y:DV} {y':DV} {K:DV→St→Prop} (hk:k=k') (hk2:k2=k2') (hS:S=S') (hx:x=x') (hy:y=y'):rG k k2 S x y K=rG k' k2' S' x' y' K:=by cases hk;cases hk2;cases hS;cases hx;cases hy;rfl
@[congr] theorem Yo {k:TK} {k':TK} {z:DV} {z':DV} {S:St} {S':St} {x:DV} {x':DV} {y:DV} {y':DV} {K:DV→St→Prop} (hk:k=k') (hz:z=z') (hS:S=S') (hx:x=x') (hy:y=y'):rT k z S x y K=rT k' z' S' x' y' K:=by cases hk;cases hz;cases hS;cases hx;cases hy;rfl
@[congr] theorem Yp {k:TK} {k':TK} {S:St} {S':St} {x:DV} {x':DV} {y:DV} {y':DV} {K:DV→St→Prop} (hk:k=k') (hS:S=S') (hx:x=x') (hy:y=y'):pY k S x y K=pY k' S' x' y' K:=by cases hk;cases hS;cases hx;cases hy;rfl
@[congr] theorem V7 {k:TK} {k':TK} {z:DV} {z':DV} {S:St} {S':St} {x:DV} {x':DV} {K:DV→St→Prop} (hk:k=k') (hz:z=z') (hS:S=S') (hx:x=x'):mU k z S x K=mU k' z' S' x' K:=by cases hk;cases hz;cases hS;cases hx;rfl
@[congr] theorem XS {S:St} {S':St} {s:Nat} {s':Nat} {ds:List DV} {ds':List DV} {o:Nat} {o':Nat} {b:Nat} {n:Nat} {n':Nat} {y:DV} {y':DV} {K:DV→St→Prop} (hS:S=S') (hs:s=s') (hds:ds=ds') (ho:o=o') (hn:n=n') (hy:y=y'):wK S s ds o b n y K=wK S' s' ds' o' b n' y' K:=by cases hS;cases hs;cases hds;cases ho;cases hn;cases hy;rfl
@[congr] theorem XY {S:St} {S':St} {s:Nat} {s':Nat} {y:DV} {y':DV} {F:Nat→List DV→Prop} (hS:S=S') (hs:s=s') (hy:y=y'):pM S s y F=pM S' s' y' F:=by cases hS;cases hs;cases hy;rfl
@[congr] theorem Wx {op:BinOp} {k:TK} {k':TK} {x:DV} {x':DV} {K:DV→Prop} (hk:k=k') (hx:x=x'):mu op k x K=mu op k' x' K:=by cases hk;cases hx;rfl
@[congr] theorem Yh {S:St} {S':St} {x:DV} {x':DV} {z:Nat} {z':Nat} {K:DV→St→Prop} (hS:S=S') (hx:x=x') (hz:z=z'):wc S x z K=wc S' x' z' K:=by cases hS;cases hx;cases hz;rfl
@[congr] theorem Vn {k:TK} {k':TK} {S:St} {S':St} {x:DV} {x':DV} {lo:Option DV} {lo':Option DV} {hi:Option DV} {hi':Option DV} {mx:Option DV} {mx':Option DV} {K:DV→St→Prop} (hk:k=k') (hS:S=S') (hx:x=x') (hlo:lo=lo') (hhi:hi=hi') (hmx:mx=mx'):ir k S x lo hi mx K=ir k' S' x' lo' hi' mx' K:=by cases hk;cases hS;cases hx;cases hlo;cases hhi;cases hmx;rfl
@[congr] theorem Vg {k:TK} {k':TK} {S:St} {S':St} {x:DV} {x':DV} {lo:Option DV} {lo':Option DV} {hi:Option DV} {hi':Option DV} {mx:Option DV} {mx':Option DV} {K:DV→St→Prop} (hk:k=k') (hS:S=S') (hx:x=x') (hlo:lo=lo') (hhi:hi=hi') (hmx:mx=mx'):kn k S x lo hi mx K=kn k' S' x' lo' hi' mx' K:=by cases hk;cases hS;cases hx;cases hlo;cases hhi;cases hmx;rfl
@[congr] theorem Oo {k:TK} {k':TK} {z:DV} {z':DV} {x:DV} {x':DV} {y:DV} {y':DV} {S:St} {S':St} {K:DV→St→Prop} (hk:k=k') (hz:z=z') (hx:x=x') (hy:y=y') (hS:S=S'):fN k z x y S K=fN k' z' x' y' S' K:=by cases hk;cases hz;cases hx;cases hy;cases hS;rfl
@[congr] theorem Y5 {S:St} {S':St} {d:DV} {d':DV} {K:DV→St→Prop} (hS:S=S') (hd:d=d'):nw S d K=nw S' d' K:=by cases hS;cases hd;rfl
@[congr] theorem Ym {S:St} {S':St} {d:List DV} {d':List DV} {K:List DV→St→Prop} (hS:S=S') (hd:d=d'):mz S d K=mz S' d' K:=by cases hS;cases hd;rfl
@[congr] theorem Z5 {S:St} {S':St} {d:DV} {d':DV} {K:DV→St→Prop} (hS:S=S') (hd:d=d'):shr S d K=shr S' d' K:=by cases hS;cases hd;rfl
@[congr] theorem YV {S:St} {S':St} {d:List DV} {d':List DV} {K:List DV→St→Prop} (hS:S=S') (hd:d=d'):gP S d K=gP S' d' K:=by cases hS;cases hd;rfl
@[congr] theorem ZA {S:St} {S':St} {d:DV} {d':DV} {K:DV→St→Prop} (hS:S=S') (hd:d=d'):oz S d K=oz S' d' K:=by cases hS;cases hd;rfl
@[congr] theorem XV {S:St} {S':St} {d:List DV} {d':List DV} {F:List DV→St→Prop} (hS:S=S') (hd:d=d'):iG S d F=iG S' d' F:=by cases hS;cases hd;rfl
@[congr] theorem aan {p:Option (Nat×Nat×Bool)} {p':Option (Nat×Nat×Bool)} {x:DV} {x':DV} {K:DV→Prop} (hp:p=p') (hx:x=x'):Te p x K=Te p' x' K:=by cases hp;cases hx;rfl
@[congr] theorem Z3 {p:Option (Nat×Nat×Bool)} {p':Option (Nat×Nat×Bool)} {ds:List DV} {ds':List DV} {K:DV→Prop} (hp:p=p') (hds:ds=ds'):fvK p ds K=fvK p' ds' K:=by cases hp;cases hds;rfl
@[congr] theorem aaX {t:Nat} {t':Nat} {d:DV} {d':DV} {fr:List DV} {fr':List DV} {want:Bool} {want':Bool} {A:List DV→Prop} {B:List DV→Prop} (ht:t=t') (hd:d=d') (hfr:fr=fr') (hwant:want=want'):gD t d fr want A B=gD t' d' fr' want' A B:=by cases ht;cases hd;cases hfr;cases hwant;rfl
@[congr] theorem abG {t:Option Tmp} {t':Option Tmp} {fr:List DV} {fr':List DV} {want:Bool} {want':Bool} {A:List DV→Prop} {B:List DV→Prop} (ht:t=t') (hfr:fr=fr') (hwant:want=want'):gK t fr want A B=gK t' fr' want' A B:=by cases ht;cases hfr;cases hwant;rfl
@[congr] theorem XQ {ops:Array Oper} {fr:List DV} {fr':List DV} {gd:Option (Nat×Bool)} {gd':Option (Nat×Bool)} {A:List DV→Prop} {B:List DV→Prop} (hfr:fr=fr') (hgd:gd=gd'):cj ops fr gd A B=cj ops fr' gd' A B:=by cases hfr;cases hgd;rfl
@[congr] theorem aao {k:TK} {k':TK} {z:DV} {z':DV} {parts:List (Nat×DV)} {parts':List (Nat×DV)} {K:DV→Prop} (hk:k=k') (hz:z=z') (hparts:parts=parts'):WZ k z parts K=WZ k' z' parts' K:=by cases hk;cases hz;cases hparts;rfl
@[congr] theorem Z9 {xs:List DV} {xs':List DV} {i:Nat} {i':Nat} {F:DV→Prop} (hxs:xs=xs') (hi:i=i'):Ip xs i F=Ip xs' i' F:=by cases hxs;cases hi;rfl
@[congr] theorem ZW {xs:List DV} {xs':List DV} {i:Nat} {i':Nat} {F:DV→Prop} (hxs:xs=xs') (hi:i=i'):BX xs i F=BX xs' i' F:=by cases hxs;cases hi;rfl
@[congr] theorem aaD {o:Option Ob} {o':Option Ob} {F:Nat→List DV→Prop} {G:Nat→List DV→Prop} (ho:o=o'):bK o F G=bK o' F G:=by cases ho;rfl
@[congr] theorem abO {o:Option Ob} {o':Option Ob} {F:KK→List (Value×DV×Nat)→Nat→Prop} (ho:o=o'):xK o F=xK o' F:=by cases ho;rfl
@[congr] theorem aa9 {o:Option Ob} {o':Option Ob} {F:Nat→Nat→List Nat→Nat→Prop} (ho:o=o'):iK o F=iK o' F:=by cases ho;rfl
@[congr] theorem aai {o:Option DV} {o':Option DV} {F:DV→Prop} {G:Prop} (ho:o=o'):Vk o F G=Vk o' F G:=by cases ho;rfl
@[congr] theorem Vs {m:Option (KK×DV)} {m':Option (KK×DV)} {S:St} {S':St} {x:DV} {x':DV} {y:DV} {y':DV} {ok:Bool} {ok':Bool} {K:DV→Prop} (hm:m=m') (hS:S=S') (hx:x=x') (hy:y=y') (hok:ok=ok'):dv m S x y ok K=dv m' S' x' y' ok' K:=by cases hm;cases hS;cases hx;cases hy;cases hok;rfl
@[congr] theorem Vq {m:Option (KK×DV)} {m':Option (KK×DV)} {S:St} {S':St} {x:DV} {x':DV} {y:DV} {y':DV} {d:DV} {d':DV} {K:St→Prop} (hm:m=m') (hS:S=S') (hx:x=x') (hy:y=y') (hd:d=d'):j7 m S x y d K=j7 m' S' x' y' d' K:=by cases hm;cases hS;cases hx;cases hy;cases hd;rfl
@[congr] theorem Vf {m:Option (KK×DV)} {m':Option (KK×DV)} {S:St} {S':St} {x:DV} {x':DV} {y:DV} {y':DV} {K:St→Prop} (hm:m=m') (hS:S=S') (hx:x=x') (hy:y=y'):pF m S x y K=pF m' S' x' y' K:=by cases hm;cases hS;cases hx;cases hy;rfl
@[congr] theorem Wf {m:Option (KK×DV)} {m':Option (KK×DV)} {S:St} {S':St} {x:DV} {x':DV} {K:DV→St→Prop} (hm:m=m') (hS:S=S') (hx:x=x'):xx m S x K=xx m' S' x' K:=by cases hm;cases hS;cases hx;rfl
@[congr] theorem TH {m:Option (KK×DV)} {m':Option (KK×DV)} {r:Option Operand} {S:St} {S':St} {K:DV→St→Prop} (hm:m=m') (hS:S=S'):jD m r S K=jD m' r S' K:=by cases hm;cases hS;rfl
@[congr] theorem XT {S:St} {S':St} {x:DV} {x':DV} {s:Bool} {s':Bool} {K:DV→St→Prop} (hS:S=S') (hx:x=x') (hs:s=s'):E9 S x s K=E9 S' x' s' K:=by cases hS;cases hx;cases hs;rfl
@[congr] theorem Ww {S:St} {S':St} {x:DV} {x':DV} {K:DV→Prop} (hS:S=S') (hx:x=x'):vc S x K=vc S' x' K:=by cases hS;cases hx;rfl
@[congr] theorem aav {α:Type} {o o':Option α} {F:α→Prop} (h:o=o'):oK o F=oK o' F:=by cases h;rfl
@[congr] theorem Zz {P:Program} {w0:W0} {op:Op} {fr:List DV} {fr':List DV} {S:St} {S':St} {K:DV→St→Prop} (hfr:fr=fr') (hS:S=S'):aJ P w0 op fr S K=aJ P w0 op fr' S' K:=by cases hfr;cases hS;rfl
@[congr] theorem Ys {P:Program} {w0:W0} {op:Op} {fr:List DV} {fr':List DV} {S:St} {S':St} {K:DV→Prop} (hfr:fr=fr') (hS:S=S'):aF P w0 op fr S K=aF P w0 op fr' S' K:=by cases hfr;cases hS;rfl
@[congr] theorem Yf {P:Program} {w0:W0} {cal:DV} {cal':DV} {ds:List DV} {ds':List DV} {S:St} {S':St} {K:DV→St→Prop} (hcal:cal=cal') (hds:ds=ds') (hS:S=S'):p7 P w0 cal ds S K=p7 P w0 cal' ds' S' K:=by cases hcal;cases hds;cases hS;rfl
@[congr] theorem V3 {P:Program} {w0:W0} {cal:DV} {cal':DV} {ds:List DV} {ds':List DV} {S:St} {S':St} {K:DV→Prop} (hcal:cal=cal') (hds:ds=ds') (hS:S=S'):nh P w0 cal ds S K=nh P w0 cal' ds' S' K:=by cases hcal;cases hds;cases hS;rfl
@[congr] theorem aac {P:Program} {w0:W0} {ops:Array Oper} {K:List DV→St→Prop} {l:List Oper} {fr:List DV} {fr':List DV} {S:St} {S':St} (hfr:fr=fr') (hS:S=S'):yD P w0 ops K l fr S=yD P w0 ops K l fr' S':=by cases hfr;cases hS;rfl
@[congr] theorem Yn {P:Program} {op:BinOp} {t:TypeId} {cx:Bool} {cx':Bool} {cy:Bool} {cy':Bool} {x:DV} {x':DV} {y:DV} {y':DV} {K:DV→Prop} (hcx:cx=cx') (hcy:cy=cy') (hx:x=x') (hy:y=y'):ll P op t cx cy x y K=ll P op t cx' cy' x' y' K:=by cases hcx;cases hcy;cases hx;cases hy;rfl
@[congr] theorem W8 {P:Program} {t:TypeId} {parts:List (Nat×DV)} {parts':List (Nat×DV)} {K:DV→Prop} (hparts:parts=parts'):gA P t parts K=gA P t parts' K:=by cases hparts;rfl
@[congr] theorem Vl {P:Program} {t:TypeId} {ok:Bool} {ok':Bool} {x:DV} {x':DV} {K:DV→Prop} (hok:ok=ok') (hx:x=x'):sT P t ok x K=sT P t ok' x' K:=by cases hok;cases hx;rfl
@[congr] theorem Yl {P:Program} {fr:List DV} {fr':List DV} {S:St} {S':St} {K:DV→Prop} {r:ResultVar} (hfr:fr=fr') (hS:S=S'):rA P fr S K r=rA P fr' S' K r:=by cases hfr;cases hS;rfl
@[congr] theorem Yj {P:Program} {fr:List DV} {fr':List DV} {S:St} {S':St} {r:List ResultVar} {K:List DV→Prop} (hfr:fr=fr') (hS:S=S'):uz P fr S r K=uz P fr' S' r K:=by cases hfr;cases hS;rfl
@[congr] theorem Y9 {P:Program} {fr:List DV} {fr':List DV} {S:St} {S':St} {r:List ResultVar} {K:DV→Prop} (hfr:fr=fr') (hS:S=S'):u9 P fr S r K=u9 P fr' S' r K:=by cases hfr;cases hS;rfl
def eO(b:Bool)(A B:Prop):Prop:=match b with
 |true=>A
 |false=>B
theorem Pe(A B:Prop):eO true A B=A:=rfl
theorem NY(A B:Prop):eO false A B=B:=rfl
@[congr] theorem YP {b b':Bool} {A B:Prop} (h:b=b'):eO b A B=eO b' A B:=by cases h;rfl
theorem P7(S:St)(ds:List DV)(F:List DV→St→Prop):iG S ds F=eO (iT ds) (F ds S∨gP S ds F) (gP S ds F):=by
 unfold iG eO;cases iT ds <;>rfl
attribute [go_sem ↓] Pe NY P7
def EJ(S:St)(d:DV)(K:DV→St→Prop):Prop:=∀b,iX S.box b→K (.v (.pointer (some ⟨b,0,none⟩))) ⟨(b,cd d)::S.box,S.acc⟩
@[congr] theorem aaa {S S':St} {d d':DV} {K:DV→St→Prop} (h1:S=S') (h2:d=d'):EJ S d K=EJ S' d' K:=by cases h1;cases h2;rfl
theorem C6(x:Operand):qg (.move x)=true:=rfl
theorem xm(x:Operand):qg (.assign x)=true:=rfl
theorem DH(c a b:Operand):qg (.pick c a b)=true:=rfl
theorem Ep(t:TypeId)(x:Operand):qg (.load t x)=true:=rfl
theorem si(t:TypeId)(x:Operand)(f:Nat):qg (.fieldAddr t x f)=true:=rfl
theorem rY(t:TypeId)(x i:Operand):qg (.indexAddr t x i)=true:=rfl
theorem vu(x:Operand)(i:Nat):qg (.extract x i)=true:=rfl
theorem uv(x:Operand):qg (.nilCheck x)=true:=rfl
theorem AX(b:BinOp)(t:TypeId)(x y:Operand)(t':TypeId):qg (.binOp b t x y t')=true:=rfl
theorem El(b:UnOp)(t:TypeId)(x:Operand):qg (.unOp b t x)=true:=rfl
theorem vH(s d:TypeId)(x:Operand):qg (.convert s d x)=true:=rfl
theorem BN(t:TypeId)(parts:Array (Nat×Operand)):qg (.build t parts)=true:=rfl
theorem rq(t:TypeId)(len:Nat)(parts:Array (Nat×Operand)):qg (.buildSlice t len parts)=true:=rfl
theorem Am(t:TypeId)(x:Operand)(lo hi mx:Option Operand):qg (.slice t x lo hi mx)=true:=rfl
theorem G7(t:TypeId)(x:Operand):qg (.box t x)=false:=rfl
theorem AP(t:TypeId)(x y:Operand):qg (.store t x y)=false:=rfl
theorem Iz(x:Operand)(a:Array Operand)(ts:Array TypeId):qg (.call ⟨.value x,a,ts⟩)=true:=rfl
theorem GW(x:Operand)(m:String)(a:Array Operand)(ts:Array TypeId):qg (.call ⟨.invoke x m,a,ts⟩)=true:=rfl
theorem Ae(a:Array Operand)(ts:Array TypeId):qg (.call ⟨.builtin .len,a,ts⟩)=true:=rfl
theorem BR(a:Array Operand)(ts:Array TypeId):qg (.call ⟨.builtin .min,a,ts⟩)=true:=rfl
theorem uL(a:Array Operand)(ts:Array TypeId):qg (.call ⟨.builtin .append,a,ts⟩)=false:=rfl
theorem xk(a:Array Operand)(ts:Array TypeId):qg (.call ⟨.builtin .copy,a,ts⟩)=false:=rfl
theorem J9(fr:List DV)(t:Nat):ev fr (.tmp t)=fr.getD t ud:=rfl
theorem CG(fr:List DV)(u:Value):ev fr (.const u)=cv u:=rfl
theorem Gy(fr:List DV)(f:FuncId):ev fr (.func f)= .v (.func (.func f) #[] #[]):=rfl
theorem G6(fr:List DV)(t:Nat)(d:DV):pt fr (some t) d=fr.set t d:=rfl
theorem Ha(fr:List DV)(d:DV):pt fr none d=fr:=rfl
theorem JQ(k:IntKind)(n:Int):cv (.int k n)= .v (.int k n):=rfl
theorem Hr(b:Bool):cv (.bool b)= .v (.bool b):=rfl
theorem JO(s:ByteArray):cv (.string s)= .v (.string s):=rfl
theorem Nv:cv (.slice none 0 0)= .sl 0 true []:=rfl
theorem J1:cv (.nilIface)= .v .nilIface:=rfl
theorem My:cv (.nilFunc)= .v .nilFunc:=rfl
theorem zn:rM (.str)=false:=rfl
theorem Dj(fs:List (Nat×Nat×Bool))(n:Nat):rM (.st fs n)=false:=rfl
theorem Eh:tE (.str)=false:=rfl
theorem Df(k:IntKind):tE (.int k)=true:=rfl
theorem Hu(e s b:Nat)(i:Bool):tE (.sl e s b i)=false:=rfl
theorem xw:oY (.str)=true:=rfl
theorem Bf(e s b:Nat)(i:Bool):oY (.sl e s b i)=true:=rfl
theorem J3(u:Value):vz (.v u)=true:=rfl
theorem Gr(s:Nat)(f:Bool)(xs:List DV):vz (.sl s f xs)=true:=rfl
theorem Iw(u:Value):gu (.v u)=true:=rfl
theorem BZ(s:Nat)(f:Bool)(xs:List DV):gu (.sl s f xs)=true:=rfl
theorem zF(ds:List DV):gu (.agg ds)=ds.all vz:=rfl
theorem Hi(t:Nat):zq (.tmp t)=false:=rfl
theorem Aj(u:Value):zq (.const u)=true:=rfl
theorem DA:eR []=some []:=rfl
theorem L0(u:Value)(ds:List DV):eR (.v u::ds)=(eR ds).map (u::·):=rfl
theorem zI(fs:List (Nat×Nat×Bool))(ds:List DV):lg fs ds []=some ds:=rfl
def YX(p:Option (Nat×Nat×Bool))(fs:List (Nat×Nat×Bool))(d:DV)(ds:List DV)(rest:List (Nat×DV)):Option (List DV):=match p with
 |none=>none
 |some (off,sz,_)=>if eK d&&(cd d).length==sz&&decide (off+sz≤ds.length)then lg fs (gr ds off (cd d)) rest else none
theorem xJ(fs:List (Nat×Nat×Bool))(ds:List DV)(i:Nat)(d:DV)(rest:List (Nat×DV)):lg fs ds ((i,d)::rest)=YX (fs[i]?) fs d ds rest:=by rw[lg];unfold YX;cases fs[i]? <;>rfl
theorem XL(off sz:Nat)(ag:Bool)(fs:List (Nat×Nat×Bool))(d:DV)(ds:List DV)(rest:List (Nat×DV)):YX (some (off,sz,ag)) fs d ds rest=if eK d&&(cd d).length==sz&&decide (off+sz≤ds.length)then lg fs (gr ds off (cd d)) rest else none:=rfl
theorem AN(s:Nat)(ds:List DV):oc s ds []=some ds:=rfl
theorem yI(s:Nat)(ds:List DV)(i:Nat)(d:DV)(rest:List (Nat×DV)):oc s ds ((i,d)::rest)=if eK d&&(cd d).length==s&&decide (i<ds.length)then oc s (ds.set i d) rest else none:=rfl
theorem xM(ds:List DV)(o:Nat):gr ds o []=ds:=rfl
theorem vr(ds:List DV)(o:Nat)(c:DV)(cs:List DV):gr ds o (c::cs)=gr (ds.set o c) (o+1) cs:=rfl
theorem BS(d:DV)(n:Nat)(y:DV):rJ d 0 n n y=some y:=by simp[rJ]
theorem zA(ds:List DV)(o n s:Nat)(y:DV):rJ (.agg ds) o n s y=if o=0∧n=s then some y else some (.agg (gr ds o (cd y))):=rfl
theorem Ex(k:Nat)(x:Ob)(t:List (Nat×Ob))(p:Nat×Ob):rI ((k,x)::t) k p=p::t:=by simp[rI]
theorem Mw{k n:Nat}(h:¬k=n)(x:Ob)(t:List (Nat×Ob))(p:Nat×Ob):rI ((k,x)::t) n p=(k,x)::rI t n p:=by simp[rI,h]
theorem DE(k:IntKind):sameKind .add k k=true:=by simp[sameKind]
theorem D2(k:IntKind):sameKind .sub k k=true:=by simp[sameKind]
theorem Dl(k:IntKind):sameKind .mul k k=true:=by simp[sameKind]
theorem Dm(k:IntKind):sameKind .quo k k=true:=by simp[sameKind]
theorem B8(k:IntKind):sameKind .rem k k=true:=by simp[sameKind]
theorem CT(k:IntKind):sameKind .and k k=true:=by simp[sameKind]
theorem Et(k:IntKind):sameKind .xor k k=true:=by simp[sameKind]
theorem D5(k:IntKind):sameKind .eql k k=true:=by simp[sameKind]
theorem DF(k:IntKind):sameKind .neq k k=true:=by simp[sameKind]
theorem Ei(k:IntKind):sameKind .lss k k=true:=by simp[sameKind]
theorem DQ(k:IntKind):sameKind .leq k k=true:=by simp[sameKind]
theorem B6(k:IntKind):sameKind .gtr k k=true:=by simp[sameKind]
theorem ED(k:IntKind):sameKind .geq k k=true:=by simp[sameKind]
theorem DO(k k':IntKind):sameKind .shr k k'=true:=rfl
theorem vI{α:Type}(a:α):List.replicate 0 a=[]:=rfl
theorem vF{α:Type}(n:Nat)(a:α):List.replicate (n+1) a=a::List.replicate n a:=rfl
theorem Pu{α:Type}(a b:α)(l:List α):(a::l).set 0 b=b::l:=rfl
theorem Q2{α:Type}(a b:α)(l:List α)(n:Nat):(a::l).set (n+1) b=a::l.set n b:=rfl
theorem Y3(live:List Nat)(fr:List DV):wk live fr=fu (wy fr 0 live):=rfl
theorem Hx(i:Nat)(js:List Nat):wy [] i js=[]:=rfl
theorem Ra(d:DV)(ds:List DV)(i:Nat):wy (d::ds) i []= .any::wy ds (i+1) []:=rfl
theorem PN(d:DV)(ds:List DV)(i j:Nat)(js:List Nat):wy (d::ds) i (j::js)=if i=j then d::wy ds (i+1) js else .any::wy ds (i+1) (j::js):=rfl
theorem C4(fr:List DV):mm fr []=fr:=rfl
theorem BV(fr:List DV)(i:Nat)(d:DV)(us:List (Nat×DV)):mm fr ((i,d)::us)=mm (fr.set i d) us:=rfl
theorem H9{α:Type}(l:List α):List.append [] l=l:=rfl
theorem En{α:Type}(a:α)(l m:List α):List.append (a::l) m=a::List.append l m:=rfl
theorem HO(w0:W0)(fr:List DV)(n:Nat)(F:DV→Prop):Gw w0 fr (.tmp n) F=F (ev fr (.tmp n)):=rfl
theorem Ck(w0:W0)(fr:List DV)(b:Nat)(F:DV→Prop):Gw w0 fr (.global b) F=rz w0 b F:=rfl
theorem Sw{P:Program}{w0:W0}{fr:List DV}{S:St}{K:DV→St→Prop}(x:Operand):aJ P w0 (.move x) fr S K=(K (ev fr x) S):=rfl
theorem LR{P:Program}{w0:W0}{fr:List DV}{S:St}{K:DV→St→Prop}(x:Operand):aJ P w0 (.assign x) fr S K=(K (ev fr x) S):=rfl
theorem SP{P:Program}{w0:W0}{fr:List DV}{S:St}{K:DV→St→Prop}(c a b:Operand):aJ P w0 (.pick c a b) fr S K=(jw (ev fr c) (ev fr a) (ev fr b) (K · S)):=rfl
theorem TN{P:Program}{w0:W0}{fr:List DV}{S:St}{K:DV→St→Prop}(t:TypeId)(x:Operand):aJ P w0 (.load t x) fr S K=(bR (tk P t) S (ev fr x) (K · S)):=rfl
theorem Bw{P:Program}{w0:W0}{fr:List DV}{S:St}{K:DV→St→Prop}(t:TypeId)(x:Operand)(f:Nat):aJ P w0 (.fieldAddr t x f) fr S K=(ij (tk P t) f (ev fr x) (K · S)):=rfl
theorem BC{P:Program}{w0:W0}{fr:List DV}{S:St}{K:DV→St→Prop}(t:TypeId)(x i:Operand):aJ P w0 (.indexAddr t x i) fr S K=(Gw w0 fr x fun d=>aG (tk P t) d (ev fr i) (K · S)):=rfl
theorem Gv{P:Program}{w0:W0}{fr:List DV}{S:St}{K:DV→St→Prop}(x:Operand)(i:Nat):aJ P w0 (.extract x i) fr S K=(dV i (ev fr x) (K · S)):=rfl
theorem CZ{P:Program}{w0:W0}{fr:List DV}{S:St}{K:DV→St→Prop}(x:Operand):aJ P w0 (.nilCheck x) fr S K=(notNil (ev fr x)=true∧K (ev fr x) S):=rfl
theorem OR{P:Program}{w0:W0}{fr:List DV}{S:St}{K:DV→St→Prop}(b:BinOp)(t:TypeId)(x y:Operand)(t':TypeId):aJ P w0 (.binOp b t x y t') fr S K=(eO (iS y) (mu b (tk P t) (ev fr x) (K · S)) (ll P b t (zq x) (zq y) (ev fr x) (ev fr y) (K · S))):=by simp only[aJ];unfold eO;cases iS y <;>rfl
theorem UO{P:Program}{w0:W0}{fr:List DV}{S:St}{K:DV→St→Prop}(b:UnOp)(t:TypeId)(x:Operand):aJ P w0 (.unOp b t x) fr S K=(Hy b (ev fr x) (K · S)):=rfl
theorem GU{P:Program}{w0:W0}{fr:List DV}{S:St}{K:DV→St→Prop}(s d:TypeId)(x:Operand):aJ P w0 (.convert s d x) fr S K=(jK (tk P s) (tk P d) (tk P (dJ P s)) (tk P (dJ P d)) S (ev fr x) (K · S)):=rfl
theorem Qs{P:Program}{w0:W0}{fr:List DV}{S:St}{K:DV→St→Prop}(t:TypeId)(x:Operand):aJ P w0 (.makeInterface t x) fr S K=(rM (tk P t)=false∧shr S (ev fr x) fun d S=>K (.jQ t d) S):=rfl
theorem Q4{P:Program}{w0:W0}{fr:List DV}{S:St}{K:DV→St→Prop}(t:TypeId)(parts:List (Nat×Operand)):aJ P w0 (.build t parts.toArray) fr S K=(gP S (parts.map fun p=>ev fr p.2) fun ds S=>gA P t ((parts.map (·.1)).zip ds) (K · S)):=rfl
theorem yn{P:Program}{w0:W0}{fr:List DV}{S:St}{K:DV→St→Prop}(t:TypeId)(len:Nat)(parts:List (Nat×Operand)):aJ P w0 (.buildSlice t len parts.toArray) fr S K=(gP S (parts.map fun p=>ev fr p.2) fun ds S=>aR (tk P t) (zD P (dJ P t)) len ((parts.map (·.1)).zip ds) (K · S)):=rfl
theorem CB{P:Program}{w0:W0}{fr:List DV}{S:St}{K:DV→St→Prop}(fn:Fn)(a b:List Operand):aJ P w0 (.makeFunc fn a.toArray b.toArray) fr S K=(nq fn (a.map (ev fr)) (b.map (ev fr)) (K · S)):=rfl
theorem Qo{P:Program}{w0:W0}{fr:List DV}{S:St}{K:DV→St→Prop}(t:TypeId)(x:Operand)(lo hi mx:Option Operand):aJ P w0 (.slice t x lo hi mx) fr S K=((mx.isSome=true→hi.isSome=true)∧ir (tk P t) S (ev fr x) (lo.map (ev fr)) (hi.map (ev fr)) (mx.map (ev fr)) K):=rfl
theorem VZ{P:Program}{w0:W0}{fr:List DV}{S:St}{K:DV→St→Prop}(t:TypeId)(x:Operand):aJ P w0 (.box t x) fr S K=(eK (ev fr x)=true∧EJ S (ev fr x) K):=rfl
theorem P6{P:Program}{w0:W0}{fr:List DV}{S:St}{K:DV→St→Prop}(t:TypeId):aJ P w0 (.alloc t) fr S K=(eK (zD P t)=true∧EJ S (zD P t) K):=rfl
theorem Py{P:Program}{w0:W0}{fr:List DV}{S:St}{K:DV→St→Prop}(t:TypeId)(x y:Operand):aJ P w0 (.store t x y) fr S K=((P.info? t).isSome=true∧fK (P.cellsOf t) S (ev fr x) (ev fr y) (K ud)):=rfl
theorem Ar{P:Program}{w0:W0}{fr:List DV}{S:St}{K:DV→St→Prop}(t:TypeId)(x y:Operand):aJ P w0 (.makeSlice t x y) fr S K=(fN (tk P t) (zD P (dJ P t)) (ev fr x) (ev fr y) S K):=rfl
theorem VV{P:Program}{w0:W0}{fr:List DV}{S:St}{K:DV→St→Prop}(x:Operand)(t:TypeId):aJ P w0 (.call ⟨.builtin .len, #[x], #[t]⟩) fr S K=(oX (tk P t) (ev fr x) (K · S)):=rfl
theorem VL{P:Program}{w0:W0}{fr:List DV}{S:St}{K:DV→St→Prop}(x:Operand)(t:TypeId):aJ P w0 (.call ⟨.builtin .cap, #[x], #[t]⟩) fr S K=(rV (tk P t) (ev fr x) (K · S)):=rfl
theorem Ko{P:Program}{w0:W0}{fr:List DV}{S:St}{K:DV→St→Prop}(x y:Operand)(t t':TypeId):aJ P w0 (.call ⟨.builtin .append, #[x,y], #[t,t']⟩) fr S K=(eO (tf (ev fr x)) (eO (tE (tk P t')) (rT (tk P t) (zD P (dJ P t)) S (ev fr x) (ev fr y) K) (rG (tk P t) (tk P t') S (ev fr x) (ev fr y) K)) (eO (tE (tk P t')) (lV (tk P t) (zD P (dJ P t)) S (ev fr x) (ev fr y) K) (lU (tk P t) (tk P t') S (ev fr x) (ev fr y) K))):=by simp only[aJ];unfold eO;cases tf (ev fr x) <;>cases tE (tk P t') <;>rfl
theorem TC{P:Program}{w0:W0}{fr:List DV}{S:St}{K:DV→St→Prop}(x y:Operand)(t t':TypeId):aJ P w0 (.call ⟨.builtin .copy, #[x,y], #[t,t']⟩) fr S K=(pY (tk P t) S (ev fr x) (ev fr y) K):=rfl
theorem Qc{P:Program}{w0:W0}{fr:List DV}{S:St}{K:DV→St→Prop}(x:Operand)(t:TypeId):aJ P w0 (.call ⟨.builtin .clear, #[x], #[t]⟩) fr S K=(mU (tk P t) (zD P (dJ P t)) S (ev fr x) K):=rfl
theorem XG{P:Program}{w0:W0}{fr:List DV}{S:St}{K:DV→St→Prop}(x y:Operand)(ts:Array TypeId):aJ P w0 (.call ⟨.builtin .min, #[x,y],ts⟩) fr S K=(r9 (ev fr x) (ev fr y) (K · S)):=rfl
theorem Wa{P:Program}{w0:W0}{fr:List DV}{S:St}{K:DV→St→Prop}(x y:Operand)(ts:Array TypeId):aJ P w0 (.call ⟨.builtin .max, #[x,y],ts⟩) fr S K=(rW (ev fr x) (ev fr y) (K · S)):=rfl
theorem TA{P:Program}{w0:W0}{fr:List DV}{S:St}{K:DV→St→Prop}(cal:Operand)(a:List Operand)(ts:Array TypeId):aJ P w0 (.call ⟨.value cal,a.toArray,ts⟩) fr S K=(p7 P w0 (ev fr cal) (a.map (ev fr)) S K):=rfl
theorem MB{P:Program}{w0:W0}{fr:List DV}{S:St}{K:DV→St→Prop}(r:Operand)(name:String)(a:List Operand)(ts:Array TypeId):aJ P w0 (.call ⟨.invoke r name,a.toArray,ts⟩) fr S K=(tG P (ev fr r) name fun f d=>iG S (d::a.map (ev fr)) fun ds S=>@AC P w0 f ds S ⟨K⟩):=rfl
theorem Kn{P:Program}{w0:W0}{fr:List DV}{S:St}{K:DV→St→Prop}(t:TypeId)(x y:Operand)(ok:Bool):aJ P w0 (.lookup t x y ok) fr S K=(dv (sk P t) S (ev fr x) (ev fr y) ok (K · S)):=rfl
theorem A1{P:Program}{w0:W0}{fr:List DV}{S:St}{K:DV→St→Prop}(t:TypeId)(x y z:Operand):aJ P w0 (.mapUpdate t x y z) fr S K=(j7 (sk P t) S (ev fr x) (ev fr y) (ev fr z) (K ud)):=rfl
theorem F2{P:Program}{w0:W0}{fr:List DV}{S:St}{K:DV→St→Prop}(t:TypeId)(r:Option Operand):aJ P w0 (.makeMap t r) fr S K=(jD (sk P t) r S K):=rfl
theorem TW{P:Program}{w0:W0}{fr:List DV}{S:St}{K:DV→Prop}(x:Operand):aF P w0 (.move x) fr S K=(K (ev fr x)):=rfl
theorem J7{P:Program}{w0:W0}{fr:List DV}{S:St}{K:DV→Prop}(x:Operand):aF P w0 (.assign x) fr S K=(K (ev fr x)):=rfl
theorem T8{P:Program}{w0:W0}{fr:List DV}{S:St}{K:DV→Prop}(c a b:Operand):aF P w0 (.pick c a b) fr S K=(jw (ev fr c) (ev fr a) (ev fr b) K):=rfl
theorem Sk{P:Program}{w0:W0}{fr:List DV}{S:St}{K:DV→Prop}(t:TypeId)(x:Operand):aF P w0 (.load t x) fr S K=(bR (tk P t) S (ev fr x) K):=rfl
theorem zJ{P:Program}{w0:W0}{fr:List DV}{S:St}{K:DV→Prop}(t:TypeId)(x:Operand)(f:Nat):aF P w0 (.fieldAddr t x f) fr S K=(ij (tk P t) f (ev fr x) K):=rfl
theorem Ab{P:Program}{w0:W0}{fr:List DV}{S:St}{K:DV→Prop}(t:TypeId)(x i:Operand):aF P w0 (.indexAddr t x i) fr S K=(Gw w0 fr x fun d=>aG (tk P t) d (ev fr i) K):=rfl
theorem GV{P:Program}{w0:W0}{fr:List DV}{S:St}{K:DV→Prop}(x:Operand)(i:Nat):aF P w0 (.extract x i) fr S K=(dV i (ev fr x) K):=rfl
theorem D4{P:Program}{w0:W0}{fr:List DV}{S:St}{K:DV→Prop}(x:Operand):aF P w0 (.nilCheck x) fr S K=(notNil (ev fr x)=true∧K (ev fr x)):=rfl
theorem OF{P:Program}{w0:W0}{fr:List DV}{S:St}{K:DV→Prop}(b:BinOp)(t:TypeId)(x y:Operand)(t':TypeId):aF P w0 (.binOp b t x y t') fr S K=(iS y=false∧ll P b t (zq x) (zq y) (ev fr x) (ev fr y) K):=rfl
theorem U8{P:Program}{w0:W0}{fr:List DV}{S:St}{K:DV→Prop}(b:UnOp)(t:TypeId)(x:Operand):aF P w0 (.unOp b t x) fr S K=(Hy b (ev fr x) K):=rfl
theorem HA{P:Program}{w0:W0}{fr:List DV}{S:St}{K:DV→Prop}(s d:TypeId)(x:Operand):aF P w0 (.convert s d x) fr S K=(iW (tk P s) (tk P d) (ev fr x) K):=rfl
theorem C0{P:Program}{w0:W0}{fr:List DV}{S:St}{K:DV→Prop}(fn:Fn)(a b:List Operand):aF P w0 (.makeFunc fn a.toArray b.toArray) fr S K=(nq fn (a.map (ev fr)) (b.map (ev fr)) K):=rfl
theorem PH{P:Program}{w0:W0}{fr:List DV}{S:St}{K:DV→Prop}(t:TypeId)(x:Operand)(lo hi mx:Option Operand):aF P w0 (.slice t x lo hi mx) fr S K=((mx.isSome=true→hi.isSome=true)∧vz (ev fr x)=true∧fx (tk P t) (ev fr x) (lo.map (ev fr)) (hi.map (ev fr)) (mx.map (ev fr)) K):=rfl
theorem N3{P:Program}{w0:W0}{fr:List DV}{S:St}{K:DV→Prop}(t:TypeId)(parts:List (Nat×Operand)):aF P w0 (.build t parts.toArray) fr S K=((parts.map fun p=>ev fr p.2).all gu=true∧gA P t ((parts.map (·.1)).zip (parts.map fun p=>ev fr p.2)) K):=rfl
theorem yE{P:Program}{w0:W0}{fr:List DV}{S:St}{K:DV→Prop}(t:TypeId)(len:Nat)(parts:List (Nat×Operand)):aF P w0 (.buildSlice t len parts.toArray) fr S K=((parts.map fun p=>ev fr p.2).all gu=true∧aR (tk P t) (zD P (dJ P t)) len ((parts.map (·.1)).zip (parts.map fun p=>ev fr p.2)) K):=rfl
theorem WL{P:Program}{w0:W0}{fr:List DV}{S:St}{K:DV→Prop}(x:Operand)(t:TypeId):aF P w0 (.call ⟨.builtin .len, #[x], #[t]⟩) fr S K=(oX (tk P t) (ev fr x) K):=rfl
theorem WO{P:Program}{w0:W0}{fr:List DV}{S:St}{K:DV→Prop}(x y:Operand)(ts:Array TypeId):aF P w0 (.call ⟨.builtin .min, #[x,y],ts⟩) fr S K=(r9 (ev fr x) (ev fr y) K):=rfl
theorem VO{P:Program}{w0:W0}{fr:List DV}{S:St}{K:DV→Prop}(x y:Operand)(ts:Array TypeId):aF P w0 (.call ⟨.builtin .max, #[x,y],ts⟩) fr S K=(rW (ev fr x) (ev fr y) K):=rfl
theorem Jd{P:Program}{w0:W0}{fr:List DV}{S:St}{K:DV→Prop}(r:Operand)(name:String)(a:List Operand)(ts:Array TypeId):aF P w0 (.call ⟨.invoke r name,a.toArray,ts⟩) fr S K=(tG P (ev fr r) name fun f d=>nh P w0 (.v (.func (.func f) #[] #[])) (d::a.map (ev fr)) S K):=rfl
theorem SY{P:Program}{w0:W0}{fr:List DV}{S:St}{K:DV→Prop}(cal:Operand)(a:List Operand)(ts:Array TypeId):aF P w0 (.call ⟨.value cal,a.toArray,ts⟩) fr S K=(nh P w0 (ev fr cal) (a.map (ev fr)) S K):=rfl
attribute [go_sem ↓] Sw LR SP TN Bw BC Gv CZ OR UO GU Qs Q4 yn CB Qo VZ P6 Py Ar VV VL Ko TC Qc XG Wa TA MB Kn A1 F2 TW
attribute [go_sem ↓] J7 T8 Sk zJ Ab GV D4 OF U8 HA C0 PH N3 yE WL WO VO Jd SY
attribute [go_sem] C6 xm DH Ep si rY vu uv AX El vH BN rq Am G7 AP Iz GW Ae BR uL xk J9
attribute [go_sem] CG Gy G6 Ha JQ Hr JO Nv J1 My zn Dj Eh Df Hu
attribute [go_sem] xw Bf J3 Gr Iw BZ zF Hi Aj DA L0 zI xJ XL AN
attribute [go_sem] yI xM vr BS zA Ex Mw DE D2 Dl Dm B8 CT Et D5 DF Ei DQ B6 ED DO vI vF Pu Q2 Y3 Hx Ra PN C4 BV H9 En HO
attribute [go_sem] Ck
section
variable {P:Program} {w0:W0} {K:DV→Prop} {A B:Prop} {F G:List DV→Prop}
/- Tests:what is known is gone by;what can't be known parts the fU. -/
theorem IS:gg (.v (.bool true)) A B=A:=by simp[gg]
theorem Mj:gg (.v (.bool false)) A B=B:=by simp[gg]
theorem I6(p:Prop)[Decidable p]:gg (.v (.bool (decide p))) A B=((p→A)∧(¬p→B)):=by simp[gg]
theorem KN(b:Bool):gg (.v (.bool (!b))) A B=gg (.v (.bool b)) B A:=by
 simp only[gg,Bool.not_eq_eq_eq_not,Bool.not_true,Bool.not_false]
 exact propext ⟨fun h=>⟨h.2,h.1⟩,fun h=>⟨h.2,h.1⟩⟩
theorem Mc(b:Bool):gg (.v (.bool b)) A B=((b=true→A)∧(b=false→B)):=rfl
theorem Ly(a b:DV):jw (.v (.bool true)) a b K=K a:=by simp[jw]
theorem Kz(a b:DV):jw (.v (.bool false)) a b K=K b:=by simp[jw]
/- A choice between what is known is the test itself. -/
theorem Q5(t:Nat)(fr:List DV):gD t (.v (.bool true)) fr true F G=F (fr.set t (.v (.bool true))):=by simp[gD]
theorem Pz(t:Nat)(fr:List DV):gD t (.v (.bool true)) fr false F G=G (fr.set t (.v (.bool true))):=by simp[gD]
theorem Pn(t:Nat)(fr:List DV):gD t (.v (.bool false)) fr true F G=G (fr.set t (.v (.bool false))):=by simp[gD]
theorem Qd(t:Nat)(fr:List DV):gD t (.v (.bool false)) fr false F G=F (fr.set t (.v (.bool false))):=by simp[gD]
theorem Qq(p:Prop)[Decidable p](t:Nat)(fr:List DV):gD t (.v (.bool (decide p))) fr true F G=((p→F (fr.set t (.v (.bool true))))∧(¬p→G (fr.set t (.v (.bool false))))):=by simp[gD]
theorem Oz(p:Prop)[Decidable p](t:Nat)(fr:List DV):gD t (.v (.bool (decide p))) fr false F G=((p→G (fr.set t (.v (.bool true))))∧(¬p→F (fr.set t (.v (.bool false))))):=by
 simp only[gD,decide_eq_false_iff_not,Bool.not_false,decide_eq_true_eq]
 exact propext ⟨fun h=>⟨h.2,h.1⟩,fun h=>⟨h.2,h.1⟩⟩
theorem FT(b:Bool)(t:Nat)(fr:List DV):gD t (.v (.bool b)) fr true F G=((b=true→F (fr.set t (.v (.bool true))))∧(b=false→G (fr.set t (.v (.bool false))))):=by simp[gD]
theorem N1(b:Bool)(t:Nat)(fr:List DV):gD t (.v (.bool b)) fr false F G=((b=true→G (fr.set t (.v (.bool true))))∧(b=false→F (fr.set t (.v (.bool false))))):=by
 simp only[gD,Bool.not_false]
 exact propext ⟨fun h=>⟨h.2,h.1⟩,fun h=>⟨h.2,h.1⟩⟩
end
attribute [go_sem ↓] IS Mj I6 KN Ly Kz Q5 Pz Pn Qd Qq Oz
attribute [go_sem ↓ low] Mc FT N1
attribute [go_sem] List.length_cons List.length_nil List.length_map List.cons_append List.nil_append List.map_cons List.map_nil List.zip_cons_cons List.zip_nil_right
section
variable {P:Program} {w0:W0} {ops:Array Oper} {K:List DV→St→Prop} {fr:List DV} {S:St} {rest:List Oper} {dst:Option Tmp} {op:Op} {ty:TypeId} {pos:String} {aft:Array Edge}
theorem HR:yD P w0 ops K [] fr S=K fr S:=rfl
theorem DN:yD P w0 ops K (⟨dst,op,ty,pos,aft,none⟩::rest) fr S=aJ P w0 op fr S fun d S'=>yD P w0 ops K rest (pt fr dst d) S':=rfl
theorem Cs(j:Nat)(want:Bool):yD P w0 ops K (⟨dst,op,ty,pos,aft,some (j,want)⟩::rest) fr S=gK ((ops[j]?).bind (·.dst)) fr want (fun fr=>aJ P w0 op fr S fun d S'=>yD P w0 ops K rest (pt fr dst d) S') (fun fr=>yD P w0 ops K rest (pt fr dst ud) S):=xV _ _ _ _ _ _
end
def QC(P:Program)(w0:W0)(f:FuncId)(ds:List DV)(S:St)[K:Cn (DV→Prop)]:Prop:=∃d,aa P w0 f ds S (fun d' S'=>d'=d∧S'=S)∧K.k d
theorem OT{P:Program}{w0:W0}(f:FuncId)(a cap:Array Value)(ds:List DV)(S:St)(K:DV→Prop):nh P w0 (.v (.func (.func f) a cap)) ds S K=(a.size=0∧okF P f=true∧cap.toList.all (fun u=>u.oneCell')=true∧ds.all gu=true∧@QC P w0 f (ds++cap.toList.map .v) S ⟨K⟩):=rfl
attribute [go_sem ↓] HR DN Cs OT j4 tx nX kn uz wc
attribute [go_sem] List.getD_cons_succ List.getD_cons_zero List.getElem?_cons_succ List.getElem?_cons_zero List.getElem?_toArray Option.bind_some List.all_cons List.all_nil Bool.and_self Bool.and_true
attribute [go_sem] Nat.zero_add true_and and_true List.drop_zero List.drop_succ_cons List.take_succ_cons List.take_zero Option.map_some Option.map_none Option.isSome_some Option.isSome_none Option.isNone_none Option.isNone_some
attribute [go_sem] Bool.false_eq_true if_true if_false or_true true_or false_or or_false forall_const false_implies imp_self Bool.not_true Bool.not_false beq_self_eq_true decide_eq_true_eq decide_eq_false_iff_not decide_true decide_false
attribute [go_sem] Int.toNat_natCast Int.natCast_nonneg Int.ofNat_lt Int.ofNat_le Int.natCast_inj List.getElem?_map Option.map_eq_some_iff forall_exists_index and_imp forall_apply_eq_imp_iff₂ forall_eq_apply_imp_iff ne_eq not_false_eq_true not_true_eq_false
attribute [go_sem] List.size_toArray List.append_nil Int.le_refl Nat.le_refl List.drop_nil List.take_nil Int.toNat_zero Int.natCast_zero Int.natCast_one Int.cast_ofNat_Int Bool.or_true Bool.or_false Bool.true_or Bool.false_or Bool.false_and Bool.and_false Bool.true_and List.isEmpty_nil List.isEmpty_cons
attribute [go_sem] dI dU dY dB dS Nat.lt_add_one forall_eq forall_eq' true_implies implies_true Option.some.injEq
structure FN{α:Type}(l:List (Nat×α)) where
 m:Nat
 h:iX l m
def FN.n{α:Type}{l:List (Nat×α)}(b:FN l):Nat:=b.m
theorem sH{α:Type}(l:List (Nat×α))(F:Nat→Prop):(∀b,iX l b→F b)=∀b:FN l,F b.n:=propext ⟨fun h b=>h b.n b.h,fun h b hb=>h ⟨b,hb⟩⟩
theorem ng{α:Type}:∀{l:List (Nat×α)} {b:Nat},iX l b→lk l b=none
 |[],_,_=>rfl
 |(k,x)::t,b,h=>by
  simp only[iX]at h
  unfold lk
  rw[if_neg (by first|exact fun e=>h.1 e|exact fun e=>h.1 e.symm)]
  exact ng (by first|exact h.2|exact h.2.2)
theorem jy{α:Type}{l:List (Nat×α)}(b:FN l):lk l b.n=none:=ng b.h
theorem Qf{α:Type}{l:List (Nat×α)}(b:FN l)(c:Nat)(h:(lk l c).isSome=true):(b.n=c)=False:=by
 refine eq_false fun e=>?_
 subst e;rw[show lk l b.n=none from ng b.h]at h;cases h
theorem Jm{α:Type}{l:List (Nat×α)}(b:FN l)(c:Nat)(h:(lk l c).isSome=true):(c=b.n)=False:=by
 refine eq_false fun e=>?_
 subst e;rw[show lk l b.n=none from ng b.h]at h;cases h
section
variable {S:St} {K:DV→St→Prop}
theorem Ub(d:DV):EJ S d K=∀b:FN S.box,K (.v (.pointer (some ⟨b.n,0,none⟩))) ⟨(b.n,cd d)::S.box,S.acc⟩:=sH S.box fun b=>K (.v (.pointer (some ⟨b,0,none⟩))) ⟨(b,cd d)::S.box,S.acc⟩
theorem Nr(ds:List DV):EJ S (.agg ds) K=∀b:FN S.box,K (.v (.pointer (some ⟨b.n,0,none⟩))) ⟨(b.n,ds)::S.box,S.acc⟩:=Ub _
theorem Se(u:Value):EJ S (.v u) K=∀b:FN S.box,K (.v (.pointer (some ⟨b.n,0,none⟩))) ⟨(b.n,[.v u])::S.box,S.acc⟩:=Ub _
theorem QQ(s:Nat)(f:Bool)(xs:List DV):EJ S (.sl s f xs) K=∀b:FN S.box,K (.v (.pointer (some ⟨b.n,0,none⟩))) ⟨(b.n,[.sl s f xs])::S.box,S.acc⟩:=Ub _
end
theorem IG(kk:KK)(z:DV)(S:St)(K:DV→St→Prop):jD (some (kk,z)) none S K=∀l:FN S.acc,K (.mp l.n) ⟨S.box,(l.n,.xo (.mp kk [] 0))::S.acc⟩:=by
 unfold jD
 simp only[oK,true_and]
 exact sH S.acc fun l=>K (.mp l) ⟨S.box,(l,.xo (.mp kk [] 0))::S.acc⟩
attribute [go_sem ↓] IG
attribute [go_sem ↓] sH Nr Se QQ
attribute [go_sem] Qf Jm Option.isSome_some
noncomputable def pB(P:Prop):Bool:=@decide P (Classical.propDecidable P)
theorem l4{P:Prop}(h:P):pB P=true:=@decide_eq_true _ (Classical.propDecidable _) h
theorem o6{P:Prop}(h:¬P):pB P=false:=@decide_eq_false _ (Classical.propDecidable _) h
theorem tX(P:Prop):(pB P=true)=P:=propext ⟨fun h=>@of_decide_eq_true _ (Classical.propDecidable _) h,l4⟩
theorem FQ(P:Prop):(pB P=false)=¬P:=propext ⟨fun h=>@of_decide_eq_false _ (Classical.propDecidable _) h,o6⟩
theorem W3(P:Prop):(true=pB P)=P:=(propext eq_comm).trans (tX P)
theorem Xr(P:Prop):(false=pB P)=¬P:=(propext eq_comm).trans (FQ P)
theorem YM(P:Prop)[Decidable P]:(true=decide P)=P:=(propext eq_comm).trans decide_eq_true_eq
theorem YY(P:Prop)[Decidable P]:(false=decide P)=¬P:=(propext eq_comm).trans (propext decide_eq_false_iff_not)
theorem JA(P A B:Prop):gg (.v (.bool (pB P))) A B=((P→A)∧(¬P→B)):=by
 show((pB P=true→A)∧(pB P=false→B))=_
 rw[tX,FQ]
theorem Rh(P:Prop)(t:Nat)(fr:List DV)(F G:List DV→Prop):gD t (.v (.bool (pB P))) fr true F G=((P→F (fr.set t (.v (.bool true))))∧(¬P→G (fr.set t (.v (.bool false))))):=by
 rw[FT,tX,FQ]
theorem KR(P:Prop):(!pB P)=pB (¬P):=by
 by_cases h:P
 ·rw[l4 h,o6 (fun k=>k h)];rfl
 ·rw[o6 h,l4 h];rfl
theorem Oj{P Q:Prop}(h:P↔Q):pB P=pB Q:=by rw[propext h]
attribute [go_sem ↓] JA Rh
attribute [go_sem] tX FQ W3 Xr YM YY KR
theorem C5{α β:Type}(f:α→β)(n:Nat)(l:List α):List.take n (List.map f l)=List.map f (List.take n l):=List.map_take.symm
theorem Es{α β:Type}(f:α→β)(n:Nat)(l:List α):List.drop n (List.map f l)=List.map f (List.drop n l):=List.map_drop.symm
theorem H6{α β:Type}(f:α→β)(a b:List α):List.map f a++List.map f b=List.map f (a++b):=List.map_append.symm
attribute [go_sem] C5 Es H6 List.length_append List.length_take List.length_drop List.take_length List.drop_length Nat.min_self
theorem Zs(P Q:Prop)[Decidable P]:(decide P=pB Q)=(P↔Q):=propext ⟨fun h=>⟨fun p=>(tX Q).mp (h▸decide_eq_true p),fun q=>of_decide_eq_true (h.trans (l4 q))⟩,fun h=>by
 by_cases p:P
 ·rw[l4 (h.1 p),decide_eq_true p]
 ·rw[o6 (fun q=>p (h.2 q)),decide_eq_false p]⟩
theorem Y7(P Q:Prop):(pB P=pB Q)=(P↔Q):=propext ⟨fun h=>⟨fun p=>(tX Q).mp (h▸l4 p),fun q=>(tX P).mp (h.trans (l4 q))⟩,Oj⟩
theorem Zv(P Q:Prop)[Decidable P][Decidable Q]:(decide P=decide Q)=(P↔Q):=propext decide_eq_decide
attribute [go_sem] Zs Y7 Zv
theorem Pv(P:Prop)[Decidable P]:(!decide P)=decide (¬P):=(decide_not).symm
attribute [go_sem] Pv Bool.not_eq_true' Bool.not_eq_false'
attribute [go_sem] Value.oneCell' false_and and_false and_self List.length_set
attribute [go_sem] Le YI
attribute [go_sem ↓] Jz Cf TD Eb Nt J6 JP
attribute [go_sem ↓] WU Xe It JE P9 Zl Ct CV Kb Lb
attribute [go_sem] BP
attribute [go_sem ↓] zx LB Iv G3 AE Jq Lf Ll NV Kh Rf Jo Lv Lu OX Hk PM IT Mh HC MZ MN Kw MK JW LN KQ JT HL zO x9 OQ KG HQ Gj Hg Ef y5 NA HF Dr Cx CO CD Ec Db Ad Ja IB F4 VP WM Ah EC xQ Wy CR CF Kf B9 Ay Xb Hh Eg DW Ji Gn D7 Sj Gf Hf VW Gx Ds CX DB DR wI JM PF Em F1 CE zT GK F8 Dc GO Ux zW Cu QN Tw Tf OH Jt Qj NX G9 Ci N7 A3 D0 Gs xV Ix On Sx QB YR VS
attribute [go_sem] Ow MH H8 Ga Hd Tu Q9 Mi MW L1 fq pQ Ic NQ KZ Vx OY B5 D3 DL CA yN xA Dq zk xD zH Cw BU
theorem LJ(r:Wm)(l:List DV)(n:Nat)(d:DV):(rc r l).getD (n+16) d=l.getD n d:=rfl
theorem Mf(r:Wm)(l:List DV)(n:Nat)(d:DV):(rc r l).set (n+16) d=rc r (l.set n d):=rfl
theorem Pb(r:Wm)(l:List DV)(n:Nat):(rc r l)[n+16]? =l[n]? :=rfl
theorem JX(a0 a1 a2 a3 a4 a5 a6 a7 a8 a9 bU bZ a12 cB cE cN:DV)(l:List DV)(d:DV):(rc ⟨a0,a1,a2,a3,a4,a5,a6,a7,a8,a9,bU,bZ,a12,cB,cE,cN⟩ l).getD 0 d=a0:=rfl
theorem MI(a0 a1 a2 a3 a4 a5 a6 a7 a8 a9 bU bZ a12 cB cE cN:DV)(l:List DV)(d:DV):(rc ⟨a0,a1,a2,a3,a4,a5,a6,a7,a8,a9,bU,bZ,a12,cB,cE,cN⟩ l).set 0 d=rc ⟨d,a1,a2,a3,a4,a5,a6,a7,a8,a9,bU,bZ,a12,cB,cE,cN⟩ l:=rfl
theorem M5(a0 a1 a2 a3 a4 a5 a6 a7 a8 a9 bU bZ a12 cB cE cN:DV)(l:List DV)(d:DV):(rc ⟨a0,a1,a2,a3,a4,a5,a6,a7,a8,a9,bU,bZ,a12,cB,cE,cN⟩ l).getD 1 d=a1:=rfl
theorem Km(a0 a1 a2 a3 a4 a5 a6 a7 a8 a9 bU bZ a12 cB cE cN:DV)(l:List DV)(d:DV):(rc ⟨a0,a1,a2,a3,a4,a5,a6,a7,a8,a9,bU,bZ,a12,cB,cE,cN⟩ l).set 1 d=rc ⟨a0,d,a2,a3,a4,a5,a6,a7,a8,a9,bU,bZ,a12,cB,cE,cN⟩ l:=rfl
theorem MT(a0 a1 a2 a3 a4 a5 a6 a7 a8 a9 bU bZ a12 cB cE cN:DV)(l:List DV)(d:DV):(rc ⟨a0,a1,a2,a3,a4,a5,a6,a7,a8,a9,bU,bZ,a12,cB,cE,cN⟩ l).getD 2 d=a2:=rfl
theorem L7(a0 a1 a2 a3 a4 a5 a6 a7 a8 a9 bU bZ a12 cB cE cN:DV)(l:List DV)(d:DV):(rc ⟨a0,a1,a2,a3,a4,a5,a6,a7,a8,a9,bU,bZ,a12,cB,cE,cN⟩ l).set 2 d=rc ⟨a0,a1,d,a3,a4,a5,a6,a7,a8,a9,bU,bZ,a12,cB,cE,cN⟩ l:=rfl
theorem Ns(a0 a1 a2 a3 a4 a5 a6 a7 a8 a9 bU bZ a12 cB cE cN:DV)(l:List DV)(d:DV):(rc ⟨a0,a1,a2,a3,a4,a5,a6,a7,a8,a9,bU,bZ,a12,cB,cE,cN⟩ l).getD 3 d=a3:=rfl
theorem Nx(a0 a1 a2 a3 a4 a5 a6 a7 a8 a9 bU bZ a12 cB cE cN:DV)(l:List DV)(d:DV):(rc ⟨a0,a1,a2,a3,a4,a5,a6,a7,a8,a9,bU,bZ,a12,cB,cE,cN⟩ l).set 3 d=rc ⟨a0,a1,a2,d,a4,a5,a6,a7,a8,a9,bU,bZ,a12,cB,cE,cN⟩ l:=rfl
theorem QS(a0 a1 a2 a3 a4 a5 a6 a7 a8 a9 bU bZ a12 cB cE cN:DV)(l:List DV):(rc ⟨a0,a1,a2,a3,a4,a5,a6,a7,a8,a9,bU,bZ,a12,cB,cE,cN⟩ l)[3]? =some a3:=rfl
theorem J2(a0 a1 a2 a3 a4 a5 a6 a7 a8 a9 bU bZ a12 cB cE cN:DV)(l:List DV)(d:DV):(rc ⟨a0,a1,a2,a3,a4,a5,a6,a7,a8,a9,bU,bZ,a12,cB,cE,cN⟩ l).getD 4 d=a4:=rfl
theorem JY(a0 a1 a2 a3 a4 a5 a6 a7 a8 a9 bU bZ a12 cB cE cN:DV)(l:List DV)(d:DV):(rc ⟨a0,a1,a2,a3,a4,a5,a6,a7,a8,a9,bU,bZ,a12,cB,cE,cN⟩ l).set 4 d=rc ⟨a0,a1,a2,a3,d,a5,a6,a7,a8,a9,bU,bZ,a12,cB,cE,cN⟩ l:=rfl
theorem IP(a0 a1 a2 a3 a4 a5 a6 a7 a8 a9 bU bZ a12 cB cE cN:DV)(l:List DV)(d:DV):(rc ⟨a0,a1,a2,a3,a4,a5,a6,a7,a8,a9,bU,bZ,a12,cB,cE,cN⟩ l).getD 5 d=a5:=rfl
theorem Mk(a0 a1 a2 a3 a4 a5 a6 a7 a8 a9 bU bZ a12 cB cE cN:DV)(l:List DV)(d:DV):(rc ⟨a0,a1,a2,a3,a4,a5,a6,a7,a8,a9,bU,bZ,a12,cB,cE,cN⟩ l).set 5 d=rc ⟨a0,a1,a2,a3,a4,d,a6,a7,a8,a9,bU,bZ,a12,cB,cE,cN⟩ l:=rfl
theorem KW(a0 a1 a2 a3 a4 a5 a6 a7 a8 a9 bU bZ a12 cB cE cN:DV)(l:List DV)(d:DV):(rc ⟨a0,a1,a2,a3,a4,a5,a6,a7,a8,a9,bU,bZ,a12,cB,cE,cN⟩ l).getD 6 d=a6:=rfl
theorem Lq(a0 a1 a2 a3 a4 a5 a6 a7 a8 a9 bU bZ a12 cB cE cN:DV)(l:List DV)(d:DV):(rc ⟨a0,a1,a2,a3,a4,a5,a6,a7,a8,a9,bU,bZ,a12,cB,cE,cN⟩ l).set 6 d=rc ⟨a0,a1,a2,a3,a4,a5,d,a7,a8,a9,bU,bZ,a12,cB,cE,cN⟩ l:=rfl
theorem Jl(a0 a1 a2 a3 a4 a5 a6 a7 a8 a9 bU bZ a12 cB cE cN:DV)(l:List DV)(d:DV):(rc ⟨a0,a1,a2,a3,a4,a5,a6,a7,a8,a9,bU,bZ,a12,cB,cE,cN⟩ l).getD 7 d=a7:=rfl
theorem Ni(a0 a1 a2 a3 a4 a5 a6 a7 a8 a9 bU bZ a12 cB cE cN:DV)(l:List DV)(d:DV):(rc ⟨a0,a1,a2,a3,a4,a5,a6,a7,a8,a9,bU,bZ,a12,cB,cE,cN⟩ l).set 7 d=rc ⟨a0,a1,a2,a3,a4,a5,a6,d,a8,a9,bU,bZ,a12,cB,cE,cN⟩ l:=rfl
theorem Qe(a0 a1 a2 a3 a4 a5 a6 a7 a8 a9 bU bZ a12 cB cE cN:DV)(l:List DV):(rc ⟨a0,a1,a2,a3,a4,a5,a6,a7,a8,a9,bU,bZ,a12,cB,cE,cN⟩ l)[7]? =some a7:=rfl
theorem Kl(a0 a1 a2 a3 a4 a5 a6 a7 a8 a9 bU bZ a12 cB cE cN:DV)(l:List DV)(d:DV):(rc ⟨a0,a1,a2,a3,a4,a5,a6,a7,a8,a9,bU,bZ,a12,cB,cE,cN⟩ l).getD 8 d=a8:=rfl
theorem Je(a0 a1 a2 a3 a4 a5 a6 a7 a8 a9 bU bZ a12 cB cE cN:DV)(l:List DV)(d:DV):(rc ⟨a0,a1,a2,a3,a4,a5,a6,a7,a8,a9,bU,bZ,a12,cB,cE,cN⟩ l).set 8 d=rc ⟨a0,a1,a2,a3,a4,a5,a6,a7,d,a9,bU,bZ,a12,cB,cE,cN⟩ l:=rfl
theorem QT(a0 a1 a2 a3 a4 a5 a6 a7 a8 a9 bU bZ a12 cB cE cN:DV)(l:List DV):(rc ⟨a0,a1,a2,a3,a4,a5,a6,a7,a8,a9,bU,bZ,a12,cB,cE,cN⟩ l)[8]? =some a8:=rfl
theorem Me(a0 a1 a2 a3 a4 a5 a6 a7 a8 a9 bU bZ a12 cB cE cN:DV)(l:List DV)(d:DV):(rc ⟨a0,a1,a2,a3,a4,a5,a6,a7,a8,a9,bU,bZ,a12,cB,cE,cN⟩ l).getD 9 d=a9:=rfl
theorem Nl(a0 a1 a2 a3 a4 a5 a6 a7 a8 a9 bU bZ a12 cB cE cN:DV)(l:List DV)(d:DV):(rc ⟨a0,a1,a2,a3,a4,a5,a6,a7,a8,a9,bU,bZ,a12,cB,cE,cN⟩ l).set 9 d=rc ⟨a0,a1,a2,a3,a4,a5,a6,a7,a8,d,bU,bZ,a12,cB,cE,cN⟩ l:=rfl
theorem HT(a0 a1 a2 a3 a4 a5 a6 a7 a8 a9 bU bZ a12 cB cE cN:DV)(l:List DV)(d:DV):(rc ⟨a0,a1,a2,a3,a4,a5,a6,a7,a8,a9,bU,bZ,a12,cB,cE,cN⟩ l).getD 10 d=bU:=rfl
theorem Iq(a0 a1 a2 a3 a4 a5 a6 a7 a8 a9 bU bZ a12 cB cE cN:DV)(l:List DV)(d:DV):(rc ⟨a0,a1,a2,a3,a4,a5,a6,a7,a8,a9,bU,bZ,a12,cB,cE,cN⟩ l).set 10 d=rc ⟨a0,a1,a2,a3,a4,a5,a6,a7,a8,a9,d,bZ,a12,cB,cE,cN⟩ l:=rfl
theorem He(a0 a1 a2 a3 a4 a5 a6 a7 a8 a9 bU bZ a12 cB cE cN:DV)(l:List DV)(d:DV):(rc ⟨a0,a1,a2,a3,a4,a5,a6,a7,a8,a9,bU,bZ,a12,cB,cE,cN⟩ l).getD 11 d=bZ:=rfl
theorem HP(a0 a1 a2 a3 a4 a5 a6 a7 a8 a9 bU bZ a12 cB cE cN:DV)(l:List DV)(d:DV):(rc ⟨a0,a1,a2,a3,a4,a5,a6,a7,a8,a9,bU,bZ,a12,cB,cE,cN⟩ l).set 11 d=rc ⟨a0,a1,a2,a3,a4,a5,a6,a7,a8,a9,bU,d,a12,cB,cE,cN⟩ l:=rfl
theorem G4(a0 a1 a2 a3 a4 a5 a6 a7 a8 a9 bU bZ a12 cB cE cN:DV)(l:List DV)(d:DV):(rc ⟨a0,a1,a2,a3,a4,a5,a6,a7,a8,a9,bU,bZ,a12,cB,cE,cN⟩ l).getD 12 d=a12:=rfl
theorem HY(a0 a1 a2 a3 a4 a5 a6 a7 a8 a9 bU bZ a12 cB cE cN:DV)(l:List DV)(d:DV):(rc ⟨a0,a1,a2,a3,a4,a5,a6,a7,a8,a9,bU,bZ,a12,cB,cE,cN⟩ l).set 12 d=rc ⟨a0,a1,a2,a3,a4,a5,a6,a7,a8,a9,bU,bZ,d,cB,cE,cN⟩ l:=rfl
theorem Ng(a0 a1 a2 a3 a4 a5 a6 a7 a8 a9 bU bZ a12 cB cE cN:DV)(l:List DV):(rc ⟨a0,a1,a2,a3,a4,a5,a6,a7,a8,a9,bU,bZ,a12,cB,cE,cN⟩ l)[12]? =some a12:=rfl
theorem HV(a0 a1 a2 a3 a4 a5 a6 a7 a8 a9 bU bZ a12 cB cE cN:DV)(l:List DV)(d:DV):(rc ⟨a0,a1,a2,a3,a4,a5,a6,a7,a8,a9,bU,bZ,a12,cB,cE,cN⟩ l).getD 13 d=cB:=rfl
theorem F0(a0 a1 a2 a3 a4 a5 a6 a7 a8 a9 bU bZ a12 cB cE cN:DV)(l:List DV)(d:DV):(rc ⟨a0,a1,a2,a3,a4,a5,a6,a7,a8,a9,bU,bZ,a12,cB,cE,cN⟩ l).set 13 d=rc ⟨a0,a1,a2,a3,a4,a5,a6,a7,a8,a9,bU,bZ,a12,d,cE,cN⟩ l:=rfl
theorem Ij(a0 a1 a2 a3 a4 a5 a6 a7 a8 a9 bU bZ a12 cB cE cN:DV)(l:List DV)(d:DV):(rc ⟨a0,a1,a2,a3,a4,a5,a6,a7,a8,a9,bU,bZ,a12,cB,cE,cN⟩ l).getD 14 d=cE:=rfl
theorem Ia(a0 a1 a2 a3 a4 a5 a6 a7 a8 a9 bU bZ a12 cB cE cN:DV)(l:List DV)(d:DV):(rc ⟨a0,a1,a2,a3,a4,a5,a6,a7,a8,a9,bU,bZ,a12,cB,cE,cN⟩ l).set 14 d=rc ⟨a0,a1,a2,a3,a4,a5,a6,a7,a8,a9,bU,bZ,a12,cB,d,cN⟩ l:=rfl
theorem Kg(a0 a1 a2 a3 a4 a5 a6 a7 a8 a9 bU bZ a12 cB cE cN:DV)(l:List DV):(rc ⟨a0,a1,a2,a3,a4,a5,a6,a7,a8,a9,bU,bZ,a12,cB,cE,cN⟩ l)[14]? =some cE:=rfl
theorem Hv(a0 a1 a2 a3 a4 a5 a6 a7 a8 a9 bU bZ a12 cB cE cN:DV)(l:List DV)(d:DV):(rc ⟨a0,a1,a2,a3,a4,a5,a6,a7,a8,a9,bU,bZ,a12,cB,cE,cN⟩ l).getD 15 d=cN:=rfl
theorem Gu(a0 a1 a2 a3 a4 a5 a6 a7 a8 a9 bU bZ a12 cB cE cN:DV)(l:List DV)(d:DV):(rc ⟨a0,a1,a2,a3,a4,a5,a6,a7,a8,a9,bU,bZ,a12,cB,cE,cN⟩ l).set 15 d=rc ⟨a0,a1,a2,a3,a4,a5,a6,a7,a8,a9,bU,bZ,a12,cB,cE,d⟩ l:=rfl
theorem SR(a0 a1 a2 a3 a4 a5 a6 a7 a8 a9 bU bZ a12 cB cE cN:DV)(l:List DV)(i:Nat)(js:List Nat):wy (rc ⟨a0,a1,a2,a3,a4,a5,a6,a7,a8,a9,bU,bZ,a12,cB,cE,cN⟩ l) i js=wy (a0::a1::a2::a3::a4::a5::a6::a7::a8::a9::bU::bZ::a12::cB::cE::cN::l) i js:=rfl
theorem TJ(a0 a1 a2 a3 a4 a5 a6 a7 a8 a9 bU bZ a12 cB cE cN:DV)(l:List DV):fu (a0::a1::a2::a3::a4::a5::a6::a7::a8::a9::bU::bZ::a12::cB::cE::cN::l)=rc ⟨a0,a1,a2,a3,a4,a5,a6,a7,a8,a9,bU,bZ,a12,cB,cE,cN⟩ (fu l):=rfl
theorem UE:fu []=[]:=rfl
theorem U4(a0:DV):fu [a0]=[a0]:=rfl
theorem UU(a0 a1:DV):fu [a0,a1]=[a0,a1]:=rfl
theorem UI(a0 a1 a2:DV):fu [a0,a1,a2]=[a0,a1,a2]:=rfl
theorem SS(a0 a1 a2 a3:DV):fu [a0,a1,a2,a3]=[a0,a1,a2,a3]:=rfl
theorem SZ(a0 a1 a2 a3 a4:DV):fu [a0,a1,a2,a3,a4]=[a0,a1,a2,a3,a4]:=rfl
theorem Uj(a0 a1 a2 a3 a4 a5:DV):fu [a0,a1,a2,a3,a4,a5]=[a0,a1,a2,a3,a4,a5]:=rfl
theorem UM(a0 a1 a2 a3 a4 a5 a6:DV):fu [a0,a1,a2,a3,a4,a5,a6]=[a0,a1,a2,a3,a4,a5,a6]:=rfl
theorem UX(a0 a1 a2 a3 a4 a5 a6 a7:DV):fu [a0,a1,a2,a3,a4,a5,a6,a7]=[a0,a1,a2,a3,a4,a5,a6,a7]:=rfl
theorem Ua(a0 a1 a2 a3 a4 a5 a6 a7 a8:DV):fu [a0,a1,a2,a3,a4,a5,a6,a7,a8]=[a0,a1,a2,a3,a4,a5,a6,a7,a8]:=rfl
theorem Ox(a0 a1 a2 a3 a4 a5 a6 a7 a8 a9:DV):fu [a0,a1,a2,a3,a4,a5,a6,a7,a8,a9]=[a0,a1,a2,a3,a4,a5,a6,a7,a8,a9]:=rfl
theorem O2(a0 a1 a2 a3 a4 a5 a6 a7 a8 a9 bU:DV):fu [a0,a1,a2,a3,a4,a5,a6,a7,a8,a9,bU]=[a0,a1,a2,a3,a4,a5,a6,a7,a8,a9,bU]:=rfl
theorem Oc(a0 a1 a2 a3 a4 a5 a6 a7 a8 a9 bU bZ:DV):fu [a0,a1,a2,a3,a4,a5,a6,a7,a8,a9,bU,bZ]=[a0,a1,a2,a3,a4,a5,a6,a7,a8,a9,bU,bZ]:=rfl
theorem P2(a0 a1 a2 a3 a4 a5 a6 a7 a8 a9 bU bZ a12:DV):fu [a0,a1,a2,a3,a4,a5,a6,a7,a8,a9,bU,bZ,a12]=[a0,a1,a2,a3,a4,a5,a6,a7,a8,a9,bU,bZ,a12]:=rfl
theorem Qk(a0 a1 a2 a3 a4 a5 a6 a7 a8 a9 bU bZ a12 cB:DV):fu [a0,a1,a2,a3,a4,a5,a6,a7,a8,a9,bU,bZ,a12,cB]=[a0,a1,a2,a3,a4,a5,a6,a7,a8,a9,bU,bZ,a12,cB]:=rfl
theorem N2(a0 a1 a2 a3 a4 a5 a6 a7 a8 a9 bU bZ a12 cB cE:DV):fu [a0,a1,a2,a3,a4,a5,a6,a7,a8,a9,bU,bZ,a12,cB,cE]=[a0,a1,a2,a3,a4,a5,a6,a7,a8,a9,bU,bZ,a12,cB,cE]:=rfl
attribute [go_sem] LJ Mf Pb JX MI M5 Km MT L7 Ns Nx QS J2 JY IP Mk KW Lq Jl Ni Qe Kl Je QT Me Nl HT Iq He HP G4 HY Ng HV F0 Ij Ia Kg Hv Gu SR TJ UE U4 UU UI SS SZ Uj UM UX Ua Ox O2 Oc P2 Qk N2
end Aml
namespace Aml
open Go Go.RowKit
def oS(P:Program)(w0:W0)(S:St)(ops:Array Oper)(K:List DV→St→Prop):List Oper→List DV→Prop
 |[],fr=>K fr S
 |o::rest,fr=>eO (qg o.op)
  (cj ops fr o.guard (fun fr=>aF P w0 o.op fr S fun d=>oS P w0 S ops K rest (pt fr o.dst d)) (fun fr=>oS P w0 S ops K rest (pt fr o.dst ud)))
  (yD P w0 ops K (o::rest) fr S)
section
variable {P:Program} {w0:W0}
theorem oU{S:St}{ops:Array Oper}{K:List DV→St→Prop}:∀{l:List Oper} {fr:List DV},l.all (fun o=>hJ o.op)=true→oS P w0 S ops K l fr→LQ P w0 S ops (fun fr=>yD P w0 ops K (l.drop (nU l)) fr S) (l.take (nU l)) fr
 |[],fr,_,h=>h
 |o::rest,fr,hs,h=>by
  simp only[List.all_cons,Bool.and_eq_true]at hs
  unfold oS eO at h
  cases hq:qg o.op with
  |true=>
   rw[hq]at h
   simp only at h
   have e:nU (o::rest)=nU rest+1:=by simp[nU,List.takeWhile_cons,hq]
   rw[e,List.take_succ_cons,List.drop_succ_cons]
   refine iy (fun fr h=>?_) (fun fr h=>oU hs.2 h) h
   obtain⟨d,q1,q2⟩:=jU hs.1 h
   exact⟨d,q1,oU hs.2 q2⟩
  |false=>
   rw[hq]at h
   have e:nU (o::rest)=0:=by simp[nU,List.takeWhile_cons,hq]
   rw[e]
   exact h
theorem EA{S:St}{a b:Array Oper}{K:List DV→Prop}:∀{l:List Oper} {fr:List DV},(∀o,o∈l→∀j want,o.guard=some (j,want)→a[j]? =b[j]?)→LQ P w0 S a K l fr→LQ P w0 S b K l fr
 |[],fr,_,h=>h
 |o::rest,fr,hg,h=>by
  have h':cj a fr o.guard (fun fr=>∃d,QY P w0 S o fr d∧LQ P w0 S b K rest (pt fr o.dst d)) (fun fr=>LQ P w0 S b K rest (pt fr o.dst ud)):=
   iy (fun fr ⟨d,q1,q2⟩=>⟨d,q1,EA (fun o ho=>hg o (List.mem_cons_of_mem _ ho)) q2⟩) (fun fr h=>EA (fun o ho=>hg o (List.mem_cons_of_mem _ ho)) h) h
  unfold cj at h'
  show cj b fr o.guard _ _
  unfold cj
  cases hgo:o.guard with
  |none=>rw[hgo]at h';exact h'
  |some p=>
   obtain⟨j,want⟩:=p
   rw[hgo]at h'
   simp only at h' ⊢
   rw[←hg o List.mem_cons_self j want hgo]
   exact h'
theorem Gq{id:Nat}{l:List Oper}{fr:List DV}{S:St}{Q:Exit→List DV→St→Prop}(hm:P.follows .mixedOrders=true)(hB:Region.lexB .any (l.take (nU l)).toArray=true)(hT:rE .any l.toArray (nU l)=true)(hs:l.all (fun o=>hJ o.op)=true)
 (h:oS P w0 S l.toArray (fun fr S=>Q .normal fr S) l fr):fW P w0 (.region id l.toArray true) fr S Q:=by
 have hn:nU l≤l.length:=by
  unfold nU
  exact List.Sublist.length_le (List.takeWhile_sublist _)
 refine Ii (nU l) hn hm hB hT hs (EA ?_ (oU hs h))
 intro o ho j want hg
 simp only[rE,Bool.and_eq_true]at hT
 have:=List.all_eq_true.1 hT.2 o (by simpa using ho)
 simp only[hg,decide_eq_true_eq]at this
 simp[List.getElem?_take,this]
def AL(P:Program)(w0:W0)(fr:List DV)(S:St)[c:Cn (Code×(Exit→List DV→St→Prop))]:Prop:=fW P w0 c.k.1 fr S c.k.2
def vw(P:Program)(w0:W0)(ss:List Nat):Code→List DV→St→(Exit→List DV→St→Prop)→Prop
 | .skip,fr,S,Q=>Q .normal fr S
 | .seq x y,fr,S,Q=>vw P w0 ss x fr S (j4 (fun fr S=>vw P w0 ss y fr S Q) Q)
 | .cond c x y,fr,S,Q=>gg (ev fr c) (vw P w0 ss x fr S Q) (vw P w0 ss y fr S Q)
 | .block n c,fr,S,Q=>eO (ss.contains (n+1000)) (@AL P w0 fr S ⟨((.block n c),Q)⟩) (vw P w0 ss c fr S (tx n Q))
 | .exit n,fr,S,Q=>Q (.exit n) fr S
 | .ret,fr,S,Q=>Q .ret fr S
 | .region n ops dr,fr,S,Q=>eO (ss.contains n) (@AL P w0 fr S ⟨((.region n ops dr),Q)⟩)
  (eO dr (oS P w0 S ops (fun fr S=>Q .normal fr S) ops.toList fr) (yD P w0 ops (fun fr S=>Q .normal fr S) ops.toList fr S))
 |c,fr,S,Q=>@AL P w0 fr S ⟨(c,Q)⟩
/- How it goes. -/
section
variable {P:Program} {w0:W0} {ss:List Nat} {fr:List DV} {S:St} {Q:Exit→List DV→St→Prop}
theorem HB:vw P w0 ss .skip fr S Q=Q .normal fr S:=rfl
theorem Lz(x y:Code):vw P w0 ss (.seq x y) fr S Q=vw P w0 ss x fr S (j4 (fun fr S=>vw P w0 ss y fr S Q) Q):=rfl
theorem Hj(c:Operand)(x y:Code):vw P w0 ss (.cond c x y) fr S Q=gg (ev fr c) (vw P w0 ss x fr S Q) (vw P w0 ss y fr S Q):=rfl
theorem EB(n:Nat)(c:Code):vw P w0 ss (.block n c) fr S Q=eO (ss.contains (n+1000)) (@AL P w0 fr S ⟨((.block n c),Q)⟩) (vw P w0 ss c fr S (tx n Q)):=rfl
theorem ID(n:Nat):vw P w0 ss (.exit n) fr S Q=Q (.exit n) fr S:=rfl
theorem IV:vw P w0 ss .ret fr S Q=Q .ret fr S:=rfl
def jx(fr:List DV)(F:List DV→Prop):Prop:=F fr
@[congr] theorem Yx {fr fr':List DV} {F:List DV→Prop} (h:fr=fr'):jx fr F=jx fr' F:=by cases h;rfl
theorem Pr(d:DV)(fr:List DV)(F:List DV→Prop):jx (d::fr) F=F (d::fr):=rfl
theorem Ez(r:Wm)(fr:List DV)(F:List DV→Prop):jx (rc r fr) F=F (rc r fr):=rfl
attribute [go_sem ↓] Pr Ez
theorem G8(n:Nat)(l:List Oper):vw P w0 ss (.region n l.toArray false) fr S Q=eO (ss.contains n) (@AL P w0 fr S ⟨((.region n l.toArray false),Q)⟩) (yD P w0 l.toArray (fun fr S=>jx fr fun fr=>Q .normal fr S) l fr S):=by simp[vw,eO,jx]
theorem Ib(n:Nat)(l:List Oper):vw P w0 ss (.region n l.toArray true) fr S Q=eO (ss.contains n) (@AL P w0 fr S ⟨((.region n l.toArray true),Q)⟩) (oS P w0 S l.toArray (fun fr S=>jx fr fun fr=>Q .normal fr S) l fr):=by simp[vw,eO,jx]
section
variable {ops:Array Oper} {K:List DV→St→Prop} {rest:List Oper} {dst:Option Tmp} {op:Op} {ty:TypeId} {pos:String} {aft:Array Edge}
theorem M7:oS P w0 S ops K [] fr=K fr S:=rfl
theorem Iy:oS P w0 S ops K (⟨dst,op,ty,pos,aft,none⟩::rest) fr=eO (qg op) (aF P w0 op fr S fun d=>oS P w0 S ops K rest (pt fr dst d)) (yD P w0 ops K (⟨dst,op,ty,pos,aft,none⟩::rest) fr S):=rfl
theorem HD(j:Nat)(want:Bool):oS P w0 S ops K (⟨dst,op,ty,pos,aft,some (j,want)⟩::rest) fr=eO (qg op) (gK ((ops[j]?).bind (·.dst)) fr want (fun fr=>aF P w0 op fr S fun d=>oS P w0 S ops K rest (pt fr dst d)) (fun fr=>oS P w0 S ops K rest (pt fr dst ud))) (yD P w0 ops K (⟨dst,op,ty,pos,aft,some (j,want)⟩::rest) fr S):=by
 rw[←xV];rfl
end
def ER(l:List Oper)(F:List Oper→Prop):Prop:=F l
@[congr] theorem Yv {l l':List Oper} {F:List Oper→Prop} (h:l=l'):ER l F=ER l' F:=by cases h;rfl
theorem OL(l:List Oper)(F:List Oper→Prop):ER l F=F l:=rfl
theorem G0(n:Nat)(l1 l2:List Oper)(dr:Bool):vw P w0 ss (.region n (l1.append l2).toArray dr) fr S Q=ER (l1.append l2) (fun l=>vw P w0 ss (.region n l.toArray dr) fr S Q):=rfl
theorem GN(c:Code):vw P w0 ss (.loop c) fr S Q= @AL P w0 fr S ⟨((.loop c),Q)⟩:=rfl
@[congr] theorem abm {c:Code} {fr':List DV} {S':St} (h1:fr=fr') (h2:S=S'):vw P w0 ss c fr S Q=vw P w0 ss c fr' S' Q:=by cases h1;cases h2;rfl
@[congr] theorem YB {ops:Array Oper} {K:List DV→St→Prop} {l:List Oper} {fr':List DV} {S':St} (h1:fr=fr') (h2:S=S'):oS P w0 S ops K l fr=oS P w0 S' ops K l fr':=by cases h1;cases h2;rfl
@[congr] theorem ZZ {c:Code} {fr':List DV} {S':St} (h1:fr=fr') (h2:S=S'):fW P w0 c fr S Q=fW P w0 c fr' S' Q:=by cases h1;cases h2;rfl
end
attribute [go_sem] OL List.contains_nil List.contains_cons
attribute [go_sem ↓] M7 Iy HD HB Lz Hj EB ID IV G8 Ib GN
attribute [go_sem ↓ high] G0
section
variable {md:Region.Mode} {ops:Array Oper}
def Ju(md:Region.Mode)(ops:Array Oper):Nat→List Oper→Bool
 |_,[]=>true
 |k,o::l=>o.after.toList.all (fun e=>!Region.binds md e||decide (e.on<k))&&l.all (fun oj=>oj.after.toList.any (fun e=>Region.binds md e&&e.on==k)||o.apart ops oj)&&Ju md ops (k+1) l
theorem tW:∀(l:List Oper) (k:Nat) (listed:Array Bool),(∀j,l[j]? =ops[k+j]?)→listed.size=ops.size→(∀i,i<k→listed[i]? =some true)→(∀i,k≤i→i<ops.size→listed[i]? =some false)→Ju md ops k l=true→Region.lexFrom md ops l.length k listed=true
 |[],k,listed,hl,hs,h1,h2,_=>by
  simp only[List.length_nil,Region.lexFrom]
  have:Region.ready md ops listed=[]:=List.eq_nil_iff_forall_not_mem.2 fun i hi=>by
   obtain⟨hun,o,ho,_⟩:=mem_ready.1 hi
   rw[dZ]at hun
   rcases Nat.lt_or_ge i k with h|h
   ·rw[h1 i h]at hun;cases hun
   ·have:=hl (i-k)
    rw[show k+(i-k)=i by omega,ho]at this
    simp at this
  rw[this];rfl
 |o::l,k,listed,hl,hs,h1,h2,hG=>by
  have h0:ops[k]? =some o:=by simpa using(hl 0).symm
  have hk:k<ops.size:=(Array.getElem?_eq_some_iff.1 h0).1
  simp only[Ju,Bool.and_eq_true]at hG
  obtain⟨⟨ha,hb⟩,hc⟩:=hG
  simp only[List.length_cons,Region.lexFrom,Bool.and_eq_true]
  have hr:k∈Region.ready md ops listed:=mem_ready.2 ⟨dZ.2 (h2 k (Nat.le_refl _) hk),o,h0,fun e he hbind=>by
   have:=List.all_eq_true.1 ha e (Array.mem_toList_iff.2 he)
   rw[hbind]at this
   simp at this
   exact dD.2 (h1 _ this)⟩
  refine⟨⟨by simpa using hr,?_⟩,?_⟩
  ·unfold Region.free
   rw[h0]
   simp only[List.all_eq_true,List.mem_range]
   intro j hj
   rcases Nat.lt_trichotomy j k with h|h|h
   ·have:listed.getD j true=true:=by rw[Array.getD_eq_getD_getElem?,h1 j h];rfl
    simp[this]
   ·simp[h]
   ·have hj2:=hl (j-k)
    rw[show k+(j-k)=j by omega,show j-k=(j-k-1)+1 by omega,List.getElem?_cons_succ]at hj2
    rw[←hj2]
    cases hq:l[j-k-1]? with
    |none=>simp
    |some oj=>
     have:=List.all_eq_true.1 hb oj (List.mem_of_getElem? hq)
     simp only[Bool.or_eq_true]at this ⊢
     refine .inr ?_
     rcases this with h|h
     ·refine .inl ?_
      obtain⟨e,he,h⟩:=List.any_eq_true.1 h
      exact Array.any_eq_true'.2 ⟨e,Array.mem_toList_iff.1 he,h⟩
     ·exact .inr h
  ·refine tW l (k+1) _ (fun j=>?_) (by simpa using hs) (fun i hi=>?_) (fun i hi hi2=>?_) hc
   ·have:=hl (j+1)
    simpa[Nat.add_assoc,Nat.add_comm 1 j]using this
   ·rw[Array.getElem?_setIfInBounds]
    by_cases h:k=i
    ·subst h;rw[if_pos rfl,if_pos (by omega)]
    ·rw[if_neg h];exact h1 i (by omega)
   ·rw[Array.getElem?_setIfInBounds,if_neg (by omega)]
    exact h2 i (by omega) hi2
theorem C1{l:List Oper}(hs:Region.noSelect l.toArray=true)(h:Ju md l.toArray 0 l=true):Region.lexB md l.toArray=true:=by
 unfold Region.lexB
 rw[hs,Bool.true_and]
 have:=tW (md:=md) (ops:=l.toArray) l 0 (Array.replicate l.toArray.size false) (fun j=>by simp) (by simp) (fun i hi=>absurd hi (by omega)) (fun i _ hi=>by rw[Array.getElem?_replicate,if_pos hi]) h
 simpa using this
end
def ux(ss:List Nat):Code→Bool
 | .seq x y=>ux ss x&&ux ss y
 | .cond _ x y=>ux ss x&&ux ss y
 | .block n c=>ss.contains (n+1000)||ux ss c
 | .region n ops false=>ss.contains n||ops.toList.all (fun o=>hJ o.op)
 | .region n ops true=>ss.contains n||(ops.toList.all (fun o=>hJ o.op)&&Region.noSelect (ops.toList.take (nU ops.toList)).toArray&&Ju .any (ops.toList.take (nU ops.toList)).toArray 0 (ops.toList.take (nU ops.toList))&&rE .any ops (nU ops.toList))
 |_=>true
theorem da{ss:List Nat}(hm:P.follows .mixedOrders=true):∀(c:Code) {fr:List DV} {S:St} {Q:Exit→List DV→St→Prop},ux ss c=true→vw P w0 ss c fr S Q→fW P w0 c fr S Q
 | .skip,fr,S,Q,_,h=>Lj h
 | .seq x y,fr,S,Q,ho,h=>by
  simp only[ux,Bool.and_eq_true]at ho
  exact Pj ((da hm x ho.1 h).mono fun e fr S hq=>by cases e <;>first|exact da hm y ho.2 hq|exact hq)
 | .cond c x y,fr,S,Q,ho,h=>by
  simp only[ux,Bool.and_eq_true]at ho
  exact IX (Di (fun h=>da hm x ho.1 h) (fun h=>da hm y ho.2 h) h)
 | .block n c,fr,S,Q,ho,h=>by
  unfold vw eO at h
  unfold ux at ho
  split at h
  ·exact h
  ·rename_i hn
   rw[hn,Bool.false_or]at ho
   exact Gd (da hm c ho h)
 | .exit n,fr,S,Q,_,h=>Lh h
 | .ret,fr,S,Q,_,h=>NO h
 | .region n ops false,fr,S,Q,ho,h=>by
  unfold vw at h
  unfold eO at h
  unfold ux at ho
  split at h
  ·exact h
  rename_i hn
  rw[hn,Bool.false_or]at ho
  simp only at h
  have:=nx _ ho h
  have:=tL (id:=n) (l:=ops.toList) this
  simpa using this
 | .region n ops true,fr,S,Q,ho,h=>by
  unfold vw at h
  unfold eO at h
  unfold ux at ho
  split at h
  ·exact h
  rename_i hn
  rw[hn,Bool.false_or]at ho
  simp only[Bool.and_eq_true]at ho
  simp only at h
  have:=Gq (id:=n) (l:=ops.toList) (fr:=fr) (S:=S) (Q:=Q) hm (C1 ho.1.1.2 ho.1.2) ho.2 ho.1.1.1 h
  simpa using this
 | .loop c,fr,S,Q,_,h=>h
 | .rangeFunc f ps a b,fr,S,Q,_,h=>h
 | .scope c,fr,S,Q,_,h=>h
 | .label l,fr,S,Q,_,h=>h
 | .goto l,fr,S,Q,_,h=>h
 | .refuse w,fr,S,Q,_,h=>h
theorem nt(ss:List Nat){f:FuncId}{fn:Func}{c:Code}{rs:List ResultVar}{args:List DV}{S:St}{K:DV→St→Prop}(hm:P.follows .mixedOrders=true)(hf:P.funcs[f]? =some fn)(hb:fn.body=some c)(hrs:fn.results=rs.toArray)(hc:ux ss c=true)
 (h:vw P w0 ss c (fu (args++List.replicate (fn.ntmps-args.length) ud)) S fun e fr S'=>(e= .normal∨e= .ret)∧u9 P fr S' rs fun d=>K d S'):aa P w0 f args S K:=
 uf hf hb hrs (da hm c hc h)
end
end Aml
