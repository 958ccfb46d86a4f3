/-
  Part 3 of the proof that the last text ends: from 'Facts on the types and functions of the translation, printed by program (wip/tools/types.py)' to 'The walk by reckoning, whole; functions and loops'. By an AI agent.
-/
import Derived.Test.YtpjenciplibdnaaGreatDoorMQ2
import Derived.Test.YtpjenciplibdnaaGreatDoorProg
import Derived.KernelRfl
import Derived.Still
set_option linter.unusedVariables false
set_option linter.unusedSimpArgs false
set_option maxRecDepth 100000
set_option maxHeartbeats 16000000
namespace Go.Proofs.YtpjenciplibdnaaGreatDoor
open Aml
@[go_sem] theorem tyq.a1:tk Tryz.prog 1= .fn∧zD Tryz.prog 1= .v .nilFunc∧Tryz.prog.cellsOf 1=1∧(Tryz.prog.info? 1).isSome=true∧tk Tryz.prog 2= .int .i64∧zD Tryz.prog 2= .v (.int .i64 0)∧Tryz.prog.cellsOf 2=1∧(Tryz.prog.info? 2).isSome=true∧tk Tryz.prog 3= .int .i64∧zD Tryz.prog 3= .v (.int .i64 0)∧Tryz.prog.cellsOf 3=1∧(Tryz.prog.info? 3).isSome=true∧tk Tryz.prog 4= .one∧zD Tryz.prog 4= .v (.bool false)∧Tryz.prog.cellsOf 4=1∧(Tryz.prog.info? 4).isSome=true∧tk Tryz.prog 5= .int .u8∧zD Tryz.prog 5= .v (.int .u8 0)∧Tryz.prog.cellsOf 5=1∧(Tryz.prog.info? 5).isSome=true∧tk Tryz.prog 6= .int .u8∧zD Tryz.prog 6= .v (.int .u8 0)∧Tryz.prog.cellsOf 6=1∧(Tryz.prog.info? 6).isSome=true:=by and_intros<;>kernel_rfl
@[go_sem] theorem tyq.a2:zO Tryz.prog 7=some [.int .i64,.int .i64,.bool,.int .u8]∧zD Tryz.prog 7= .agg [.v (.int .i64 0),.v (.int .i64 0),.v (.bool false),.v (.int .u8 0)]∧Tryz.prog.cellsOf 7=4∧(Tryz.prog.info? 7).isSome=true∧zO Tryz.prog 8=some [.int .i64,.int .i64,.bool,.int .u8]∧zD Tryz.prog 8= .agg [.v (.int .i64 0),.v (.int .i64 0),.v (.bool false),.v (.int .u8 0)]∧Tryz.prog.cellsOf 8=4∧tk Tryz.prog 9= .str∧zD Tryz.prog 9= .v (.string ByteArray.empty)∧Tryz.prog.cellsOf 9=1∧(Tryz.prog.info? 9).isSome=true∧tk Tryz.prog 22= .sl 58 4 48 true∧tk Tryz.prog 23= .int .u16∧tk Tryz.prog 26= .int .u64∧Tryz.prog.cellsOf 26=1∧(Tryz.prog.info? 26).isSome=true∧tk Tryz.prog 28= .st [(0,1,false),(1,1,false),(2,1,false),(3,1,false),(4,1,false)] 5∧zD Tryz.prog 28= .agg [.v (.int .i64 0),.v (.int .u64 0),.v (.int .i64 0),.v (.int .i64 0),.v (.int .i64 0)]∧Tryz.prog.cellsOf 28=5∧(Tryz.prog.info? 28).isSome=true∧tk Tryz.prog 29= .sl 9 1 16 true∧eH Tryz.prog 29=9∧zD Tryz.prog 29= .sl 0 true []∧Tryz.prog.cellsOf 29=1:=by and_intros<;>kernel_rfl
@[go_sem] theorem tyq.a3:(Tryz.prog.info? 29).isSome=true∧tk Tryz.prog 30= .sl 143 2 40 true∧eH Tryz.prog 30=143∧zD Tryz.prog 30= .sl 0 true []∧Tryz.prog.cellsOf 30=1∧(Tryz.prog.info? 30).isSome=true∧tk Tryz.prog 31= .sl 33 5 88 true∧eH Tryz.prog 31=33∧zD Tryz.prog 31= .sl 0 true []∧Tryz.prog.cellsOf 31=1∧(Tryz.prog.info? 31).isSome=true∧tk Tryz.prog 33= .st [(0,1,false),(1,1,false),(2,1,false),(3,1,false),(4,1,false)] 5∧zD Tryz.prog 33= .agg [.v (.int .i64 0),.v (.bool false),.sl 0 true [],.sl 0 true [],.sl 0 true []]∧Tryz.prog.cellsOf 33=5∧(Tryz.prog.info? 33).isSome=true∧tk Tryz.prog 34= .sl 85 6 104 true∧eH Tryz.prog 34=85∧Tryz.prog.cellsOf 34=1∧(Tryz.prog.info? 34).isSome=true∧tk Tryz.prog 36= .st [(0,5,true),(5,1,false)] 6∧zD Tryz.prog 36= .agg [.v (.int .i64 0),.v (.bool false),.sl 0 true [],.sl 0 true [],.sl 0 true [],.sl 0 true []]∧Tryz.prog.cellsOf 36=6∧(Tryz.prog.info? 36).isSome=true∧tk Tryz.prog 37= .sl 3 1 8 true:=by and_intros<;>kernel_rfl
@[go_sem] theorem tyq.a4:eH Tryz.prog 37=3∧zD Tryz.prog 37= .sl 0 true []∧Tryz.prog.cellsOf 37=1∧(Tryz.prog.info? 37).isSome=true∧tk Tryz.prog 38= .sl 93 2 32 true∧eH Tryz.prog 38=93∧Tryz.prog.cellsOf 38=1∧(Tryz.prog.info? 38).isSome=true∧tk Tryz.prog 40= .st [(0,1,false),(1,1,false),(2,1,false)] 3∧zD Tryz.prog 40= .agg [.v (.int .i64 0),.sl 0 true [],.sl 0 true []]∧Tryz.prog.cellsOf 40=3∧(Tryz.prog.info? 40).isSome=true∧tk Tryz.prog 42= .st [(0,5,true),(5,6,true),(11,1,false),(12,3,true)] 15∧zD Tryz.prog 42= .agg [.v (.int .i64 0),.v (.int .u64 0),.v (.int .i64 0),.v (.int .i64 0),.v (.int .i64 0),.v (.int .i64 0),.v (.bool false),.sl 0 true [],.sl 0 true [],.sl 0 true [],.sl 0 true [],.sl 0 true [],.v (.int .i64 0),.sl 0 true [],.sl 0 true []]∧Tryz.prog.cellsOf 42=15∧(Tryz.prog.info? 42).isSome=true∧tk Tryz.prog 44= .st [(0,1,false),(1,1,false),(2,1,false),(3,1,false),(4,1,false)] 5∧zO Tryz.prog 44=some [.int .i64,.int .u64,.int .i64,.int .i64,.int .i64]∧zD Tryz.prog 44= .agg [.v (.int .i64 0),.v (.int .u64 0),.v (.int .i64 0),.v (.int .i64 0),.v (.int .i64 0)]∧Tryz.prog.cellsOf 44=5∧(Tryz.prog.info? 44).isSome=true∧tk Tryz.prog 45= .sl 90 4 80 true∧eH Tryz.prog 45=90∧Tryz.prog.cellsOf 45=1:=by and_intros<;>kernel_rfl
@[go_sem] theorem tyq.a5:(Tryz.prog.info? 45).isSome=true∧zD Tryz.prog 46= .agg [.v (.int .i64 0),.v (.bool false),.sl 0 true []]∧tk Tryz.prog 47= .st [(0,1,false),(1,1,false),(2,1,false)] 3∧zD Tryz.prog 47= .agg [.v (.int .i64 0),.v (.bool false),.sl 0 true []]∧Tryz.prog.cellsOf 47=3∧(Tryz.prog.info? 47).isSome=true∧tk Tryz.prog 48= .sl 130 4 56 true∧eH Tryz.prog 48=130∧Tryz.prog.cellsOf 48=1∧(Tryz.prog.info? 48).isSome=true∧tk Tryz.prog 50= .st [(0,3,true),(3,1,false)] 4∧zD Tryz.prog 50= .agg [.v (.int .i64 0),.v (.bool false),.sl 0 true [],.sl 0 true []]∧Tryz.prog.cellsOf 50=4∧(Tryz.prog.info? 50).isSome=true∧tk Tryz.prog 51= .sl 133 2 32 true∧eH Tryz.prog 51=133∧zD Tryz.prog 51= .sl 0 true []∧Tryz.prog.cellsOf 51=1∧(Tryz.prog.info? 51).isSome=true∧tk Tryz.prog 53= .st [(0,1,false),(1,1,false),(2,1,false)] 3∧zD Tryz.prog 53= .agg [.v (.int .i64 0),.sl 0 true [],.sl 0 true []]∧Tryz.prog.cellsOf 53=3∧(Tryz.prog.info? 53).isSome=true∧tk Tryz.prog 55= .st [(0,5,true),(5,4,true),(9,1,false),(10,3,true)] 13:=by and_intros<;>kernel_rfl
@[go_sem] theorem tyq.a6:zD Tryz.prog 55= .agg [.v (.int .i64 0),.v (.int .u64 0),.v (.int .i64 0),.v (.int .i64 0),.v (.int .i64 0),.v (.int .i64 0),.v (.bool false),.sl 0 true [],.sl 0 true [],.sl 0 true [],.v (.int .i64 0),.sl 0 true [],.sl 0 true []]∧Tryz.prog.cellsOf 55=13∧(Tryz.prog.info? 55).isSome=true∧tk Tryz.prog 58= .st [(0,1,false),(1,1,false),(2,1,false),(3,1,false)] 4∧tk Tryz.prog 62= .sl 75 2 32 true∧eH Tryz.prog 62=75∧Tryz.prog.cellsOf 62=1∧(Tryz.prog.info? 62).isSome=true∧tk Tryz.prog 63= .sl 5 1 1 true∧eH Tryz.prog 63=5∧zD Tryz.prog 63= .sl 0 true []∧tk Tryz.prog 66= .sl 77 2 24 true∧eH Tryz.prog 66=77∧Tryz.prog.cellsOf 66=1∧(Tryz.prog.info? 66).isSome=true∧tk Tryz.prog 75= .st [(0,1,false),(1,1,false)] 2∧zD Tryz.prog 75= .agg [.v (.int .i64 0),.sl 0 true []]∧tk Tryz.prog 77= .st [(0,1,false),(1,1,false)] 2∧zD Tryz.prog 77= .agg [.v (.int .i64 0),.v (.string ByteArray.empty)]∧tk Tryz.prog 85= .st [(0,1,false),(1,5,true)] 6∧zD Tryz.prog 85= .agg [.v (.string ByteArray.empty),.v (.int .i64 0),.v (.bool false),.sl 0 true [],.sl 0 true [],.sl 0 true []]∧Tryz.prog.cellsOf 85=6∧(Tryz.prog.info? 85).isSome=true∧tk Tryz.prog 87= .st [(0,1,false),(1,1,false)] 2:=by and_intros<;>kernel_rfl
@[go_sem] theorem tyq.a7:zD Tryz.prog 87= .agg [.v (.string ByteArray.empty),.sl 0 true []]∧Tryz.prog.cellsOf 87=2∧(Tryz.prog.info? 87).isSome=true∧tk Tryz.prog 88= .sl 47 3 40 true∧eH Tryz.prog 88=47∧Tryz.prog.cellsOf 88=1∧(Tryz.prog.info? 88).isSome=true∧tk Tryz.prog 90= .st [(0,1,false),(1,2,true),(3,1,false)] 4∧zD Tryz.prog 90= .agg [.v (.string ByteArray.empty),.v (.string ByteArray.empty),.sl 0 true [],.sl 0 true []]∧Tryz.prog.cellsOf 90=4∧(Tryz.prog.info? 90).isSome=true∧tk Tryz.prog 93= .st [(0,1,false),(1,1,false)] 2∧zD Tryz.prog 93= .agg [.v (.int .u64 0),.sl 0 true []]∧Tryz.prog.cellsOf 93=2∧(Tryz.prog.info? 93).isSome=true∧tk Tryz.prog 94= .int .i64∧zD Tryz.prog 94= .v (.int .i64 0)∧Tryz.prog.cellsOf 94=1∧(Tryz.prog.info? 94).isSome=true∧tk Tryz.prog 106= .st [(0,15,true),(15,15,true),(30,1,false),(31,1,false),(32,1,false)] 33∧zD Tryz.prog 106= .agg [.v (.int .i64 0),.v (.int .u64 0),.v (.int .i64 0),.v (.int .i64 0),.v (.int .i64 0),.v (.int .i64 0),.v (.bool false),.sl 0 true [],.sl 0 true [],.sl 0 true [],.sl 0 true [],.sl 0 true [],.v (.int .i64 0),.sl 0 true [],.sl 0 true [],.v (.int .i64 0),.v (.int .u64 0),.v (.int .i64 0),.v (.int .i64 0),.v (.int .i64 0),.v (.int .i64 0),.v (.bool false),.sl 0 true [],.sl 0 true [],.sl 0 true [],.sl 0 true [],.sl 0 true [],.v (.int .i64 0),.sl 0 true [],.sl 0 true [],.v (.int .i64 0),.sl 0 true [],.sl 0 true []]∧tk Tryz.prog 107= .sl 111 1 8 true∧eH Tryz.prog 107=111∧tk Tryz.prog 109= .fn:=by and_intros<;>kernel_rfl
@[go_sem] theorem tyq.a8:tk Tryz.prog 111= .st [(0,1,false)] 1∧zD Tryz.prog 111= .agg [.v .nilFunc]∧Tryz.prog.cellsOf 111=1∧(Tryz.prog.info? 111).isSome=true∧tk Tryz.prog 130= .st [(0,1,false),(1,3,true)] 4∧zD Tryz.prog 130= .agg [.v (.string ByteArray.empty),.v (.int .i64 0),.v (.bool false),.sl 0 true []]∧zD Tryz.prog 131= .v .nilFunc∧tk Tryz.prog 133= .st [(0,1,false),(1,1,false)] 2∧zD Tryz.prog 133= .agg [.v (.int .u64 0),.sl 0 true []]∧tk Tryz.prog 143= .st [(0,1,false),(1,1,false)] 2∧zD Tryz.prog 143= .agg [.v (.string ByteArray.empty),.sl 0 true []]∧Tryz.prog.cellsOf 143=2∧(Tryz.prog.info? 143).isSome=true∧tk Tryz.prog 165= .sl 37 1 24 true∧eH Tryz.prog 165=37∧zD Tryz.prog 165= .sl 0 true []∧Tryz.prog.cellsOf 165=1∧(Tryz.prog.info? 165).isSome=true∧tk Tryz.prog 166= .fn∧tk Tryz.prog 168= .st [(0,1,false),(1,1,false)] 2∧zD Tryz.prog 168= .agg [.v (.int .u64 0),.v (.int .i64 0)]∧Tryz.prog.cellsOf 168=2∧(Tryz.prog.info? 168).isSome=true∧tk Tryz.prog 169= .sl 168 2 16 true:=by and_intros<;>kernel_rfl
@[go_sem] theorem tyq.a9:eH Tryz.prog 169=168∧tk Tryz.prog 172= .sl 63 1 24 true∧eH Tryz.prog 172=63∧zD Tryz.prog 172= .sl 0 true []∧Tryz.prog.cellsOf 172=1∧(Tryz.prog.info? 172).isSome=true∧zD Tryz.prog 182= .v .nilFunc∧zD Tryz.prog 183= .v .nilFunc∧tk Tryz.prog 194= .int .u64∧tk Tryz.prog 197= .int .u32∧tk Tryz.prog 205= .fn∧zD Tryz.prog 205= .v .nilFunc∧Tryz.prog.cellsOf 205=1∧(Tryz.prog.info? 205).isSome=true∧zD Tryz.prog 218= .v .nilFunc∧zD Tryz.prog 222= .v .nilFunc∧tk Tryz.prog 228= .sl 230 1 8 true∧eH Tryz.prog 228=230∧zD Tryz.prog 228= .sl 0 true []∧zD Tryz.prog 229= .agg [.v .nilFunc]∧tk Tryz.prog 230= .st [(0,1,false)] 1∧zD Tryz.prog 230= .agg [.v .nilFunc]∧tk Tryz.prog 234= .ar 128 5 1 false 128∧zD Tryz.prog 234= .agg [.v (.int .u8 0),.v (.int .u8 0),.v (.int .u8 0),.v (.int .u8 0),.v (.int .u8 0),.v (.int .u8 0),.v (.int .u8 0),.v (.int .u8 0),.v (.int .u8 0),.v (.int .u8 0),.v (.int .u8 0),.v (.int .u8 0),.v (.int .u8 0),.v (.int .u8 0),.v (.int .u8 0),.v (.int .u8 0),.v (.int .u8 0),.v (.int .u8 0),.v (.int .u8 0),.v (.int .u8 0),.v (.int .u8 0),.v (.int .u8 0),.v (.int .u8 0),.v (.int .u8 0),.v (.int .u8 0),.v (.int .u8 0),.v (.int .u8 0),.v (.int .u8 0),.v (.int .u8 0),.v (.int .u8 0),.v (.int .u8 0),.v (.int .u8 0),.v (.int .u8 0),.v (.int .u8 0),.v (.int .u8 0),.v (.int .u8 0),.v (.int .u8 0),.v (.int .u8 0),.v (.int .u8 0),.v (.int .u8 0),.v (.int .u8 0),.v (.int .u8 0),.v (.int .u8 0),.v (.int .u8 0),.v (.int .u8 0),.v (.int .u8 0),.v (.int .u8 0),.v (.int .u8 0),.v (.int .u8 0),.v (.int .u8 0),.v (.int .u8 0),.v (.int .u8 0),.v (.int .u8 0),.v (.int .u8 0),.v (.int .u8 0),.v (.int .u8 0),.v (.int .u8 0),.v (.int .u8 0),.v (.int .u8 0),.v (.int .u8 0),.v (.int .u8 0),.v (.int .u8 0),.v (.int .u8 0),.v (.int .u8 0),.v (.int .u8 0),.v (.int .u8 0),.v (.int .u8 0),.v (.int .u8 0),.v (.int .u8 0),.v (.int .u8 0),.v (.int .u8 0),.v (.int .u8 0),.v (.int .u8 0),.v (.int .u8 0),.v (.int .u8 0),.v (.int .u8 0),.v (.int .u8 0),.v (.int .u8 0),.v (.int .u8 0),.v (.int .u8 0),.v (.int .u8 0),.v (.int .u8 0),.v (.int .u8 0),.v (.int .u8 0),.v (.int .u8 0),.v (.int .u8 0),.v (.int .u8 0),.v (.int .u8 0),.v (.int .u8 0),.v (.int .u8 0),.v (.int .u8 0),.v (.int .u8 0),.v (.int .u8 0),.v (.int .u8 0),.v (.int .u8 0),.v (.int .u8 0),.v (.int .u8 0),.v (.int .u8 0),.v (.int .u8 0),.v (.int .u8 0),.v (.int .u8 0),.v (.int .u8 0),.v (.int .u8 0),.v (.int .u8 0),.v (.int .u8 0),.v (.int .u8 0),.v (.int .u8 0),.v (.int .u8 0),.v (.int .u8 0),.v (.int .u8 0),.v (.int .u8 0),.v (.int .u8 0),.v (.int .u8 0),.v (.int .u8 0),.v (.int .u8 0),.v (.int .u8 0),.v (.int .u8 0),.v (.int .u8 0),.v (.int .u8 0),.v (.int .u8 0),.v (.int .u8 0),.v (.int .u8 0),.v (.int .u8 0),.v (.int .u8 0),.v (.int .u8 0),.v (.int .u8 0),.v (.int .u8 0),.v (.int .u8 0)]:=by and_intros<;>kernel_rfl
@[go_sem] theorem tyq.a10:tk Tryz.prog 240= .st [(0,1,false),(1,1,false)] 2∧zD Tryz.prog 240= .agg [.sl 0 true [],.sl 0 true []]∧tk Tryz.prog 245= .fn∧zD Tryz.prog 245= .v .nilFunc∧Tryz.prog.cellsOf 245=1∧(Tryz.prog.info? 245).isSome=true∧tk Tryz.prog 278= .fn∧zD Tryz.prog 278= .v .nilFunc∧Tryz.prog.cellsOf 278=1∧(Tryz.prog.info? 278).isSome=true∧tk Tryz.prog 281= .sl 288 5 56 true∧eH Tryz.prog 281=288∧Tryz.prog.cellsOf 281=1∧(Tryz.prog.info? 281).isSome=true∧tk Tryz.prog 283= .st [(0,1,false),(1,1,false)] 2∧zD Tryz.prog 283= .agg [.v (.bool false),.sl 0 true []]∧Tryz.prog.cellsOf 283=2∧(Tryz.prog.info? 283).isSome=true∧tk Tryz.prog 286= .st [(0,1,false),(1,1,false),(2,1,false),(3,1,false)] 4∧zO Tryz.prog 286=some [.str,.bool,.int .i64,.int .i64]∧zD Tryz.prog 286= .agg [.v (.string ByteArray.empty),.v (.bool false),.v (.int .i64 0),.v (.int .i64 0)]∧Tryz.prog.cellsOf 286=4∧(Tryz.prog.info? 286).isSome=true∧tk Tryz.prog 288= .st [(0,1,false),(1,4,true)] 5:=by and_intros<;>kernel_rfl
@[go_sem] theorem tyq.a11:zD Tryz.prog 288= .agg [.v (.string ByteArray.empty),.v (.string ByteArray.empty),.v (.bool false),.v (.int .i64 0),.v (.int .i64 0)]∧Tryz.prog.cellsOf 288=5∧(Tryz.prog.info? 288).isSome=true∧tk Tryz.prog 314= .st [(0,1,false),(1,1,false)] 2∧zD Tryz.prog 314= .agg [.sl 0 true [],.sl 0 true []]∧tk Tryz.prog 316= .map 3 3∧tk Tryz.prog 317= .ar 16 197 1 false 16∧tk Tryz.prog 328= .sl 31 1 24 true∧eH Tryz.prog 328=31∧tk Tryz.prog 330= .sl 29 1 24 true∧eH Tryz.prog 330=29∧tk Tryz.prog 332= .sl 30 1 24 true∧eH Tryz.prog 332=30∧tk Tryz.prog 338= .sl 353 5 56 true∧eH Tryz.prog 338=353∧tk Tryz.prog 341= .st [(0,1,false),(1,1,false)] 2∧zD Tryz.prog 341= .agg [.v (.bool false),.sl 0 true []]∧tk Tryz.prog 346= .st [(0,1,false),(1,1,false)] 2∧zD Tryz.prog 346= .agg [.v (.string ByteArray.empty),.v (.string ByteArray.empty)]∧Tryz.prog.cellsOf 346=2∧(Tryz.prog.info? 346).isSome=true∧tk Tryz.prog 351= .st [(0,1,false),(1,1,false),(2,1,false),(3,1,false)] 4∧zO Tryz.prog 351=some [.str,.bool,.int .i64,.int .i64]∧zD Tryz.prog 351= .agg [.v (.string ByteArray.empty),.v (.bool false),.v (.int .i64 0),.v (.int .i64 0)]:=by and_intros<;>kernel_rfl
@[go_sem] theorem tyq.a12:Tryz.prog.cellsOf 351=4∧(Tryz.prog.info? 351).isSome=true∧tk Tryz.prog 353= .st [(0,1,false),(1,4,true)] 5∧zD Tryz.prog 353= .agg [.v (.string ByteArray.empty),.v (.string ByteArray.empty),.v (.bool false),.v (.int .i64 0),.v (.int .i64 0)]∧Tryz.prog.cellsOf 353=5∧(Tryz.prog.info? 353).isSome=true∧tk Tryz.prog 355= .ptr 357∧zD Tryz.prog 355= .v (.pointer none)∧Tryz.prog.cellsOf 355=1∧(Tryz.prog.info? 355).isSome=true∧tk Tryz.prog 357= .st [(0,1,false),(1,1,false)] 2∧zD Tryz.prog 357= .agg [.sl 0 true [],.v (.map none)]∧tk Tryz.prog 364= .kQ ["jalousie/node.least", "jalousie/node.may", "jalousie/node.put", "jalousie/node.take"]∧zD Tryz.prog 364= .v .nilIface∧tk Tryz.prog 365= .sl 364 1 16 true∧eH Tryz.prog 365=364∧tk Tryz.prog 376= .st [] 0∧zD Tryz.prog 376= .agg []∧tk Tryz.prog 377= .st [] 0∧zD Tryz.prog 377= .agg []∧okF Tryz.prog 0=false∧okF Tryz.prog 1=false∧okF Tryz.prog 2=true∧okF Tryz.prog 3=true:=by and_intros<;>kernel_rfl
@[go_sem] theorem tyq.a13:okF Tryz.prog 4=true∧okF Tryz.prog 5=true∧okF Tryz.prog 6=true∧okF Tryz.prog 7=true∧okF Tryz.prog 8=true∧okF Tryz.prog 9=true∧okF Tryz.prog 10=true∧okF Tryz.prog 11=true∧okF Tryz.prog 12=true∧okF Tryz.prog 13=true∧okF Tryz.prog 14=true∧okF Tryz.prog 15=true∧okF Tryz.prog 16=true∧okF Tryz.prog 17=true∧okF Tryz.prog 18=true∧okF Tryz.prog 19=true∧okF Tryz.prog 20=true∧okF Tryz.prog 21=true∧okF Tryz.prog 23=true∧okF Tryz.prog 24=true∧okF Tryz.prog 26=true∧okF Tryz.prog 27=true∧okF Tryz.prog 28=true∧okF Tryz.prog 29=true:=by and_intros<;>kernel_rfl
@[go_sem] theorem tyq.a14:okF Tryz.prog 30=true∧okF Tryz.prog 31=true∧okF Tryz.prog 32=true∧okF Tryz.prog 33=true∧okF Tryz.prog 34=true∧okF Tryz.prog 35=true∧okF Tryz.prog 36=true∧okF Tryz.prog 37=true∧okF Tryz.prog 38=true∧okF Tryz.prog 39=true∧okF Tryz.prog 40=true∧okF Tryz.prog 41=true∧okF Tryz.prog 42=true∧okF Tryz.prog 43=true∧okF Tryz.prog 44=true∧okF Tryz.prog 45=true∧okF Tryz.prog 46=true∧okF Tryz.prog 47=true∧okF Tryz.prog 48=true∧okF Tryz.prog 49=true∧okF Tryz.prog 50=true∧okF Tryz.prog 51=true∧okF Tryz.prog 52=true∧okF Tryz.prog 53=true:=by and_intros<;>kernel_rfl
@[go_sem] theorem tyq.a15:okF Tryz.prog 54=true∧okF Tryz.prog 55=true∧okF Tryz.prog 56=true∧okF Tryz.prog 57=true∧okF Tryz.prog 60=true∧okF Tryz.prog 61=true∧okF Tryz.prog 62=true∧okF Tryz.prog 63=true∧okF Tryz.prog 64=true∧okF Tryz.prog 65=true∧okF Tryz.prog 66=true∧okF Tryz.prog 67=true∧okF Tryz.prog 69=true∧okF Tryz.prog 70=true∧okF Tryz.prog 71=true∧okF Tryz.prog 73=true∧okF Tryz.prog 74=true∧okF Tryz.prog 75=true∧okF Tryz.prog 76=true∧okF Tryz.prog 77=true∧okF Tryz.prog 78=true∧okF Tryz.prog 79=true∧okF Tryz.prog 80=true∧okF Tryz.prog 81=true:=by and_intros<;>kernel_rfl
@[go_sem] theorem tyq.a16:okF Tryz.prog 82=true∧okF Tryz.prog 83=true∧okF Tryz.prog 84=true∧okF Tryz.prog 85=true∧okF Tryz.prog 86=true∧okF Tryz.prog 87=true∧okF Tryz.prog 88=true∧okF Tryz.prog 89=true∧okF Tryz.prog 90=true∧okF Tryz.prog 91=true∧okF Tryz.prog 92=true∧okF Tryz.prog 93=true∧okF Tryz.prog 94=true∧okF Tryz.prog 95=true∧okF Tryz.prog 96=true∧okF Tryz.prog 97=true∧okF Tryz.prog 98=true∧okF Tryz.prog 99=true∧okF Tryz.prog 102=true∧okF Tryz.prog 103=true∧okF Tryz.prog 104=true∧okF Tryz.prog 105=true∧okF Tryz.prog 106=true∧okF Tryz.prog 107=true:=by and_intros<;>kernel_rfl
@[go_sem] theorem tyq.a17:okF Tryz.prog 108=true∧okF Tryz.prog 110=true∧okF Tryz.prog 111=true∧okF Tryz.prog 112=true∧okF Tryz.prog 113=false∧okF Tryz.prog 115=true∧okF Tryz.prog 116=true∧okF Tryz.prog 117=true∧okF Tryz.prog 118=true∧okF Tryz.prog 119=true∧okF Tryz.prog 120=true∧okF Tryz.prog 121=true∧okF Tryz.prog 122=true∧okF Tryz.prog 123=true∧okF Tryz.prog 124=true∧okF Tryz.prog 125=true∧okF Tryz.prog 126=true∧okF Tryz.prog 127=true∧okF Tryz.prog 128=true∧okF Tryz.prog 129=true∧okF Tryz.prog 130=true∧okF Tryz.prog 131=true∧okF Tryz.prog 132=true∧okF Tryz.prog 133=true:=by and_intros<;>kernel_rfl
@[go_sem] theorem tyq.a18:okF Tryz.prog 134=true∧okF Tryz.prog 135=true∧okF Tryz.prog 136=true∧okF Tryz.prog 137=true∧okF Tryz.prog 138=true∧okF Tryz.prog 139=true∧okF Tryz.prog 140=true∧okF Tryz.prog 141=true∧okF Tryz.prog 142=true∧okF Tryz.prog 143=true∧okF Tryz.prog 144=true∧okF Tryz.prog 145=true∧okF Tryz.prog 146=true∧okF Tryz.prog 147=true∧okF Tryz.prog 148=true∧okF Tryz.prog 150=true∧okF Tryz.prog 151=true∧okF Tryz.prog 158=true∧okF Tryz.prog 163=true∧okF Tryz.prog 164=true∧okF Tryz.prog 165=true∧okF Tryz.prog 167=true∧okF Tryz.prog 168=true∧okF Tryz.prog 169=true:=by and_intros<;>kernel_rfl
@[go_sem] theorem tyq.a19:okF Tryz.prog 170=true∧okF Tryz.prog 171=true∧okF Tryz.prog 172=true∧okF Tryz.prog 173=true∧okF Tryz.prog 174=true∧okF Tryz.prog 175=true∧okF Tryz.prog 176=true∧okF Tryz.prog 177=true∧okF Tryz.prog 178=true∧okF Tryz.prog 179=true∧okF Tryz.prog 180=true∧okF Tryz.prog 181=true∧okF Tryz.prog 182=true∧okF Tryz.prog 183=true∧okF Tryz.prog 184=true∧okF Tryz.prog 185=true∧okF Tryz.prog 186=true∧okF Tryz.prog 187=true∧okF Tryz.prog 188=true∧okF Tryz.prog 189=true∧okF Tryz.prog 190=true∧okF Tryz.prog 196=true∧okF Tryz.prog 197=true∧okF Tryz.prog 198=true:=by and_intros<;>kernel_rfl
@[go_sem] theorem tyq.a20:okF Tryz.prog 199=true∧okF Tryz.prog 200=true∧okF Tryz.prog 201=true∧okF Tryz.prog 202=true∧okF Tryz.prog 203=true∧okF Tryz.prog 204=true∧okF Tryz.prog 205=true∧okF Tryz.prog 206=true∧okF Tryz.prog 213=true∧okF Tryz.prog 214=false∧okF Tryz.prog 215=true∧okF Tryz.prog 216=true∧okF Tryz.prog 217=true∧okF Tryz.prog 218=true∧okF Tryz.prog 219=true∧okF Tryz.prog 220=true∧okF Tryz.prog 221=true∧okF Tryz.prog 222=true∧okF Tryz.prog 223=true∧okF Tryz.prog 224=true∧okF Tryz.prog 225=true∧okF Tryz.prog 226=true∧okF Tryz.prog 227=true∧okF Tryz.prog 228=true:=by and_intros<;>kernel_rfl
@[go_sem] theorem tyq.a21:okF Tryz.prog 229=true∧okF Tryz.prog 230=true∧okF Tryz.prog 231=true∧okF Tryz.prog 232=true∧okF Tryz.prog 233=true∧okF Tryz.prog 234=true∧okF Tryz.prog 235=true∧okF Tryz.prog 236=true∧okF Tryz.prog 237=true∧okF Tryz.prog 238=true∧okF Tryz.prog 239=true∧okF Tryz.prog 240=true∧okF Tryz.prog 243=true∧okF Tryz.prog 244=true∧okF Tryz.prog 245=true∧okF Tryz.prog 246=true∧okF Tryz.prog 247=true∧okF Tryz.prog 248=true∧okF Tryz.prog 249=true∧okF Tryz.prog 250=true∧okF Tryz.prog 251=true∧okF Tryz.prog 252=true∧okF Tryz.prog 253=true∧okF Tryz.prog 254=true:=by and_intros<;>kernel_rfl
@[go_sem] theorem tyq.a22:okF Tryz.prog 255=true∧okF Tryz.prog 256=true∧okF Tryz.prog 257=true∧okF Tryz.prog 258=true∧okF Tryz.prog 259=true∧okF Tryz.prog 260=true∧okF Tryz.prog 261=true∧okF Tryz.prog 262=true∧okF Tryz.prog 263=true∧okF Tryz.prog 264=true∧okF Tryz.prog 265=true∧okF Tryz.prog 266=true∧okF Tryz.prog 267=true∧okF Tryz.prog 268=true∧okF Tryz.prog 269=true∧okF Tryz.prog 270=true∧okF Tryz.prog 271=true∧okF Tryz.prog 272=true∧okF Tryz.prog 274=true∧okF Tryz.prog 275=true∧okF Tryz.prog 293=true∧okF Tryz.prog 294=true∧okF Tryz.prog 295=true∧okF Tryz.prog 296=false:=by and_intros<;>kernel_rfl
@[go_sem] theorem tyq.a23:okF Tryz.prog 297=true∧okF Tryz.prog 298=true∧okF Tryz.prog 299=true∧okF Tryz.prog 300=true∧okF Tryz.prog 301=true∧okF Tryz.prog 302=true:=by and_intros<;>kernel_rfl
theorem mx:Tryz.prog.follows .mixedOrders=true:=by kernel_rfl
end Go.Proofs.YtpjenciplibdnaaGreatDoor
namespace Aml
open Go Go.RowKit
def xw:List DV→Nat→List Nat→List DV
 |[],_,_=>[]
 |_::ds,i,[]=> .any::xw ds (i+1) []
 |d::ds,i,j::js=>if i=j then d::xw ds (i+1) js else .any::xw ds (i+1) (j::js)
def wk(live:List Nat)(fr:List DV):List DV:=xw fr 0 live
def l4(fr:List DV):List (Nat×DV)→List DV
 |[]=>fr
 |(i,d)::us=>l4 (fr.set i d) us
structure XX where
 a0:DV
 a1:DV
 a2:DV
 a3:DV
 a4:DV
 a5:DV
 a6:DV
 a7:DV
 a8:DV
 a9:DV
 cE:DV
 cH:DV
 a12:DV
 cV:DV
 cX:DV
 dh:DV
def rc(r:XX)(l:List DV):List DV:=r.a0::r.a1::r.a2::r.a3::r.a4::r.a5::r.a6::r.a7::r.a8::r.a9::r.cE::r.cH::r.a12::r.cV::r.cX::r.dh::l
def fU(l:List DV):List DV:=l
theorem LU{g:Gh}:∀{ds es:List DV} {us:List Value},aq g ds us→ds.length=es.length→(∀(i:Nat) (d e:DV),ds[i]? =some d→es[i]? =some e→e=d∨e= .any)→aq g es us:=
 fun{ds es us} h hl hs=>⟨by rw[←hl];exact h.len,fun i e u h1 h2=>by
  have hi:i<ds.length:=by rw[hl];exact(aaq.1 h1).1
  rcases hs i _ e (aay hi) h1 with rfl|rfl
  ·exact h.at_ i _ u (aay hi) h2
  ·exact .any u⟩
theorem ny:∀(ds:List DV) (k:Nat) (js:List Nat),(xw ds k js).length=ds.length∧∀(i:Nat) (d e:DV),ds[i]? =some d→(xw ds k js)[i]? =some e→e=d∨e= .any
 |[],k,js=>⟨by simp[xw],fun i d e h=>by simp at h⟩
 |d::ds,k,[]=>by
  obtain⟨h1,h2⟩:=ny ds (k+1) [];refine⟨by simp[xw,h1],fun i d' e a b=>?_⟩
  cases i with
  |zero=>simp[xw]at b;exact .inr b.symm
  |succ i=>simp[xw]at a b;exact h2 i d' e a b
 |d::ds,k,j::js=>by
  simp only[xw];split
  ·obtain⟨h1,h2⟩:=ny ds (k+1) js;refine⟨by simp[h1],fun i d' e a b=>?_⟩
   cases i with
   |zero=>simp at a b;exact .inl (b.symm.trans a)
   |succ i=>simp at a b;exact h2 i d' e a b
  ·obtain⟨h1,h2⟩:=ny ds (k+1) (j::js);refine⟨by simp[h1],fun i d' e a b=>?_⟩
   cases i with
   |zero=>simp at b;exact .inr b.symm
   |succ i=>simp at a b;exact h2 i d' e a b
theorem p9{g:Gh}{fr:List DV}{us:List Value}(live:List Nat)(h:aq g fr us):aq g (wk live fr) us:=
 LU h (ny fr 0 live).1.symm (ny fr 0 live).2
section
variable {P:Program} {w0:W0}
theorem KQ(i s:Nat)(hs:0<s){c:Code}{fr:List DV}{S:St}{Q:Exit→List DV→St→Prop}{s0:Nat}(hi:fr[i]? =some (.sl s0 true []))
 (h:∀l,jF S.acc l→gF P w0 c (fr.set i (.acc l 0)) ⟨S.box,(l,.arr s [])::S.acc⟩ Q):gF P w0 c fr S Q:=by
 intro g a w h1 h2 h3;have hlt:i<a.tmps.toList.length:=by rw[←h2.len];exact(aaq.1 hi).1
 have hr:=h2.at_ i _ _ hi (aay hlt);have hr':aY g (.sl s true []) a.tmps.toList[i]:=by obtain⟨o',ho'⟩:=fj hr;rw[ho'];exact .nil _ _ _ _ fun _=>rfl
 obtain⟨l,g',hle,hne,hR,hA⟩:=h1.rU hs hr' (.arr s []) (.inr ⟨rfl,rfl⟩);have hfr:=fQ (h2.mono hle) (aay hlt) hA;exact eK (h l (dG hne) g' a w hR hfr (hle.dk h3)) fun _ _ _ k=>k.of_le hle
end
end Aml
namespace Aml
open Go Go.RowKit
def IT(xs:List DV)(i:Nat)(F:DV→Prop):Prop:=∀d,xs[i]? =some d→fk d=true∧F d
def Gf(xs:List DV)(i:Nat)(F:DV→Prop):Prop:=∃d,xs[i]? =some d∧fk d=true∧F d
theorem CA{α:Type}(f:α→DV)(l:List α)(i:Nat)(F:DV→Prop):IT (List.map f l) i F=∀a,l[i]? =some a→fk (f a)=true∧F (f a):=by
 unfold IT;refine propext ⟨fun h a ha=>h _ (by rw[acP,ha];rfl),fun h d hd=>?_⟩;rw[acP,acT]at hd;obtain⟨a,ha,rfl⟩:=hd;exact h a ha
theorem KI(i:Nat)(F:DV→Prop):IT [] i F=True:=by simp[IT]
theorem G6(x:DV)(xs:List DV)(F:DV→Prop):IT (x::xs) 0 F=(fk x=true∧F x):=by simp[IT]
theorem Iw(x:DV)(xs:List DV)(i:Nat)(F:DV→Prop):IT (x::xs) (i+1) F=IT xs i F:=by simp[IT]
theorem Bx{α:Type}(f:α→DV)(l:List α)(i:Nat)(F:DV→Prop):Gf (List.map f l) i F=(i<l.length∧∀a,l[i]? =some a→fk (f a)=true∧F (f a)):=by
 unfold Gf;refine propext ⟨fun⟨d,hd,h⟩=>?_,fun⟨hi,h⟩=>⟨f l[i],by rw[acP,aay hi];rfl,h _ (aay hi)⟩⟩;rw[acP,acT]at hd;obtain⟨a,ha,rfl⟩:=hd;exact⟨(aaq.1 ha).1,fun b hb=>by rw[ha]at hb;cases hb;exact h⟩
theorem NL(i:Nat)(F:DV→Prop):Gf [] i F=False:=by simp[Gf]
theorem P3(u:Value):fk (.v u)=true:=rfl
theorem NU(s:Nat)(f:Bool)(xs:List DV):fk (.sl s f xs)=true:=rfl
theorem HF(ds:List DV):fk (.agg ds)=true:=rfl
theorem Jb(t:TypeId)(d:DV):fk (.kQ t d)=true:=rfl
theorem Hk(l n:Nat):fk (.acc l n)=true:=rfl
theorem Vj(u:Value):cd (.v u)=[.v u]:=rfl
theorem PS(s:Nat)(f:Bool)(xs:List DV):cd (.sl s f xs)=[.sl s f xs]:=rfl
theorem Ks(ds:List DV):cd (.agg ds)=ds:=rfl
theorem KU(t:TypeId)(d:DV):cd (.kQ t d)=[.kQ t d]:=rfl
theorem KY(l n:Nat):cd (.acc l n)=[.acc l n]:=rfl
theorem fu{α:Type}(k:Nat)(x:α)(t:List (Nat×α)):lk ((k,x)::t) k=some x:=by simp[lk]
theorem qQ{α:Type}{k n:Nat}(h:¬k=n)(x:α)(t:List (Nat×α)):lk ((k,x)::t) n=lk t n:=by simp[lk,h]
theorem Jf{α:Type}(k:Nat)(x y:α)(t:List (Nat×α)):up ((k,x)::t) k y=(k,y)::t:=by simp[up]
theorem Sa{α:Type}{k n:Nat}(h:¬k=n)(x y:α)(t:List (Nat×α)):up ((k,x)::t) n y=(k,x)::up t n y:=by simp[up,h]
section
variable {P:Program} {w0:W0} (K:DV→Prop) (K2:DV→St→Prop) (S:St)
theorem Kn(k:IntKind)(d:DV)(ds:List DV):rm (.int k) (d::ds) K=K d:=rfl
theorem OB(d:DV)(ds:List DV):rm .one (d::ds) K=K d:=rfl
theorem Qv(d:DV)(ds:List DV):rm .fn (d::ds) K=K d:=rfl
theorem Lv(d:DV)(ds:List DV):rm .str (d::ds) K=K d:=rfl
theorem OM(e s b:Nat)(i:Bool)(d:DV)(ds:List DV):rm (.sl e s b i) (d::ds) K=K d:=rfl
theorem Kk(k e:Nat)(d:DV)(ds:List DV):rm (.map k e) (d::ds) K=K d:=rfl
theorem J7(e:Nat)(d:DV)(ds:List DV):rm (.ptr e) (d::ds) K=K d:=rfl
theorem OF(m:List String)(d:DV)(ds:List DV):rm (.kQ m) (d::ds) K=K d:=rfl
theorem Px(fs:List (Nat×Nat×Bool))(n:Nat)(ds:List DV):rm (.st fs n) ds K=(n≤ds.length∧K (.agg (ds.take n))):=rfl
theorem H8(k:TK)(ds:List DV):cn k S (.ip ds) K=rm k ds K:=rfl
theorem Sb(e s b s':Nat)(f:Bool)(xs:List DV)(k:IntKind)(z:Int):aP (.sl e s b true) (.sl s' f xs) (.v (.int k z)) K=(s'=s∧0≤z∧z<xs.length∧IT xs z.toNat fun d=>K (.ip (cd d))):=rfl
theorem NJ(e s b bb o n c:Nat)(k:IntKind)(z:Int):aP (.sl e s b true) (.v (.slice (some ⟨bb,o,none⟩) n c)) (.v (.int k z)) K=(0≤z∧z<n∧K (.v (.pointer (some ⟨bb,o+z.toNat*s,none⟩)))):=rfl
theorem Mq(len e s nn bb o:Nat)(a:Bool)(k:IntKind)(z:Int):aP (.ar len e s a nn) (.v (.pointer (some ⟨bb,o,none⟩))) (.v (.int k z)) K=(0<s∧0≤z∧z<len∧K (.v (.pointer (some ⟨bb,o+z.toNat*s,none⟩)))):=rfl
theorem IN(len e s nn:Nat)(a:Bool)(ds:List DV)(k:IntKind)(z:Int):aP (.ar len e s a nn) (.ip ds) (.v (.int k z)) K=(0<s∧0≤z∧z<len∧z.toNat*s≤ds.length∧K (.ip (ds.drop (z.toNat*s)))):=rfl
theorem LJ(e s b l n:Nat)(k:IntKind)(z:Int):aP (.sl e s b true) (.acc l n) (.v (.int k z)) K=(0≤z∧z<n∧K (.ap l n s z.toNat 0)):=rfl
theorem RK(s:ByteArray)(k:IntKind)(z:Int):kA .str (.v (.string s)) (.v (.int k z)) K=(0≤z∧z<s.size∧∀c,s.data.toList[z.toNat]? =some c→K (.v (.int .u8 c.toNat))):=rfl
theorem N8(op:BinOp)(t:TK)(cx cy:Bool)(k k':IntKind)(m n:Int):tn op t cx cy (.v (.int k m)) (.v (.int k' n)) K=(sameKind op k k'=true∧pj op k m n K):=rfl
theorem MQ(op:BinOp)(t:TK)(cx cy:Bool)(a b:ByteArray):tn op t cx cy (.v (.string a)) (.v (.string b)) K=j3 op a b K:=rfl
theorem KE(cx cy a b:Bool):tn .neq .one cx cy (.v (.bool a)) (.v (.bool b)) K=K (.v (.bool (!(a==b)))):=rfl
theorem NH(b:Bool):Jj .not (.v (.bool b)) K=K (.v (.bool (!b))):=rfl
theorem Ly(k:IntKind)(n:Int):Jj .xor (.v (.int k n)) K=K (.v (.int k (fL .xor k (if k.signed then -1 else k.max) n))):=rfl
theorem L3(k0 k k1:IntKind)(n:Int):jx (.int k0) (.int k) (.v (.int k1 n)) K=K (.v (.int k (k.wrap n))):=rfl
theorem KT(a:Addr):notNil (.v (.pointer (some a)))=true:=rfl
theorem MB(u:Value):ou S (.v u) K2=K2 (.v u) S:=rfl
theorem Hb(s:Nat)(f:Bool)(xs:List DV):ou S (.sl s f xs) K2=K2 (.sl s f xs) S:=rfl
theorem BG(K3:List DV→St→Prop):nN S [] K3=K3 [] S:=rfl
theorem zg(d:DV)(ds:List DV)(K3:List DV→St→Prop):nN S (d::ds) K3=ou S d fun e S=>nN S ds fun es S=>K3 (e::es) S:=rfl
theorem Ra(u:Value):shr S (.v u) K2=K2 (.v u) S:=rfl
theorem L4(s:Nat)(f:Bool)(xs:List DV):shr S (.sl s f xs) K2=K2 (.sl s f xs) S:=rfl
theorem I0(t:TypeId)(d:DV):shr S (.kQ t d) K2=K2 (.kQ t d) S:=rfl
theorem G4(l n:Nat):shr S (.acc l n) K2=ou S (.acc l n) K2:=rfl
theorem G3(ds:List DV):shr S (.agg ds) K2=nN S ds fun ds S=>K2 (.agg ds) S:=rfl
theorem E3(K3:List DV→St→Prop):iq S [] K3=K3 [] S:=rfl
theorem zR(d:DV)(ds:List DV)(K3:List DV→St→Prop):iq S (d::ds) K3=shr S d fun e S=>iq S ds fun es S=>K3 (e::es) S:=rfl
theorem MV(u:Value):pD S (.v u) K2=K2 (.v u) S:=rfl
theorem H9(s:Nat)(f:Bool)(xs:List DV):pD S (.sl s f xs) K2=K2 (.sl s f xs) S:=rfl
theorem Dq(l n:Nat):pD S (.acc l n) K2=ou S (.acc l n) K2:=rfl
theorem Fj(ds:List DV):pD S (.agg ds) K2=nN S ds fun ds S=>K2 (.agg ds) S:=rfl
theorem Et(ds:List DV):pD S (.bM ds) K2=iq S ds fun ds S=>K2 (.bM ds) S:=rfl
theorem Ds(z:Int)(K4:Int→Prop):mj none z K4=K4 z:=rfl
theorem EF(k:IntKind)(n z:Int)(K4:Int→Prop):mj (some (.v (.int k n))) z K4=K4 n:=rfl
theorem DO(e s b s':Nat)(f:Bool)(xs:List DV)(lo hi mx:Option DV):fX (.sl e s b true) (.sl s' f xs) lo hi mx K=((s'=s∨xs=[])∧mj lo 0 fun l=>mj hi xs.length fun h=>mj mx h fun m=>0≤l∧l≤h∧h≤m∧m≤xs.length∧
 K (.sl s (if mx.isSome then decide (m=h)else(f&&(hi.isNone||xs.isEmpty))) ((xs.take h.toNat).drop l.toNat))):=rfl
theorem Bl(s:ByteArray)(lo hi mx:Option DV):fX .str (.v (.string s)) lo hi mx K=(mx.isNone=true∧mj lo 0 fun l=>mj hi s.size fun h=>0≤l∧l≤h∧h≤s.size∧K (.v (.string (s.extract l.toNat h.toNat)))):=rfl
theorem LA(e s b:Nat)(i:Bool)(s':Nat)(f:Bool)(xs:List DV):pS (.sl e s b i) (.sl s' f xs) K=K (.v (.int .i64 xs.length)):=rfl
theorem Ji(e s b:Nat)(i:Bool)(l n:Nat):pS (.sl e s b i) (.acc l n) K=K (.v (.int .i64 n)):=rfl
theorem Hv(s:ByteArray):pS .str (.v (.string s)) K=K (.v (.int .i64 s.size)):=rfl
theorem Xr(k k':IntKind)(m n:Int):tu (.v (.int k m)) (.v (.int k' n)) K=K (.v (.int k (if n<m then n else m))):=rfl
theorem X9(k k':IntKind)(m n:Int):tB (.v (.int k m)) (.v (.int k' n)) K=K (.v (.int k (if m<n then n else m))):=rfl
theorem CG(k:TK)(s:Nat)(f:Bool)(xs:List DV)(lo hi mx:Option DV):iO k S (.sl s f xs) lo hi mx K2=fX k (.sl s f xs) lo hi mx (K2 · S):=rfl
theorem E4(k:TK)(u:Value)(lo hi mx:Option DV):iO k S (.v u) lo hi mx K2=fX k (.v u) lo hi mx (K2 · S):=rfl
theorem zH(k:TK)(l n:Nat)(lo hi mx:Option DV):iO k S (.acc l n) lo hi mx K2=((lo.isNone=true∧mx.isNone=true∧WO n hi∧(∃e s b,k= .sl e s b true)∧xv S (.acc l n) (YY hi) K2)∨lz k S (.acc l n) lo hi mx K2):=rfl
theorem YB(k:IntKind)(m:Nat)(n:Int):WO m (some (.v (.int k n)))=((n==0)=true∨(0≤n∧n≤m)):=rfl
theorem Xq(k:IntKind)(n:Int):YY (some (.v (.int k n)))=n.toNat:=rfl
theorem Qx(m:Nat):WO m none=False:=rfl
theorem Dw(t:Nat):jn (.tmp t)=false:=rfl
theorem En(k:IntKind)(n:Int):jn (.const (.int k n))=false:=rfl
theorem CW(s:ByteArray):jn (.const (.string s))=false:=rfl
theorem E6:jn (.const (.slice none 0 0))=true:=rfl
theorem Fe(e s b s':Nat)(i f:Bool)(xs:List DV):nG .eql (.sl e s b i) (.sl s' f xs) K=∀b:Bool,(xs≠[]→b=false)→K (.v (.bool b)):=rfl
theorem E9(e s b n c:Nat)(i:Bool)(p:Addr):nG .eql (.sl e s b i) (.v (.slice (some p) n c)) K=K (.v (.bool false)):=rfl
theorem Mi(e s b s':Nat)(z:DV)(k:IntKind)(n:Int):mw (.sl e s b true) z S (.sl s' true []) (.v (.int k n)) K2=(fk z=true∧0<n∧n*b≤140737488355328∧n≤9223372036854775807∧∀l,jF S.acc l→K2 (.acc l n.toNat) ⟨S.box,(l,.arr s (List.replicate n.toNat z))::S.acc⟩):=rfl
theorem Db(n:Nat)(u:Value)(y:DV)(K5:St→Prop):gp n S (.v u) y K5=pX n S (.v u) y K5:=rfl
theorem B3(e s b:Nat)(z:DV)(k k':IntKind)(n m:Int):gz (.sl e s b true) z (.v (.int k n)) (.v (.int k' m)) S K2=(fk z=true∧0≤n∧n≤m∧m*b≤140737488355328∧m≤9223372036854775807∧∀l,jF S.acc l→K2 (.acc l n.toNat) ⟨S.box,(l,.arr s (List.replicate n.toNat z))::S.acc⟩):=rfl
theorem XF(e s b:Nat)(i:Bool)(s':Nat)(xs:List DV):tA (.sl e s b i) (.sl s' true xs) K=K (.v (.int .i64 xs.length)):=rfl
theorem G0(s:Nat)(f:Bool)(xs:List DV)(K6:Nat→List DV→Prop):gL S (.sl s f xs) K6=K6 s xs:=rfl
theorem Eg(b o n c:Nat)(K6:Nat→List DV→Prop):gL S (.v (.slice (some ⟨b,o,none⟩) n c)) K6=oK (lk S.box b) fun ds=>o+n≤ds.length∧K6 1 ((ds.drop o).take n):=by
 cases h:lk S.box b <;>simp[gL,oK,h]
theorem Dy(b:ByteArray)(K6:Nat→List DV→Prop):gL S (.v (.string b)) K6=K6 1 (b.data.toList.map fun c=> .v (.int .u8 c.toNat)):=rfl
theorem L8(e s b:Nat)(k2:TK)(x y:DV):mO (.sl e s b true) k2 S x y K2=(pN k2=true∧gL S y fun s2 ys=>(s2=s∨ys=[])∧wu s b S x ys K2):=rfl
theorem I8(s0 s by':Nat)(ys:List DV):wu s by' S (.sl s0 true []) ys K2=(ys.length*by'≤140737488355328∧ys.length≤maxLen∧∀l,jF S.acc l→K2 (.acc l ys.length) ⟨S.box,(l,.arr s ys)::S.acc⟩):=rfl
theorem EM(s0 s by':Nat)(x:DV)(xs ys:List DV):wu s by' S (.sl s0 true (x::xs)) ys K2=(s0=s∧((x::xs).length+ys.length)*by'≤140737488355328∧(x::xs).length+ys.length≤maxLen∧∀l,jF S.acc l→K2 (.acc l ((x::xs)++ys).length) ⟨S.box,(l,.tl s ((x::xs)++ys))::S.acc⟩):=rfl
theorem Va(f:FuncId)(a cap:Array Value)(ds:List DV):qB P w0 (.v (.func (.func f) a cap)) ds S K2=(cap.toList.all (fun u=>u.oneCell')=true∧Hh a (gX (okF P f) (ji S ds fun ds S=>@AC P w0 f (ds++cap.toList.map .v) S ⟨K2⟩) (@XC P w0 f (ds++cap.toList.map .v) S ⟨K2⟩)) fun us=>okF P f=true∧ji S ds fun ds S=>@AC P w0 f (us.map .v++(ds++cap.toList.map .v)) S ⟨K2⟩):=rfl
theorem HZ(A:Prop)(B:List Value→Prop):Hh #[] A B=A:=rfl
theorem I4(u:Value)(A:Prop)(B:List Value→Prop):Hh #[u] A B=(([u]:List Value).all (fun u=>u.oneCell')=true∧B [u]):=rfl
theorem Y4(t:TypeId)(name:String)(F:FuncId→DV→Prop):uT P (.kQ t (.agg [])) name F=oK (tr P t name) fun f=>okF P f=true∧F f (.agg []):=by
 unfold uT;cases h:tr P t name <;>simp only[oK,h]
theorem xV:jk []=false:=rfl
theorem yF(l n:Nat)(ds:List DV):jk (.acc l n::ds)=true:=rfl
theorem EK(u:Value)(ds:List DV):jk (.v u::ds)=jk ds:=rfl
theorem B8(s:Nat)(f:Bool)(xs ds:List DV):jk (.sl s f xs::ds)=jk ds:=rfl
theorem xY(xs ds:List DV):jk (.agg xs::ds)=jk ds:=rfl
theorem I3(fr:List DV)(t:Nat):s7 P fr S K (.tmp t)=K (fr.getD t ud):=rfl
theorem DE(fr:List DV)(a t:Nat):s7 P fr S K (.cell a t)=cn (tk P t) S (fr.getD a ud) K:=rfl
theorem Dc(fr:List DV)(r:ResultVar):wi P fr S [r] K=s7 P fr S K r:=rfl
theorem Fs(fr:List DV):wi P fr S [] K=K (.bM []):=rfl
theorem Es(fr:List DV)(r r':ResultVar)(rs:List ResultVar):wi P fr S (r::r'::rs) K=vb P fr S (r::r'::rs) fun ds=>K (.bM ds):=rfl
end
theorem xx{α:Type}(a:α)(F:α→Prop):oK (some a) F=F a:=rfl
def bK:Option Ob→(Nat→List DV→Prop)→(Nat→List DV→Prop)→Prop
 |some (.arr s xs),F,_=>F s xs
 |some (.tl s xs),_,G=>G s xs
 |_,_,_=>False
theorem K8(s:Nat)(xs:List DV)(F G:Nat→List DV→Prop):bK (some (.arr s xs)) F G=F s xs:=rfl
theorem Q2(s:Nat)(xs:List DV)(F G:Nat→List DV→Prop):bK (some (.tl s xs)) F G=G s xs:=rfl
def Uu(p:Option (Nat×Nat×Bool))(x:DV)(K:DV→Prop):Prop:=match p with
 |some (off,sz,_)=>sz≠0∧(match x with
  | .v (.pointer (some ⟨b,o,none⟩))=>K (.v (.pointer (some ⟨b,o+off,none⟩)))
  | .ip ds=>off≤ds.length∧K (.ip (ds.drop off))
  | .ap l n s i o=>K (.ap l n s i (o+off))
  |_=>False)
 |none=>False
def fvK(p:Option (Nat×Nat×Bool))(ds:List DV)(K:DV→Prop):Prop:=match p with
 |some (off,sz,true)=>off+sz≤ds.length∧K (.agg ((ds.drop off).take sz))
 |some (off,sz,false)=>off+sz≤ds.length∧oK (ds[off]?) K
 |none=>False
def gD(t:Nat)(d:DV)(fr:List DV)(want:Bool)(A B:List DV→Prop):Prop:=match d with
 | .v (.bool b)=>(b=want→A (fr.set t (.v (.bool want))))∧(b=!want→B (fr.set t (.v (.bool !want))))
 | .bM []=>B fr
 |_=>False
def gK(t:Option Tmp)(fr:List DV)(want:Bool)(A B:List DV→Prop):Prop:=match t with
 |none=>B fr
 |some t=>gD t (fr.getD t ud) fr want A B
def YQ(k:TK)(z:DV)(parts:List (Nat×DV))(K:DV→Prop):Prop:=match k,z with
 | .st fs _,.agg zs=>oK (mi fs zs parts) fun ds=>K (.agg ds)
 |_,_=>False
section
variable {P:Program} {w0:W0} (K:DV→Prop) (K2:DV→St→Prop) (S:St)
theorem CT(k:TK)(b o:Nat):cn k S (.v (.pointer (some ⟨b,o,none⟩))) K=oK (lk S.box b) fun ds=>rm k (ds.drop o) K:=by
 cases h:lk S.box b <;>simp[cn,oK,h]
theorem Hi(k:TK)(l n s i o:Nat):cn k S (.ap l n s i o) K=bK (lk S.acc l) (fun s' xs=>xs.length=n∧s'=s∧Gf xs i fun d=>rm k ((cd d).drop o) K) (fun s' xs=>xs.length=n∧s'=s∧Gf xs i fun d=>rm k ((cd d).drop o) K):=by
 cases h:lk S.acc l with
 |none=>simp[cn,bK,h]
 |some o=>cases o <;>simp[cn,bK,h,Gf]
theorem Eh(n e s nn bb o:Nat)(a:Bool)(lo hi mx:Option DV):fX (.ar n e s a nn) (.v (.pointer (some ⟨bb,o,none⟩))) lo hi mx K=(0<s∧mj lo 0 fun l=>mj hi n fun h=>mj mx n fun m=>0≤l∧l≤h∧h≤m∧m≤n∧
 K (.v (.slice (some ⟨bb,if m.toNat=l.toNat then o else o+l.toNat*s,none⟩) (h.toNat-l.toNat) (m.toNat-l.toNat)))):=rfl
theorem Cq(e s b bb o n c:Nat)(lo hi mx:Option DV):fX (.sl e s b true) (.v (.slice (some ⟨bb,o,none⟩) n c)) lo hi mx K=mj lo 0 fun l=>mj hi n fun h=>mj mx c fun m=>0≤l∧l≤h∧h≤m∧m≤c∧
 K (.v (.slice (some ⟨bb,if m.toNat=l.toNat then o else o+l.toNat*s,none⟩) (h.toNat-l.toNat) (m.toNat-l.toNat))):=rfl
theorem H2(e s b:Nat)(i:Bool)(a:Option Addr)(n c:Nat):pS (.sl e s b i) (.v (.slice a n c)) K=K (.v (.int .i64 n)):=rfl
theorem IA(e s b:Nat)(i:Bool)(a:Option Addr)(n c:Nat):tA (.sl e s b i) (.v (.slice a n c)) K=K (.v (.int .i64 c)):=rfl
theorem Bh(a:Addr)(n c:Nat):vZ (.v (.slice (some a) n c))=true:=rfl
theorem EU(s:Nat)(f:Bool)(xs:List DV):vZ (.sl s f xs)=false:=rfl
theorem BU(l n:Nat):vZ (.acc l n)=false:=rfl
theorem C1(s b o m c:Nat)(F:Nat→List DV→Prop):qh S s (.v (.slice (some ⟨b,o,none⟩) m c)) F=oK (lk S.box b) fun es=>o+m*s≤es.length∧F m ((es.drop o).take (m*s)):=by
 cases h:lk S.box b <;>simp[qh,oK,h]
theorem Js(s s':Nat)(f:Bool)(ys:List DV)(F:Nat→List DV→Prop):qh S s (.sl s' f ys) F=((s'=s∨ys=[])∧(∀d,d∈ys→fk d=true)∧F ys.length (ys.flatMap cd)):=rfl
theorem UZ(e s b bb o n c:Nat)(y:DV):qs (.sl e s b true) S (.v (.slice (some ⟨bb,o,none⟩) n c)) y K2=oK (lk S.box bb) fun ds=>o+n*s≤ds.length∧wP S s ds o bb n y K2:=by
 cases h:lk S.box bb with
 |none=>simp[qs,oK,h]
 |some ds=>
  simp only[qs,oK,h,wP];split
  ·rename_i b2 o2 m c2;cases h2:lk S.box b2 <;>simp[oK]
  ·rfl
theorem zZ(s bb o n:Nat)(ds:List DV)(b2 o2 m c2:Nat):wP S s ds o bb n (.v (.slice (some ⟨b2,o2,none⟩) m c2)) K2=oK (lk S.box b2) fun es=>o2+m*s≤es.length∧K2 (.v (.int .i64 (min m n:Nat))) ⟨up S.box bb (cS ds o ((es.drop o2).take (min m n*s))),S.acc⟩:=rfl
theorem CX(s bb o n:Nat)(ds:List DV)(s':Nat)(f:Bool)(ys:List DV):wP S s ds o bb n (.sl s' f ys) K2=((s'=s∨ys=[])∧(∀d,d∈ys→fk d=true)∧ys.length≤n∧K2 (.v (.int .i64 ys.length)) ⟨up S.box bb (cS ds o (ys.flatMap cd)),S.acc⟩):=rfl
theorem PT(e s b bb o n c:Nat)(z:DV):nX (.sl e s b true) z S (.v (.slice (some ⟨bb,o,none⟩) n c)) K2=oK (lk S.box bb) fun ds=>fk z=true∧o+n*s≤ds.length∧K2 ud ⟨up S.box bb (cS ds o (jw z n)),S.acc⟩:=by
 cases h:lk S.box bb <;>simp[nX,oK,h]
theorem Tu(e s by' b o n c:Nat)(k2:TK)(y:DV):sU (.sl e s by' true) k2 S (.v (.slice (some ⟨b,o,none⟩) n c)) y K2=oK (lk S.box b) fun ds=>pN k2=true∧o+c*s≤ds.length∧n≤c∧qh S s y fun m cs=>
 (n+m≤c→K2 (.v (.slice (some ⟨b,o,none⟩) (n+m) c)) ⟨up S.box b (cS ds (o+n*s) cs),S.acc⟩)∧
 (c<n+m→(n+m)*by'≤140737488355328∧n+m≤maxLen∧∀C,n+m≤C→C≤maxLen→∀b2,jF S.box b2→
  K2 (.v (.slice (some ⟨b2,0,none⟩) (n+m) C)) ⟨(b2,(ds.drop o).take (n*s)++cs++List.replicate ((C-(n+m))*s) .any)::S.box,S.acc⟩):=by
 cases h:lk S.box b <;>simp[sU,oK,h]
theorem UC(e s by' b o n c:Nat)(k:IntKind)(m:Int)(z:DV):sO (.sl e s by' true) z S (.v (.slice (some ⟨b,o,none⟩) n c)) (.v (.int k m)) K2=oK (lk S.box b) fun ds=>fk z=true∧o+c*s≤ds.length∧n≤c∧0<m∧c<n+m.toNat∧(n+m.toNat)*by'≤140737488355328∧n+m.toNat≤maxLen∧∀C,n+m.toNat≤C→C≤maxLen→∀b2,jF S.box b2→
 K2 (.v (.slice (some ⟨b2,0,none⟩) (n+m.toNat) C)) ⟨(b2,(ds.drop o).take (n*s)++jw z m.toNat++List.replicate ((C-(n+m.toNat))*s) .any)::S.box,S.acc⟩:=by
 cases h:lk S.box b <;>simp[sO,oK,h]
theorem RF(fs:List (Nat×Nat×Bool))(n f:Nat)(x:DV):ix (.st fs n) f x K=Uu (fs[f]?) x K:=by
 cases h:fs[f]? <;>simp only[ix,Uu,h] <;>cases x <;>rfl
theorem NO(off sz b o:Nat)(ag:Bool):Uu (some (off,sz,ag)) (.v (.pointer (some ⟨b,o,none⟩))) K=(sz≠0∧K (.v (.pointer (some ⟨b,o+off,none⟩)))):=rfl
theorem P1(off sz:Nat)(ag:Bool)(ds:List DV):Uu (some (off,sz,ag)) (.ip ds) K=(sz≠0∧off≤ds.length∧K (.ip (ds.drop off))):=rfl
theorem OU(off sz l m s i o:Nat)(ag:Bool):Uu (some (off,sz,ag)) (.ap l m s i o) K=(sz≠0∧K (.ap l m s i (o+off))):=rfl
theorem JC(i:Nat)(ds:List DV):fa i (.bM ds) K=oK (ds[i]?) K:=by
 cases h:ds[i]? <;>simp[fa,oK,h]
theorem Dl(l n:Nat):ou S (.acc l n) K2=bK (lk S.acc l) (fun s xs=>xs.length=n∧K2 (.sl s false xs) ⟨S.box,up S.acc l (.tl s xs)⟩) (fun s xs=>xs.length=n∧K2 (.sl s false xs) S):=by
 cases h:lk S.acc l with
 |none=>simp[ou,bK,h]
 |some o=>cases o <;>simp[ou,bK,h]
theorem Qt(n b o:Nat)(y:DV)(K5:St→Prop):pX n S (.v (.pointer (some ⟨b,o,none⟩))) y K5=(fk y=true∧(cd y).length=n∧oK (lk S.box b) fun ds=>o+n≤ds.length∧K5 ⟨up S.box b (gZ ds o (cd y)),S.acc⟩):=by
 cases h:lk S.box b <;>simp[pX,oK,h]
theorem Ce(n l m s i o:Nat)(y:DV)(K5:St→Prop):gp n S (.ap l m s i o) y K5=(fk y=true∧(cd y).length=n∧bK (lk S.acc l) (fun s' xs=>s'=s∧xs.length=m∧o+n≤s∧Gf xs i fun d=>oK (tg d o n s y) fun d'=>K5 ⟨S.box,up S.acc l (.arr s (xs.set i d'))⟩) (fun _ _=>False)):=by
 cases h:lk S.acc l with
 |none=>simp[gp,bK,h]
 |some o=>cases o with
  |tl s' xs=>simp[gp,bK,h]
  |xo f=>simp[gp,bK,h]
  |arr s' xs=>
   simp only[gp,bK,h,Gf];refine propext (and_congr afp (and_congr afp (and_congr afp (and_congr afp (and_congr afp (exists_congr fun d=>and_congr afp (and_congr afp ?_)))))))
   cases tg d o n s y with
   |none=>simp[oK]
   |some x=>simp[oK]
theorem EO(l n:Nat)(K6:Nat→List DV→Prop):gL S (.acc l n) K6=bK (lk S.acc l) (fun s xs=>xs.length=n∧K6 s xs) (fun s xs=>xs.length=n∧K6 s xs):=by
 cases h:lk S.acc l with
 |none=>simp[gL,bK,h]
 |some o=>cases o <;>simp[gL,bK,h]
theorem JE(l n s by':Nat)(ys:List DV):wu s by' S (.acc l n) ys K2=bK (lk S.acc l)
 (fun s' xs=>s'=s∧xs.length=n∧(xs.length+ys.length)*by'≤140737488355328∧xs.length+ys.length≤maxLen∧K2 (.acc l (xs++ys).length) ⟨S.box,up S.acc l (.arr s (xs++ys))⟩)
 (fun s' xs=>s'=s∧xs.length=n∧(xs.length+ys.length)*by'≤140737488355328∧xs.length+ys.length≤maxLen∧K2 (.acc l (xs++ys).length) ⟨S.box,up S.acc l (.tl s (xs++ys))⟩):=by
 cases h:lk S.acc l with
 |none=>simp[wu,bK,h]
 |some o=>cases o <;>simp[wu,bK,h]
theorem uf(ops:Array Oper)(fr:List DV)(j:Nat)(want:Bool)(A B:List DV→Prop):cJ ops fr (some (j,want)) A B=gK ((ops[j]?).bind (·.dst)) fr want A B:=by
 cases h:(ops[j]?).bind (·.dst) <;>simp only[cJ,gK,h] <;>rfl
theorem HS(t:Nat)(fr:List DV)(want:Bool)(A B:List DV→Prop):gK (some t) fr want A B=gD t (fr.getD t ud) fr want A B:=rfl
theorem Rp(t:Nat)(fr:List DV)(want:Bool)(A B:List DV→Prop):gD t ud fr want A B=B fr:=rfl
theorem VH(fn:Fn)(a b:List DV):nY fn a b K=oK (fb a) fun us=>oK (fb b) fun vs=>K (.v (.func fn us.toArray vs.toArray)):=by
 cases h:fb a <;>cases h':fb b <;>simp[nY,oK,h,h']
theorem Sj(t:TypeId)(parts:List (Nat×DV)):hJ P t parts K=YQ (tk P t) (zD P t) parts K:=by
 cases h:tk P t <;>cases h':zD P t <;>simp only[hJ,YQ,h,h'] <;>(rename_i fs _ zs;cases h2:mi fs zs parts <;>simp[oK])
theorem aaP(fs:List (Nat×Nat×Bool))(n:Nat)(zs:List DV)(parts:List (Nat×DV)):YQ (.st fs n) (.agg zs) parts K=oK (mi fs zs parts) fun ds=>K (.agg ds):=rfl
theorem Zd(e s b len:Nat)(z:DV)(parts:List (Nat×DV)):bc (.sl e s b true) z len parts K=(fk z=true∧(cd z).length=s∧len*s≤16777216∧oK (pc s (List.replicate len z) parts) fun xs=>K (.sl s true xs)):=by
 cases h:pc s (List.replicate len z) parts <;>simp[bc,oK,h]
end
end Aml
namespace Aml
open Go Go.RowKit
def QY(P:Program)(w0:W0)(S:St)(o:Oper)(fr:List DV)(d:DV):Prop:=au P w0 o (ev fr) S fun d' S'=>d'=d∧S'=S
def eg(ops:Array Oper)(fr:List DV)(gd:Option (Nat×Bool)):Option Bool:=match gd with
 |none=>some true
 |some (j,want)=>match(ops[j]?).bind (·.dst)with
  |none=>some false
  |some t=>match fr.getD t ud with
   | .v (.bool b)=>some (b==want)
   | .bM []=>some false
   |_=>none
def LQ(P:Program)(w0:W0)(S:St)(ops:Array Oper)(K:List DV→Prop):List Oper→List DV→Prop
 |[],fr=>K fr
 |o::rest,fr=>cJ ops fr o.guard (fun fr=>∃d,QY P w0 S o fr d∧LQ P w0 S ops K rest (pt fr o.dst d)) (fun fr=>LQ P w0 S ops K rest (pt fr o.dst ud))
def qOp(P:Program)(w0:W0)(S:St)(ops:Array Oper)(i:Nat)(K:List DV→Prop)(fr:List DV):Prop:=
 match ops[i]? with
 |none=>K fr
 |some o=>(eg ops fr o.guard=some true∧∃d,QY P w0 S o fr d∧K (pt fr o.dst d))∨(eg ops fr o.guard=some false∧K (pt fr o.dst ud))
def rK(P:Program)(w0:W0)(S:St)(md:Region.Mode)(ops:Array Oper)(K:List DV→Prop):Nat→Array Bool→List DV→Prop
 |0,listed,fr=>Region.ready md ops listed=[]∧K fr
 |fuel+1,listed,fr=>(Region.ready md ops listed=[]→K fr)∧∀i∈Region.ready md ops listed,qOp P w0 S ops i (rK P w0 S md ops K fuel (listed.setIfInBounds i true)) fr
def YD(P:Program)(w0:W0)(S:St)(ops:Array Oper)(o:Oper)(d:DV)(fr:List DV):Prop:=
 (eg ops fr o.guard=some true∧QY P w0 S o fr d)∨(eg ops fr o.guard=some false∧d=ud)
section
variable {P:Program} {w0:W0} {S:St} {ops:Array Oper} {md:Region.Mode}
theorem CI{fr:List DV}{t:Nat}{d:DV}(h:fr.getD t ud=d)(hd:d≠ud):fr.set t d=fr:=by
 rcases adR t fr.length with hl|hl
 ·rw[aee,aay hl,afF]at h;rw[←h,List.set_getElem_self]
 ·rw[aee,ad6 hl]at h;exact absurd h.symm hd
theorem kW{fr:List DV}{gd:Option (Nat×Bool)}{A B:List DV→Prop}(h:cJ ops fr gd A B):(eg ops fr gd=some true∧A fr)∨(eg ops fr gd=some false∧B fr):=by
 unfold cJ at h;unfold eg;split at h
 ·exact .inl ⟨rfl,h⟩
 ·rename_i j want;split at h
  ·rename_i hj;exact .inr ⟨by simp only[hj],h⟩
  ·rename_i t hj;simp only[hj];split at h
   ·rename_i b hb;rw[hb];by_cases hw:b=want
    ·have:=h.1 hw;rw[←hw,CI hb (by simp[ud])]at this;exact .inl ⟨by simp[hw],this⟩
    ·have hw':b=!want:=by cases b <;>cases want <;>simp_all
     have:=h.2 hw';rw[←hw',CI hb (by simp[ud])]at this;exact .inr ⟨by simp[hw],this⟩
   ·rename_i hb;rw[hb];exact .inr ⟨rfl,h⟩
   ·exact h.elim
theorem EE{fr:List DV}{gd:Option (Nat×Bool)}{x:Bool}(h:eg ops fr gd=some x):cJ ops fr gd (fun _=>x=true) (fun _=>x=false):=by
 unfold eg at h;unfold cJ;split at h
 ·simpa using h.symm
 ·rename_i j want;split at h
  ·rename_i hj;simp only[hj];simpa using h.symm
  ·rename_i t hj;simp only[hj];split at h
   ·rename_i b hb;rw[hb];simp only[adO]at h;exact⟨fun e=>by simp[←h,e],fun e=>by simp[←h,e]⟩
   ·rename_i hb;rw[hb];simpa using h.symm
   ·cases h
theorem fh{g:Gh}{fr:List DV}{a:Act}{o:Oper}{x:Bool}(hr:aq g fr a.tmps.toList)(h:eg ops fr o.guard=some x):Region.wanted o (yielded ops a.tmps)=x:=by
 rcases nr (o:=o) hr (EE h)with⟨h1,_,_,h2⟩|⟨h1,_,_,h2⟩
 ·rw[h1,h2]
 ·rw[h1,h2]
theorem qOp_mono{i:Nat}{fr:List DV}{K K':List DV→Prop}(h:∀fr,K fr→K' fr)(hh:qOp P w0 S ops i K fr):qOp P w0 S ops i K' fr:=by
 unfold qOp at*;split
 ·rename_i ho;simp only[ho]at hh;exact h _ hh
 ·rename_i o ho;simp only[ho]at hh;rcases hh with⟨h1,d,h2,h3⟩|⟨h1,h2⟩
  ·exact .inl ⟨h1,d,h2,h _ h3⟩
  ·exact .inr ⟨h1,h _ h2⟩
theorem YD.qOp{i:Nat}{o:Oper}{d:DV}{fr:List DV}(hi:ops[i]? =some o)(hy:YD P w0 S ops o d fr){K:List DV→Prop}(h:K (pt fr o.dst d)):qOp P w0 S ops i K fr:=by
 unfold Aml.qOp;simp only[hi];rcases hy with⟨h1,h2⟩|⟨h1,rfl⟩
 ·exact .inl ⟨h1,d,h2,h⟩
 ·exact .inr ⟨h1,h⟩
theorem Jm{i:Nat}{o:Oper}{fr:List DV}{K:List DV→Prop}(hi:ops[i]? =some o)(h:qOp P w0 S ops i K fr):∃d,YD P w0 S ops o d fr∧K (pt fr o.dst d):=by
 unfold qOp at h;simp only[hi]at h;rcases h with⟨h1,d,h2,h3⟩|⟨h1,h2⟩
 ·exact⟨d,.inl ⟨h1,h2⟩,h3⟩
 ·exact⟨ud,.inr ⟨h1,rfl⟩,h2⟩
theorem bg{o:Oper}{ρD ρD':Operand→DV}{K:DV→St→Prop}(h:∀x,x∈o.op.operands.toList→ρD x=ρD' x)(hy:au P w0 o ρD S K):au P w0 o ρD' S K:=
 fun g w ρ h1 h2 h3=>hy g w ρ h1 (fun x hx=>by rw[h x hx];exact h2 x hx) h3
theorem AB{fr:List DV}{t t':Nat}{d:DV}(h:t≠t'):(fr.set t d).getD t' ud=fr.getD t' ud:=by
 simp only[aee,afh,if_neg h]
theorem fN{fr:List DV}{dst:Option Tmp}{d:DV}{o:Oper}(h:∀t,dst=some t→t∉o.looksAt ops):∀x,x∈o.op.operands.toList→ev (pt fr dst d) x=ev fr x:=by
 intro x hx
 cases dst with
 |none=>rfl
 |some t=>
  cases x with
  |tmp t'=>
   have:t≠t':=by
    rintro rfl;exact h t rfl (adH _ (List.mem_filterMap.2 ⟨.tmp t,hx,rfl⟩))
   exact AB this
  |_=>rfl
theorem jb{fr:List DV}{dst:Option Tmp}{d:DV}{o:Oper}(h:∀t,dst=some t→t∉o.looksAt ops):eg ops (pt fr dst d) o.guard=eg ops fr o.guard:=by
 cases dst with
 |none=>rfl
 |some t=>
  unfold eg
  cases hg:o.guard with
  |none=>rfl
  |some gw=>
   obtain⟨j,want⟩:=gw;simp only
   cases ht:(ops[j]?).bind (·.dst)with
   |none=>rfl
   |some t'=>
    have hne:t≠t':=fun e=>h t rfl (by subst e;simp[Oper.looksAt,hg,ht]);simp only[pt];rw[AB hne]
theorem kS(fr:List DV){x y:Option Tmp}(d e:DV)(h:∀t,x=some t→y≠some t):pt (pt fr x d) y e=pt (pt fr y e) x d:=by
 cases x with
 |none=>rfl
 |some t=>
  cases y with
  |none=>rfl
  |some u=>
   have hne:t≠u:=fun he=>h t rfl (he▸rfl);simp only[pt];exact List.set_comm _ _ hne
theorem YD.put{o:Oper}{d:DV}{fr:List DV}(hy:YD P w0 S ops o d fr){dst:Option Tmp}{e:DV}(h:∀t,dst=some t→t∉o.looksAt ops):YD P w0 S ops o d (pt fr dst e):=by
 unfold YD at*;rw[jb h];exact hy.imp (fun⟨a,b⟩=>⟨a,bg (fun x hx=>(fN (ops:=ops) h x hx).symm) b⟩) id
theorem qOp_put{j:Nat}{oi oj:Oper}{d:DV}(hj:ops[j]? =some oj)(hap:oi.apart ops oj=true){K:List DV→Prop}{fr:List DV}(hy:YD P w0 S ops oi d fr)(h:qOp P w0 S ops j K (pt fr oi.dst d)):
 qOp P w0 S ops j (fun fr'=>YD P w0 S ops oi d fr'∧K (pt fr' oi.dst d)) fr:=by
 obtain⟨h1,h2,h3⟩:=Oper.apart_spec hap;unfold Aml.qOp at*;simp only[hj]at*;rw[jb h1]at h;rcases h with⟨hw,e,hq,hk⟩|⟨hw,hk⟩
 ·exact .inl ⟨hw,e,bg (fun x hx=>fN (ops:=ops) h1 x hx) hq,hy.put h3,by rw[←kS fr d e h2];exact hk⟩
 ·exact .inr ⟨hw,hy.put h3,by rw[←kS fr d ud h2];exact hk⟩
theorem yC{K:List DV→Prop}{i:Nat}{oi:Oper}{d:DV}(hi:ops[i]? =some oi):
 ∀(fuel:Nat) (listed:Array Bool) (fr:List DV),
  (∀j oj,ops[j]? =some oj→j≠i→listed.getD j true=false→(∀e∈oj.after,Region.binds md e=true→e.on≠i)→oi.apart ops oj=true)→
  i∈Region.ready md ops listed→YD P w0 S ops oi d fr→
  rK P w0 S md ops K fuel (listed.setIfInBounds i true) (pt fr oi.dst d)→rK P w0 S md ops K (fuel+1) listed fr:=by
 intro fuel
 induction fuel with
 |zero=>
  intro listed fr _ hr hy H;refine⟨fun h=>(by rw[h]at hr;cases hr),fun j hj=>?_⟩;by_cases hji:j=i
  ·subst hji;exact hy.qOp hi H
  ·have:=ready_mono hj hji;rw[H.1]at this;cases this
 |succ fuel ih=>
  intro listed fr hfree hr hy H;refine⟨fun h=>(by rw[h]at hr;cases hr),fun j hj=>?_⟩;by_cases hji:j=i
  ·subst hji;exact hy.qOp hi H
  ·have h1:=H.2 j (ready_mono hj hji);obtain⟨hjun,oj,hoj,hall⟩:=mem_ready.1 hj
   have hnot:∀e∈oj.after,Region.binds md e=true→e.on≠i:=fun e he hb heq=>by
    have h1:=hall e he hb;have h0:=(mem_ready.1 hr).1;rw[heq]at h1;rcases adR i listed.size with h'|h'
    ·simp[h']at h0 h1;rw[h0]at h1;cases h1
    ·simp[aek h']at h1
   have h2:=qOp_put hoj (hfree j oj hoj hji hjun hnot) hy h1
   have hfree':∀k ok,ops[k]? =some ok→k≠i→(listed.setIfInBounds j true).getD k true=false→
    (∀e∈ok.after,Region.binds md e=true→e.on≠i)→oi.apart ops ok=true:=fun k ok hk hki hun hno=>by
    refine hfree k ok hk hki ?_ hno;by_cases hjk:j=k
    ·subst hjk;exact hjun
    ·rw[getD_set_ne true hjk]at hun;exact hun
   refine qOp_mono (fun fr' h3=>ih (listed.setIfInBounds j true) fr' hfree' (ready_mono hr (Ne.symm hji)) h3.1 ?_) h2;rw[afH _ _ hji];exact h3.2
theorem uz{K:List DV→Prop}:∀(l:List Oper) (k:Nat) (listed:Array Bool) (fr:List DV),(∀j,l[j]? =ops[k+j]?)→
 Region.lexFrom md ops l.length k listed=true→LQ P w0 S ops K l fr→rK P w0 S md ops K l.length listed fr
 |[],_,_,_,_,hB,h=>⟨by simpa[Region.lexFrom]using hB,h⟩
 |o::l,k,listed,fr,hl,hB,h=>by
  have h0:ops[k]? =some o:=by simpa using(hl 0).symm
  simp only[abx,Region.lexFrom,abG]at hB;obtain⟨⟨hr,hf⟩,hB'⟩:=hB
  have hst:qOp P w0 S ops k (LQ P w0 S ops K l) fr:=by
   unfold qOp;simp only[h0];exact kW h
  obtain⟨d,hy,hK⟩:=Jm h0 hst
  exact yC h0 l.length listed fr (Region.free_spec h0 hf) (by simpa using hr) hy
   (uz l (k+1) _ _ (fun j=>by have:=hl (j+1);simpa[aex,aeO 1 j]using this) hB' hK)
end
end Aml
namespace Aml
open Go Go.RowKit
section
variable {P:Program} {w0:W0} {S:St} {K:DV→Prop}
theorem vt{c a b:DV}(h:jV c a b K):∃d,jV c a b (·=d)∧K d:=by
 unfold jV at*;split at h
 ·rename_i t;cases t
  ·exact⟨b,⟨by simp,fun _=>rfl⟩,h.2 rfl⟩
  ·exact⟨a,⟨fun _=>rfl,by simp⟩,h.1 rfl⟩
 ·exact h.elim
theorem VC{ds:List DV}(h:Wx ds K):∃d,Wx ds (·=d)∧K d:=by
 unfold Wx at*;split at h
 ·exact⟨_,rfl,h⟩
 ·exact h.elim
theorem yQ{k:TK}{ds:List DV}(h:rm k ds K):∃d,rm k ds (·=d)∧K d:=by
 unfold rm at*;split at h
 ·exact⟨_,⟨h.1,rfl⟩,h.2⟩
 ·exact⟨_,⟨h.1,rfl⟩,h.2⟩
 ·exact h.elim
 ·exact VC h
theorem qM{k:TK}{x:DV}(h:cn k S x K):∃d,cn k S x (·=d)∧K d:=by
 unfold cn at*;split at h
 ·split at h
  ·rename_i hb;(try simp only[hb]);exact yQ h
  ·exact h.elim
 ·exact yQ h
 ·split at h
  ·rename_i hb;obtain⟨h1,h2,d,h3,h4,h5⟩:=h;obtain⟨e,q1,q2⟩:=yQ h5;exact⟨e,by first|exact⟨h1,h2,d,h3,h4,q1⟩|(simp only[hb];exact⟨h1,h2,d,h3,h4,q1⟩),q2⟩
  ·rename_i hb;obtain⟨h1,h2,d,h3,h4,h5⟩:=h;obtain⟨e,q1,q2⟩:=yQ h5;exact⟨e,by first|exact⟨h1,h2,d,h3,h4,q1⟩|(simp only[hb];exact⟨h1,h2,d,h3,h4,q1⟩),q2⟩
  ·exact h.elim
 ·exact h.elim
theorem sy{k:TK}{f:Nat}{x:DV}(h:ix k f x K):∃d,ix k f x (·=d)∧K d:=by
 unfold ix at*;split at h
 ·split at h
  ·rename_i hf
   try simp only[hf]
   obtain⟨h1,h⟩:=h;split at h
   ·exact⟨_,⟨h1,rfl⟩,h⟩
   ·exact⟨_,⟨h1,h.1,rfl⟩,h.2⟩
   ·exact⟨_,⟨h1,rfl⟩,h⟩
   ·exact h.elim
  ·exact h.elim
 ·exact h.elim
theorem dq{k:TK}{x i:DV}(h:aP k x i K):∃d,aP k x i (·=d)∧K d:=by
 unfold aP at*;split at h
 ·split at h
  ·obtain⟨h1,h2,h3,h4⟩:=h;rename_i z _ _ _ xs;have hlt:z.toNat<xs.length:=by omega
   obtain⟨h5,h6⟩:=h4 _ (aay hlt);exact⟨_,⟨h1,h2,h3,fun d hd=>by rw[aay hlt]at hd;cases hd;exact⟨h5,rfl⟩⟩,h6⟩
  ·exact⟨_,⟨h.1,h.2.1,rfl⟩,h.2.2⟩
  ·exact⟨_,⟨h.1,h.2.1,rfl⟩,h.2.2⟩
  ·exact h.elim
 ·obtain⟨h1,h2,h3,h4⟩:=h;split at h4
  ·exact⟨_,⟨h1,h2,h3,rfl⟩,h4⟩
  ·exact⟨_,⟨h1,h2,h3,h4.1,rfl⟩,h4.2⟩
  ·exact h4.elim
 ·exact h.elim
theorem F2{w0:W0}{fr:List DV}{x:Operand}{k:TK}{i:DV}(h:I2 w0 fr x fun d=>aP k d i K):∃d,(I2 w0 fr x fun d'=>aP k d' i (·=d))∧K d:=by
 cases x with
 |global b=>
  obtain⟨us,hg,h⟩:=h;obtain⟨d,q1,q2⟩:=dq h;exact⟨d,⟨us,hg,q1⟩,q2⟩
 |tmp n=>exact dq (x:=ev fr (.tmp n)) h
 |const u=>exact dq (x:=ev fr (.const u)) h
 |func f=>exact dq (x:=ev fr (.func f)) h
theorem rC{k:TK}{x i:DV}(h:kA k x i K):∃d,kA k x i (·=d)∧K d:=by
 unfold kA at*;split at h
 ·obtain⟨h1,h2,h3⟩:=h;rename_i s _ z;have hlt:z.toNat<s.data.toList.length:=by simp;have:s.data.size=s.size:=rfl;omega
  exact⟨_,⟨h1,h2,fun d hd=>by rw[aay hlt]at hd;cases hd;rfl⟩,h3 _ (aay hlt)⟩
 ·exact h.elim
theorem pP{k:TK}{f:Nat}{x:DV}(h:jI k f x K):∃d,jI k f x (·=d)∧K d:=by
 unfold jI at*;split at h
 ·split at h
  ·rename_i hf
   try simp only[hf]
   split at h
   ·obtain⟨h1,h⟩:=h;split at h
    ·exact⟨_,⟨h1,rfl⟩,h⟩
    ·split at h
     ·rename_i hd;(try simp only[hd]);exact⟨_,⟨h1,rfl⟩,h⟩
     ·exact h.elim
   ·exact h.elim
  ·exact h.elim
 ·exact h.elim
theorem nE{i:Nat}{x:DV}(h:fa i x K):∃d,fa i x (·=d)∧K d:=by
 unfold fa at*;split at h
 ·split at h
  ·rename_i hd;(try simp only[hd]);exact⟨_,rfl,h⟩
  ·exact h.elim
 ·exact h.elim
theorem JT{op:BinOp}{k:IntKind}{m n:Int}(h:pj op k m n K):∃d,pj op k m n (·=d)∧K d:=by
 cases op <;>simp only[pj]at h ⊢ <;>first|exact⟨_,rfl,h⟩|exact⟨_,⟨h.1,rfl⟩,h.2⟩
theorem NY{op:BinOp}{x y:ByteArray}(h:j3 op x y K):∃d,j3 op x y (·=d)∧K d:=by
 cases op <;>simp only[j3]at h ⊢ <;>first|exact⟨_,rfl,h⟩|exact⟨_,⟨h.1,rfl⟩,h.2⟩
theorem Ph{op:BinOp}{t:TK}{cx cy:Bool}{x y:DV}(h:tn op t cx cy x y K):∃d,tn op t cx cy x y (·=d)∧K d:=by
 unfold tn at*;split at h
 ·obtain⟨d,q1,q2⟩:=JT h.2;exact⟨d,⟨h.1,q1⟩,q2⟩
 ·exact NY h
 ·split at h <;>first|exact⟨_,rfl,h⟩|exact h.elim
 ·split at h <;>first|exact⟨_,⟨h.1,rfl⟩,h.2⟩|exact h.elim
 ·split at h <;>first|exact⟨_,rfl,h⟩|exact h.elim
 ·split at h <;>first|exact⟨_,rfl,h⟩|exact h.elim
 ·split at h <;>first|exact⟨_,⟨h.1,rfl⟩,h.2⟩|exact h.elim
 ·exact h.elim
theorem vJ{op:BinOp}{t:TypeId}{cx cy:Bool}{x y:DV}(h:me P op t cx cy x y K):∃d,me P op t cx cy x y (·=d)∧K d:=by
 unfold me at*;split at h
 ·unfold nK at*;split at h
  ·rename_i he;obtain⟨q,q1,q2⟩:=nT h;exact⟨_,jR (fun r e=>by rw[e]) q1,q2⟩
  ·rename_i he;obtain⟨q,q1,q2⟩:=nT h;exact⟨_,jR (fun r e=>by rw[e]) q1,q2⟩
  ·exact h.elim
 ·exact Ph h
theorem Fx{op:UnOp}{x:DV}(h:Jj op x K):∃d,Jj op x (·=d)∧K d:=by
 unfold Jj at*;split at h <;>first|exact⟨_,rfl,h⟩|exact h.elim
theorem vL{a b:TK}{x:DV}(h:jx a b x K):∃d,jx a b x (·=d)∧K d:=by
 unfold jx at*;split at h <;>first|exact⟨_,rfl,h⟩|exact h.elim
theorem ur{fn:Fn}{a b:List DV}(h:nY fn a b K):∃d,nY fn a b (·=d)∧K d:=by
 unfold nY at*;split at h <;>first|exact⟨_,rfl,h⟩|exact h.elim
theorem im{x:Option DV}{z:Int}{F:(DV→Prop)→Int→Prop}(hF:∀n,F K n→∃d,F (·=d) n∧K d)(h:mj x z (F K)):∃d,mj x z (F (·=d))∧K d:=by
 unfold mj at*;split at h <;>first|exact hF _ h|exact h.elim
theorem r8{k:TK}{x:DV}{lo hi mx:Option DV}(h:fX k x lo hi mx K):∃d,fX k x lo hi mx (·=d)∧K d:=by
 unfold fX at*;split at h
 ·obtain⟨h1,h⟩:=h;rename_i e s b s' f xs
  obtain⟨d,q1,q2⟩:=im (F:=fun K l=>mj hi xs.length fun h=>mj mx h fun m=>0≤l∧l≤h∧h≤m∧m≤xs.length∧
   K (.sl s (if mx.isSome then decide (m=h)else(f&&(hi.isNone||xs.isEmpty))) ((xs.take h.toNat).drop l.toNat))) (fun l h=>im (F:=fun K h=>mj mx h fun m=>0≤l∧l≤h∧h≤m∧m≤xs.length∧
   K (.sl s (if mx.isSome then decide (m=h)else(f&&(hi.isNone||xs.isEmpty))) ((xs.take h.toNat).drop l.toNat))) (fun hh h=>im (F:=fun K m=>0≤l∧l≤hh∧hh≤m∧m≤xs.length∧
   K (.sl s (if mx.isSome then decide (m=hh)else(f&&(hi.isNone||xs.isEmpty))) ((xs.take hh.toNat).drop l.toNat))) (fun m h=>⟨_,⟨h.1,h.2.1,h.2.2.1,h.2.2.2.1,rfl⟩,h.2.2.2.2⟩) h) h) h
  exact⟨d,⟨h1,q1⟩,q2⟩
 ·obtain⟨h1,h⟩:=h;rename_i s
  obtain⟨d,q1,q2⟩:=im (F:=fun K l=>mj hi s.size fun h=>0≤l∧l≤h∧h≤s.size∧K (.v (.string (s.extract l.toNat h.toNat)))) (fun l h=>im (F:=fun K h=>0≤l∧l≤h∧h≤s.size∧K (.v (.string (s.extract l.toNat h.toNat))))
   (fun hh h=>⟨_,⟨h.1,h.2.1,h.2.2.1,rfl⟩,h.2.2.2⟩) h) h
  exact⟨d,⟨h1,q1⟩,q2⟩
 ·rename_i e s by' b o n c
  exact im (F:=fun K l=>mj hi n fun h=>mj mx c fun m=>0≤l∧l≤h∧h≤m∧m≤c∧
   K (.v (.slice (some ⟨b,if m.toNat=l.toNat then o else o+l.toNat*s,none⟩) (h.toNat-l.toNat) (m.toNat-l.toNat)))) (fun l h=>im (F:=fun K h=>mj mx c fun m=>0≤l∧l≤h∧h≤m∧m≤c∧
   K (.v (.slice (some ⟨b,if m.toNat=l.toNat then o else o+l.toNat*s,none⟩) (h.toNat-l.toNat) (m.toNat-l.toNat)))) (fun hh h=>im (F:=fun K m=>0≤l∧l≤hh∧hh≤m∧m≤c∧
   K (.v (.slice (some ⟨b,if m.toNat=l.toNat then o else o+l.toNat*s,none⟩) (hh.toNat-l.toNat) (m.toNat-l.toNat)))) (fun m h=>⟨_,⟨h.1,h.2.1,h.2.2.1,h.2.2.2.1,rfl⟩,h.2.2.2.2⟩) h) h) h
 ·obtain⟨h1,h⟩:=h;rename_i n e s ag nn b o
  obtain⟨d,q1,q2⟩:=im (F:=fun K l=>mj hi n fun h=>mj mx n fun m=>0≤l∧l≤h∧h≤m∧m≤n∧
   K (.v (.slice (some ⟨b,if m.toNat=l.toNat then o else o+l.toNat*s,none⟩) (h.toNat-l.toNat) (m.toNat-l.toNat)))) (fun l h=>im (F:=fun K h=>mj mx n fun m=>0≤l∧l≤h∧h≤m∧m≤n∧
   K (.v (.slice (some ⟨b,if m.toNat=l.toNat then o else o+l.toNat*s,none⟩) (h.toNat-l.toNat) (m.toNat-l.toNat)))) (fun hh h=>im (F:=fun K m=>0≤l∧l≤hh∧hh≤m∧m≤n∧
   K (.v (.slice (some ⟨b,if m.toNat=l.toNat then o else o+l.toNat*s,none⟩) (hh.toNat-l.toNat) (m.toNat-l.toNat)))) (fun m h=>⟨_,⟨h.1,h.2.1,h.2.2.1,h.2.2.2.1,rfl⟩,h.2.2.2.2⟩) h) h) h
  exact⟨d,⟨h1,q1⟩,q2⟩
 ·exact h.elim
theorem zB{k:TK}{x:DV}(h:pS k x K):∃d,pS k x (·=d)∧K d:=by
 unfold pS at*;split at h <;>first|exact⟨_,rfl,h⟩|exact h.elim
theorem yu{k:TK}{x:DV}(h:tA k x K):∃d,tA k x (·=d)∧K d:=by
 unfold tA at*;split at h <;>first|exact⟨_,rfl,h⟩|exact h.elim
theorem yX{x y:DV}(h:tu x y K):∃d,tu x y (·=d)∧K d:=by
 unfold tu at*;split at h <;>first|exact⟨_,rfl,h⟩|exact h.elim
theorem zh{x y:DV}(h:tB x y K):∃d,tB x y (·=d)∧K d:=by
 unfold tB at*;split at h <;>first|exact⟨_,rfl,h⟩|exact h.elim
theorem rI{t:TypeId}{parts:List (Nat×DV)}(h:hJ P t parts K):∃d,hJ P t parts (·=d)∧K d:=by
 unfold hJ at*;split at h
 ·split at h
  ·rename_i hf;(try simp only[hf]);exact⟨_,rfl,h⟩
  ·exact h.elim
 ·exact h.elim
theorem kC{k:TK}{z:DV}{len:Nat}{parts:List (Nat×DV)}(h:bc k z len parts K):∃d,bc k z len parts (·=d)∧K d:=by
 unfold bc at*;split at h
 ·obtain⟨h1,h2,h3,h⟩:=h;split at h
  ·rename_i hf;(try simp only[hf]);exact⟨_,⟨h1,h2,h3,rfl⟩,h⟩
  ·exact h.elim
 ·exact h.elim
def wC:DV→Bool
 | .acc _ _=>false
 |_=>true
def ic:DV→Bool
 | .agg ds=>ds.all wC
 |d=>wC d
theorem Gm{K:DV→St→Prop}{d:DV}(hd:wC d=true)(h:K d S):ou S d K:=by
 cases d <;>first|(cases hd;done)|exact h
theorem IK{K:DV→St→Prop}{k:TK}{x:DV}{lo hi mx:Option DV}(hx:wC x=true)(h:lz k S x lo hi mx K):iO k S x lo hi mx K:=by
 cases x <;>first|(cases hx;done)|exact h
theorem Bg:∀{ds:List DV} {K:List DV→St→Prop},ds.all wC=true→K ds S→nN S ds K
 |[],K,_,h=>h
 |d::ds,K,hd,h=>by
  simp only[afk,abG]at hd;exact Gm hd.1 (Bg hd.2 h)
theorem La{K:DV→St→Prop}{d:DV}(hd:ic d=true)(h:K d S):shr S d K:=by
 cases d with
 |agg ds=>exact Bg hd h
 |acc l n=>cases hd
 |_=>exact h
theorem tN:∀{ds:List DV} {K:List DV→St→Prop},ds.all ic=true→K ds S→iq S ds K
 |[],K,_,h=>h
 |d::ds,K,hd,h=>by
  simp only[afk,abG]at hd;exact La hd.1 (tN hd.2 h)
theorem nO{ds:List DV}{F:List DV→St→Prop}(hd:ds.all ic=true)(h:F ds S):ji S ds F:=by
 unfold ji;split
 ·exact .inl h
 ·exact tN hd h
def og(P:Program)(w0:W0)(cal:DV)(ds:List DV)(S:St)(K:DV→Prop):Prop:=match cal with
 | .v (.func (.func f) a cap)=>a.size=0∧okF P f=true∧cap.toList.all (fun u=>u.oneCell')=true∧ds.all ic=true∧∃d,ab P w0 f (ds++cap.toList.map .v) S (fun d' S'=>d'=d∧S'=S)∧K d
 |_=>False
theorem vx{m:Option (KK×DV)}{S:St}{x y:DV}{ok:Bool}{K:DV→Prop}(h:dV m S x y ok K):∃d,dV m S x y ok (·=d)∧K d:=by
 unfold dV at*
 cases m with
 |none=>exact h.elim
 |some p=>
  simp only[oK]at h ⊢;obtain⟨h0,h⟩:=h
  cases hk:rZ y with
  |none=>rw[hk]at h;exact h.elim
  |some k=>
   rw[hk]at h;simp only at h ⊢;obtain⟨h1,h⟩:=h;split at h
   ·exact⟨_,⟨h0,h1,rfl⟩,h⟩
   ·split at h
    ·obtain⟨h2,h⟩:=h
     cases hg:jq _ k with
     |none=>rw[hg]at h;exact⟨_,⟨h0,h1,h2,rfl⟩,h⟩
     |some d=>rw[hg]at h;exact⟨_,⟨h0,h1,h2,rfl⟩,h⟩
    ·exact h.elim
   ·exact h.elim
def aL(P:Program)(w0:W0)(op:Op)(fr:List DV)(S:St)(K:DV→Prop):Prop:=match op with
 | .move x=>K (ev fr x)
 | .assign x=>K (ev fr x)
 | .pick c a b=>jV (ev fr c) (ev fr a) (ev fr b) K
 | .load t x=>cn (tk P t) S (ev fr x) K
 | .fieldAddr t x f=>ix (tk P t) f (ev fr x) K
 | .indexAddr t x i=>I2 w0 fr x fun d=>aP (tk P t) d (ev fr i) K
 | .index t x i=>kA (tk P t) (ev fr x) (ev fr i) K
 | .field t x f=>jI (tk P t) f (ev fr x) K
 | .extract x i=>fa i (ev fr x) K
 | .nilCheck x=>notNil (ev fr x)=true∧K (ev fr x)
 | .binOp b t x y _=>jn y=false∧me P b t (B6 x) (B6 y) (ev fr x) (ev fr y) K
 | .unOp b _ x=>Jj b (ev fr x) K
 | .convert s d x=>jx (tk P s) (tk P d) (ev fr x) K
 | .makeInterface t x=>s6 (tk P t)=false∧ic (ev fr x)=true∧K (.kQ t (ev fr x))
 | .makeFunc fn a b=>nY fn (a.toList.map (ev fr)) (b.toList.map (ev fr)) K
 | .slice t x lo hi mx=>(mx.isSome=true→hi.isSome=true)∧wC (ev fr x)=true∧fX (tk P t) (ev fr x) (lo.map (ev fr)) (hi.map (ev fr)) (mx.map (ev fr)) K
 | .build t parts=>(parts.toList.map fun p=>ev fr p.2).all ic=true∧hJ P t ((parts.toList.map (·.1)).zip (parts.toList.map fun p=>ev fr p.2)) K
 | .buildSlice t len parts=>(parts.toList.map fun p=>ev fr p.2).all ic=true∧bc (tk P t) (zD P (eH P t)) len ((parts.toList.map (·.1)).zip (parts.toList.map fun p=>ev fr p.2)) K
 | .lookup t x y ok=>dV (uc P t) S (ev fr x) (ev fr y) ok K
 | .call c=>match c.callee with
  | .builtin .len=>(match c.args.toList,c.argTypes.toList with
   |[x],[t]=>pS (tk P t) (ev fr x) K
   |_,_=>False)
  | .builtin .cap=>(match c.args.toList,c.argTypes.toList with
   |[x],[t]=>tA (tk P t) (ev fr x) K
   |_,_=>False)
  | .builtin .min=>(match c.args.toList with
   |[x,y]=>tu (ev fr x) (ev fr y) K
   |_=>False)
  | .builtin .max=>(match c.args.toList with
   |[x,y]=>tB (ev fr x) (ev fr y) K
   |_=>False)
  | .value cal=>og P w0 (ev fr cal) (c.args.toList.map (ev fr)) S K
  | .invoke r name=>uT P (ev fr r) name fun f d=>og P w0 (.v (.func (.func f) #[] #[])) (d::c.args.toList.map (ev fr)) S K
  |_=>False
 |_=>False
theorem lA{o:Oper}{fr:List DV}(hs:iG o.op=true)(h:aL P w0 o.op fr S K):∃d,QY P w0 S o fr d∧K d:=by
 have fin:∀{d:DV},aU P w0 o.op fr S (fun d' S'=>d'=d∧S'=S)→K d→∃d,QY P w0 S o fr d∧K d:=fun h1 h2=>⟨_,bV hs h1,h2⟩
 cases hop:o.op with
 |move x=>rw[hop]at h;exact fin (by rw[hop];exact⟨rfl,rfl⟩) h
 |assign x=>rw[hop]at h;exact fin (by rw[hop];exact⟨rfl,rfl⟩) h
 |pick c a b=>rw[hop]at h;obtain⟨d,q1,q2⟩:=vt h;exact fin (by rw[hop];simpa[aU]using q1) q2
 |load t x=>rw[hop]at h;obtain⟨d,q1,q2⟩:=qM h;exact fin (by rw[hop];simpa[aU]using q1) q2
 |fieldAddr t x f=>rw[hop]at h;obtain⟨d,q1,q2⟩:=sy h;exact fin (by rw[hop];simpa[aU]using q1) q2
 |indexAddr t x i=>
  rw[hop]at h
  cases x with
  |global b=>
   obtain⟨us,hg,h⟩:=(show sX w0 b fun d=>aP (tk P t) d (ev fr i) K from h);obtain⟨d,q1,q2⟩:=dq h;exact fin (by rw[hop];exact⟨us,hg,by simpa using q1⟩) q2
  |tmp n=>obtain⟨d,q1,q2⟩:=dq (show aP (tk P t) (ev fr (.tmp n)) (ev fr i) K from h);exact fin (by rw[hop];simpa[aU,I2]using q1) q2
  |const u=>obtain⟨d,q1,q2⟩:=dq (show aP (tk P t) (ev fr (.const u)) (ev fr i) K from h);exact fin (by rw[hop];simpa[aU,I2]using q1) q2
  |func f=>obtain⟨d,q1,q2⟩:=dq (show aP (tk P t) (ev fr (.func f)) (ev fr i) K from h);exact fin (by rw[hop];simpa[aU,I2]using q1) q2
 |index t x i=>rw[hop]at h;obtain⟨d,q1,q2⟩:=rC h;exact fin (by rw[hop];simpa[aU]using q1) q2
 |field t x f=>rw[hop]at h;obtain⟨d,q1,q2⟩:=pP h;exact fin (by rw[hop];simpa[aU]using q1) q2
 |extract x i=>rw[hop]at h;obtain⟨d,q1,q2⟩:=nE h;exact fin (by rw[hop];simpa[aU]using q1) q2
 |nilCheck x=>rw[hop]at h;exact fin (by rw[hop];exact⟨h.1,rfl,rfl⟩) h.2
 |binOp b t x y t'=>rw[hop]at h;obtain⟨d,q1,q2⟩:=vJ h.2;exact fin (by rw[hop];simp only[aU,h.1];simpa using q1) q2
 |unOp b t x=>rw[hop]at h;obtain⟨d,q1,q2⟩:=Fx h;exact fin (by rw[hop];simpa[aU]using q1) q2
 |convert s d x=>rw[hop]at h;obtain⟨d',q1,q2⟩:=vL h;exact fin (by rw[hop];simpa[aU]using H4 (ke:=tk P (eH P s)) (kb:=tk P (eH P d)) (S:=S) q1) q2
 |makeInterface t x=>rw[hop]at h;exact fin (by rw[hop];exact⟨h.1,La h.2.1 ⟨rfl,rfl⟩⟩) h.2.2
 |makeFunc fn a b=>rw[hop]at h;obtain⟨d,q1,q2⟩:=ur h;exact fin (by rw[hop];simpa[aU]using q1) q2
 |slice t x lo hi mx=>rw[hop]at h;obtain⟨d,q1,q2⟩:=r8 h.2.2;exact fin (by rw[hop];exact⟨h.1,IK h.2.1 (Gm h.2.1 (by simpa using q1))⟩) q2
 |lookup t x y ok=>rw[hop]at h;obtain⟨d,q1,q2⟩:=vx h;exact fin (by rw[hop];simpa[aU]using q1) q2
 |build t parts=>rw[hop]at h;obtain⟨d,q1,q2⟩:=rI h.2;exact fin (by rw[hop];exact tN h.1 (by simpa using q1)) q2
 |buildSlice t len parts=>rw[hop]at h;obtain⟨d,q1,q2⟩:=kC h.2;exact fin (by rw[hop];exact tN h.1 (by simpa using q1)) q2
 |call c=>
  rw[hop]at h;obtain⟨callee,args,ts⟩:=c;simp only[aL]at h;split at h
  ·split at h
   ·rename_i x t e1 e2;obtain⟨d,q1,q2⟩:=zB h;exact fin (by rw[hop];simp only[aU,e1,e2];simpa using q1) q2
   ·exact h.elim
  ·split at h
   ·rename_i x t e1 e2;obtain⟨d,q1,q2⟩:=yu h;exact fin (by rw[hop];simp only[aU,e1,e2];simpa using q1) q2
   ·exact h.elim
  ·split at h
   ·rename_i x y e1;obtain⟨d,q1,q2⟩:=yX h;exact fin (by rw[hop];simp only[aU,e1];simpa using q1) q2
   ·exact h.elim
  ·split at h
   ·rename_i x y e1;obtain⟨d,q1,q2⟩:=zh h;exact fin (by rw[hop];simp only[aU,e1];simpa using q1) q2
   ·exact h.elim
  ·rename_i cal;unfold og at h;split at h
   ·rename_i f a cap hcal;obtain⟨h1,h2,h3,h4,d,h5,h6⟩:=h;exact fin (by rw[hop];simp only[aU,hcal];exact ri h1 h3 (by rw[h2,MY];exact nO h4 h5)) h6
   ·exact h.elim
  ·rename_i r name;unfold uT at h;split at h
   ·rename_i t hx;split at h
    ·rename_i f hi;obtain⟨hf,_,h2,h3,h4,d,h5,h6⟩:=h;have h5':ab P w0 f (.agg []::args.toList.map (ev fr)) S (fun d' S'=>d'=d∧S'=S):=by simpa using h5
     exact fin (by rw[hop];simp only[aU,uT,hx,hi];exact⟨hf,nO h4 h5'⟩) h6
    ·exact h.elim
   ·exact h.elim
  ·exact h.elim
 |_=>rw[hop]at h;exact h.elim
end
end Aml
namespace Aml
open Go Go.RowKit
def dI(n:Int):DV:= .v (.int .i64 n)
def dU(n:Int):DV:= .v (.int .u64 n)
def dY(n:Int):DV:= .v (.int .u8 n)
def dB(b:Bool):DV:= .v (.bool b)
def dS(s:ByteArray):DV:= .v (.string s)
theorem gl{n:Int}(h0:0≤n)(h1:n≤18446744073709551615):IntKind.u64.wrap n=n:=by
 show n%18446744073709551616=n;omega
theorem wu8{n:Int}(h0:0≤n)(h1:n≤255):IntKind.u8.wrap n=n:=by
 show n%256=n;omega
section
variable {P:Program} {w0:W0}
end
end Aml
namespace Aml
open Go Go.RowKit
def rk:Op→Bool
 | .store ..| .box ..| .alloc ..| .makeSlice ..| .mapUpdate ..| .makeMap ..=>false
 | .call c=>match c.callee with
  | .builtin .append| .builtin .clear| .builtin .delete| .builtin .copy=>false
  |_=>true
 |_=>true
def uB(md:Region.Mode)(ops:Array Oper):Nat→Nat→Nat→Bool
 |0,_,_=>false
 |n+1,k,i=>match ops[k]? with
  |none=>false
  |some o=>o.after.any fun e=>Region.binds md e&&(e.on==i||uB md ops n e.on i)
def Tk(md:Region.Mode)(ops:Array Oper):Bool:=(List.range ops.size).all fun k=>match ops[k]? with
 |none=>true
 |some o=>o.after.all fun e=>!Region.binds md e||decide (e.on<k)
def th(md:Region.Mode)(ops:Array Oper)(n:Nat):Bool:=Tk md ops&&
 ((List.range ops.size).all fun k=>decide (k<n)||(List.range k).all fun i=>uB md ops ops.size k i)&&
 (ops.toList.take n).all fun o=>match o.guard with|none=>true|some (j,_)=>decide (j<n)
section
variable {P:Program} {w0:W0} {ops:Array Oper} {md:Region.Mode}
theorem l9(h:Tk md ops=true){k:Nat}{o:Oper}(hk:ops[k]? =some o):∀e∈o.after,Region.binds md e=true→e.on<k:=by
 intro e he hb;have hlt:k<ops.size:=(abF.1 hk).1;have:=adY.1 h k (aeF.2 hlt);simp only[hk]at this;have:=Array.all_eq_true'.1 this e he;simpa[hb]using this
def P2(md:Region.Mode)(ops:Array Oper)(L:Array Bool):Prop:=∀(j:Nat) (o:Oper),ops[j]? =some o→L[j]? =some true→∀e∈o.after,Region.binds md e=true→L[e.on]? =some true
theorem mJ{L:Array Bool}(hc:P2 md ops L):∀(n k i:Nat) (o:Oper),ops[k]? =some o→(∀e∈o.after,Region.binds md e=true→L[e.on]? =some true)→uB md ops n k i=true→L[i]? =some true
 |0,_,_,_,_,_,h=>by cases h
 |n+1,k,i,o,hk,ha,h=>by
  simp only[uB,hk]at h;obtain⟨e,he,h⟩:=afQ.1 h;simp only[abG,ael,beq_iff_eq]at h;rcases h.2 with h'|h'
  ·rw[←h'];exact ha e he h.1
  ·have hl:=ha e he h.1
   cases ho:ops[e.on]? with
   |none=>cases n <;>simp[uB,ho]at h'
   |some o'=>exact mJ hc n e.on i o' ho (hc e.on o' ho hl) h'
theorem eD{L:Array Bool}{i:Nat}:L.getD i false=true↔L[i]? =some true:=by
 rw[adW];cases L[i]? <;>simp
theorem eS{L:Array Bool}{i:Nat}:L.getD i true=false↔L[i]? =some false:=by
 rw[adW];cases L[i]? <;>simp
theorem Qg{ro:Option Nat}{g0 g:Gh}{Q:Exit→List DV→St→Prop}{o:Oper}{fr:List DV}{S:St}{a:Act}{w:World}{K:List DV→St→Prop}{K':Act→World→Prop}(k:g0.le g)(h1:Rel w0 g S w)(h2:aq g fr a.tmps.toList)(h3:Dk w0 g.obj a w)
 (hK:∀fr S g a w,g0.le g→Rel w0 g S w→aq g fr a.tmps.toList→Dk w0 g.obj a w→K fr S→K' a w)
 (h:cJ ops fr o.guard (fun fr=>au P w0 o (ev fr) S fun d S'=>K (pt fr o.dst d) S') (fun fr=>K (pt fr o.dst ud) S)) {i:Nat} (hi:ops[i]? =some o):
 wpOpIn (fz ro) 0 P ops (Good w0 g0 Q) i K' a w:=by
 unfold wpOpIn;simp only[hi];rcases nr h2 h with⟨hw,fr',h2',hA⟩|⟨hw,fr',h2',hB⟩
 ·rw[if_pos hw];refine eJ hA h1 (fun x _=>nZ h2' x) h3 fun g' d u S' w' k1 k2 k3 k4 k5=>?_;exact hK _ _ g' _ _ (k.trans k1) k2 (eo (h2'.mono k1) _ k3) (k1.dk k5) k4
 ·rw[if_neg (by simp[hw])];exact⟨fun _ _=>trivial,hK _ _ g _ _ k h1 (eo h2' _ (kG g)) (h3.keep (put_defers _ _ _) fun _ _ h _=>h) hB⟩
theorem yw{S:St}{K K':List DV→Prop}(hk:∀fr,K fr→K' fr):∀{l:List Oper} {fr:List DV},LQ P w0 S ops K l fr→LQ P w0 S ops K' l fr
 |[],fr,h=>hk _ h
 |o::rest,fr,h=>iQ (fun fr ⟨d,q1,q2⟩=>⟨d,q1,yw hk q2⟩) (fun fr h=>yw hk h) h
theorem E7{ro:Option Nat}{g0:Gh}{Q:Exit→List DV→St→Prop}{n:Nat}(hB:th md ops n=true):∀(l:List Oper) (k fuel:Nat) (L:Array Bool) (fr:List DV) (S:St) (g:Gh) (a:Act) (w:World),
 (∀j,l[j]? =ops[k+j]?)→n≤k→k≤ops.size→l.length≤fuel→L.size=ops.size→(∀i,i<k→L[i]? =some true)→(∀i,k≤i→i<ops.size→L[i]? =some false)→g0.le g→Rel w0 g S w→aq g fr a.tmps.toList→Dk w0 g.obj a w→
 BZ P w0 ops (fun fr S=>Q .normal fr S) l fr S→wpAnyIn (fz ro) 0 P md ops (Good w0 g0 Q) fuel L a w:=by
 simp only[th,abG]at hB;obtain⟨⟨hb,ha⟩, -⟩:=hB
 have none_ready:∀(k:Nat) (L:Array Bool),ops.size≤k→L.size=ops.size→(∀i,i<k→L[i]? =some true∨ops.size≤i)→∀i,i∉Region.ready md ops L:=by
  intro k L hk hs hl i hi;obtain⟨h1,o,ho,_⟩:=mem_ready.1 hi;rw[eS]at h1;have hlt:i<ops.size:=(abF.1 ho).1;rcases hl i (by omega)with h|h
  ·rw[h]at h1;cases h1
  ·omega
 intro l
 induction l with
 |nil=>
  intro k fuel L fr S g a w hl hn hk hf hs ht hu k1 h1 h2 h3 h
  have hk':ops.size≤k:=by
   have:=hl 0;simp only[List.getElem?_nil,aeS]at this;exact Array.getElem?_eq_none_iff.1 this.symm
  have hno:=none_ready k L hk' hs (fun i hi=> .inl (ht i hi));have hemp:Region.ready md ops L=[]:=List.eq_nil_iff_forall_not_mem.2 hno
  cases fuel with
  |zero=>exact⟨hemp,k1.kd h3,g,fr,S,k1,h1,h2,h⟩
  |succ fuel=>exact⟨fun _=>⟨k1.kd h3,g,fr,S,k1,h1,h2,h⟩,fun i hi=>absurd hi (hno i)⟩
 |cons o rest ih=>
  intro k fuel L fr S g a w hl hn hk hf hs ht hu k1 h1 h2 h3 h;have h0:ops[k]? =some o:=by simpa using(hl 0).symm
  have hklt:k<ops.size:=(abF.1 h0).1;have hready:k∈Region.ready md ops L:=mem_ready.2 ⟨eS.2 (hu k (abI _) hklt),o,h0,fun e he hbe=>eD.2 (ht _ (l9 hb h0 e he hbe))⟩
  cases fuel with
  |zero=>simp at hf
  |succ fuel=>
   refine⟨fun h=>(by rw[h]at hready;cases hready),fun i hi=>?_⟩;obtain⟨hi1,oi,hoi,hia⟩:=mem_ready.1 hi;rw[eS]at hi1;have hilt:i<ops.size:=(abF.1 hoi).1
   have hclo:P2 md ops L:=fun j oj hj hlj e he hbe=>by
    have hjk:j<k:=by
     rcases adR j k with h|h
     ·exact h
     ·rw[hu j h (abF.1 hj).1]at hlj;cases hlj
    exact ht _ (Nat.lt_trans (l9 hb hj e he hbe) hjk)
   have hik:i=k:=by
    rcases Nat.lt_trichotomy i k with h|h|h
    ·rw[ht i h]at hi1;cases hi1
    ·exact h
    ·have hr:=adY.1 ha i (aeF.2 hilt);rw[ael]at hr;rcases hr with hr|hr
     ·have:=of_decide_eq_true hr;omega
     ·have hr:=adY.1 hr k (aeF.2 h);have:=mJ hclo _ i k oi hoi (fun e he hbe=>eD.1 (hia e he hbe)) hr;rw[hu k (abI _) hklt]at this;cases this
   subst hik;refine Qg (o:=o) k1 h1 h2 h3 (K:=BZ P w0 ops (fun fr S=>Q .normal fr S) rest) ?_ h h0;intro fr' S' g' a' w' q1 q2 q3 q4 q5;refine ih (i+1) fuel (L.setIfInBounds i true) fr' S' g' a' w' (fun j=>by have:=hl (j+1);simpa[aex,aeO 1 j]using this) (by omega) (by omega) (by simpa using hf) (by simpa using hs) ?_ ?_ q1 q2 q3 q4 q5
   ·intro j hj;rw[ad1];split
    ·rename_i e;rw[if_pos (by omega)]
    ·exact ht j (by omega)
   ·intro j hj hj';rw[ad1,if_neg (by omega)];exact hu j (by omega) hj'
theorem JF{ro:Option Nat}{g0:Gh}{Q:Exit→List DV→St→Prop}{S:St}{n:Nat}(hB:th md ops n=true)(hn:n≤ops.size):∀(fuel F:Nat) (L M:Array Bool) (fr:List DV) (g:Gh) (a:Act) (w:World),
 L.size=n→M.size=ops.size→(∀i,i<n→M[i]? =L[i]?)→(∀i,n≤i→i<ops.size→M[i]? =some false)→P2 md ops M→fuel+(ops.size-n)≤F→g0.le g→Rel w0 g S w→aq g fr a.tmps.toList→Dk w0 g.obj a w→
 rK P w0 S md (ops.toList.take n).toArray (fun fr=>BZ P w0 ops (fun fr S=>Q .normal fr S) (ops.toList.drop n) fr S) fuel L fr→wpAnyIn (fz ro) 0 P md ops (Good w0 g0 Q) F M a w:=by
 have hB':=hB;simp only[th,abG]at hB';obtain⟨⟨hb,ha⟩,hg⟩:=hB';have hpre:∀i,i<n→(ops.toList.take n).toArray[i]? =ops[i]? :=fun i hi=>by simp[adU,hi]
 have full:∀(L M:Array Bool),L.size=n→M.size=ops.size→(∀i,i<n→M[i]? =L[i]?)→Region.ready md (ops.toList.take n).toArray L=[]→∀i,i<n→M[i]? =some true:=by
  intro L M hs hM hLM hr i
  induction i using Nat.strongRecOn with
  |_ i ih=>
   intro hi;have hlt:i<M.size:=by omega
   have hsome:∃o,ops[i]? =some o:=⟨_,aeL (by omega)⟩;obtain⟨o,ho⟩:=hsome
   cases hx:M[i]? with
   |none=>rw[aeL hlt]at hx;cases hx
   |some x=>
    cases x with
    |true=>rfl
    |false=>
     have:i∈Region.ready md (ops.toList.take n).toArray L:=mem_ready.2 ⟨eS.2 (by rw[←hLM i hi];exact hx),o,by rw[hpre i hi];exact ho,fun e he hbe=>by
      have hlt':=l9 hb ho e he hbe;rw[eD,←hLM _ (by omega)];exact ih _ hlt' (by omega)⟩
     rw[hr]at this;cases this
 have tail:∀(F:Nat) (L M:Array Bool) (fr:List DV) (g:Gh) (a:Act) (w:World),L.size=n→M.size=ops.size→(∀i,i<n→M[i]? =L[i]?)→(∀i,n≤i→i<ops.size→M[i]? =some false)→ops.size-n≤F→g0.le g→Rel w0 g S w→aq g fr a.tmps.toList→Dk w0 g.obj a w→
  Region.ready md (ops.toList.take n).toArray L=[]→BZ P w0 ops (fun fr S=>Q .normal fr S) (ops.toList.drop n) fr S→wpAnyIn (fz ro) 0 P md ops (Good w0 g0 Q) F M a w:=by
  intro F L M fr g a w hs hM hLM hM0 hF q1 q2 q3 q4 hr h;exact E7 hB (ops.toList.drop n) n F M fr S g a w (fun j=>by simp[aeg]) (abI _) hn (by simp;omega) hM (full L M hs hM hLM hr) hM0 q1 q2 q3 q4 h
 intro fuel
 induction fuel with
 |zero=>
  intro F L M fr g a w hs hM hLM hM0 hc hF q1 q2 q3 q4 h;exact tail F L M fr g a w hs hM hLM hM0 (by omega) q1 q2 q3 q4 h.1 h.2
 |succ fuel ih=>
  intro F L M fr g a w hs hM hLM hM0 hc hF q1 q2 q3 q4 h;by_cases hr:Region.ready md (ops.toList.take n).toArray L=[]
  ·exact tail F L M fr g a w hs hM hLM hM0 (by omega) q1 q2 q3 q4 hr (h.1 hr)
  ·obtain⟨F,rfl⟩:∃F',F=F'+1:=⟨F-1,by omega⟩
   have up:∀i,i∈Region.ready md (ops.toList.take n).toArray L→i∈Region.ready md ops M:=by
    intro i hi;obtain⟨h1,o,ho,h2⟩:=mem_ready.1 hi;have hi':i<n:=by have:=(abF.1 ho).1;simp at this;omega
    rw[hpre i hi']at ho;refine mem_ready.2 ⟨eS.2 (by rw[hLM i hi'];exact eS.1 h1),o,ho,fun e he hbe=>?_⟩;have hlt:=l9 hb ho e he hbe;rw[eD,hLM _ (by omega)];exact eD.1 (h2 e he hbe)
   refine⟨fun h0=>?_,fun i hi=>?_⟩
   ·exfalso
    obtain⟨x,xs,hx⟩:∃x xs,Region.ready md (ops.toList.take n).toArray L=x::xs:=by
     cases he:Region.ready md (ops.toList.take n).toArray L with
     |nil=>exact absurd he hr
     |cons x xs=>exact⟨x,xs,rfl⟩
    have:=up x (by rw[hx];exact aaX);rw[h0]at this;cases this
   ·obtain⟨hi1,oi,hoi,hia⟩:=mem_ready.1 hi;rw[eS]at hi1;have hilt:i<ops.size:=(abF.1 hoi).1;by_cases hin:i<n
    ·have hiL:i∈Region.ready md (ops.toList.take n).toArray L:=mem_ready.2 ⟨eS.2 (by rw[←hLM i hin];exact hi1),oi,by rw[hpre i hin];exact hoi,fun e he hbe=>by
      have hlt:=l9 hb hoi e he hbe;rw[eD,←hLM _ (by omega)];exact eD.1 (hia e he hbe)⟩
     have hq:=h.2 i hiL
     have hgi:∀j want,oi.guard=some (j,want)→j<n:=by
      intro j want hgj
      have hmem:oi∈ops.toList.take n:=by
       have:(ops.toList.take n)[i]? =some oi:=by rw[adU,if_pos hin];simpa using hoi
       exact aap this
      have:=adY.1 hg oi hmem;simpa[hgj]using this
     have hwant:∀fr,eg (ops.toList.take n).toArray fr oi.guard=eg ops fr oi.guard:=by
      intro fr
      cases hgo:oi.guard with
      |none=>rfl
      |some p=>
       obtain⟨j,want⟩:=p;simp only[eg,hpre j (hgi j want hgo)]
     have hLs:(L.setIfInBounds i true).size=n:=by simpa using hs
     have hMs:(M.setIfInBounds i true).size=ops.size:=by simpa using hM
     have hLM':∀j,j<n→(M.setIfInBounds i true)[j]? =(L.setIfInBounds i true)[j]? :=by
      intro j hj;rw[ad1,ad1,hLM j hj];split
      ·rw[if_pos (by omega),if_pos (by omega)]
      ·rfl
     have hM0':∀j,n≤j→j<ops.size→(M.setIfInBounds i true)[j]? =some false:=by
      intro j hj hj';rw[ad1,if_neg (by omega)];exact hM0 j hj hj'
     have hc':P2 md ops (M.setIfInBounds i true):=by
      intro j oj hj hlj e he hbe;rw[ad1];split
      ·rw[if_pos (by omega)]
      ·rw[ad1]at hlj;split at hlj
       ·rename_i hij;subst hij;rw[hoi]at hj;cases hj;exact eD.1 (hia e he hbe)
       ·exact hc j oj hj hlj e he hbe
     have cont:∀fr' g' a' w',g0.le g'→Rel w0 g' S w'→aq g' fr' a'.tmps.toList→Dk w0 g'.obj a' w'→rK P w0 S md (ops.toList.take n).toArray (fun fr=>BZ P w0 ops (fun fr S=>Q .normal fr S) (ops.toList.drop n) fr S) fuel (L.setIfInBounds i true) fr'→
      wpAnyIn (fz ro) 0 P md ops (Good w0 g0 Q) F (M.setIfInBounds i true) a' w':=fun fr' g' a' w' p1 p2 p3 p4 p5=>
      ih F _ _ fr' g' a' w' hLs hMs hLM' hM0' hc' (by omega) p1 p2 p3 p4 p5
     unfold qOp at hq;rw[hpre i hin]at hq;unfold wpOpIn;simp only[hoi]at hq ⊢;rcases hq with⟨hw,d,hy,hk⟩|⟨hw,hk⟩
     ·rw[hwant]at hw;have hw':=fh (o:=oi) q3 hw;rw[if_pos hw'];refine eJ hy q2 (fun x _=>nZ q3 x) q4 fun g' d' u S' w' k1 k2 k3 k4 k5=>?_;obtain⟨hd,hS⟩:=k4;rw[hS]at k2;rw[hd]at k3;exact cont _ g' _ _ (q1.trans k1) k2 (eo (q3.mono k1) _ k3) (k1.dk k5) hk
     ·rw[hwant]at hw;have hw':=fh (o:=oi) q3 hw;rw[if_neg (by simp[hw'])];exact⟨fun _ _=>trivial,cont _ g _ _ q1 q2 (eo q3 _ (kG g)) (q4.keep (put_defers _ _ _) fun _ _ h _=>h) hk⟩
    ·exfalso
     have hall:∀j,j<n→M[j]? =some true:=by
      intro j hj;have hr':=adY.1 ha i (aeF.2 hilt);rw[ael]at hr';rcases hr' with hr'|hr'
      ·exact absurd (of_decide_eq_true hr') hin
      ·have hr':=adY.1 hr' j (aeF.2 (by omega));exact mJ hc _ i j oi hoi (fun e he hbe=>eD.1 (hia e he hbe)) hr'
     refine hr (List.eq_nil_iff_forall_not_mem.2 fun j hj=>?_);obtain⟨h1,o,ho,_⟩:=mem_ready.1 hj;have hj':j<n:=by have:=(abF.1 ho).1;simp at this;omega
     rw[eS,←hLM j hj',hall j hj']at h1;cases h1
def o0(l:List Oper):Nat:=(l.takeWhile fun o=>rk o.op).length
theorem G2{id:Nat}{l:List Oper}{fr:List DV}{S:St}{Q:Exit→List DV→St→Prop}(n:Nat)(hn:n≤l.length)(hm:P.follows .mixedOrders=true)(hB:Region.lexB .any (l.take n).toArray=true)(hT:th .any l.toArray n=true)(hs:l.all (fun o=>iG o.op)=true)
 (h:LQ P w0 S (l.take n).toArray (fun fr=>yo P w0 l.toArray (fun fr S=>Q .normal fr S) (l.drop n) fr S) (l.take n) fr):gF P w0 (.region id l.toArray true) fr S Q:=by
 intro g a w h1 h2 h3;simp only[Region.lexB,abG]at hB;refine ie hm fun ro=>?_;have hR:Rel w0 g S {w with drawn:=w.drawn+1}:=h1.grow (mT w);have hs1:(l.take n).all (fun o=>iG o.op)=true:=adY.2 fun o ho=>adY.1 hs o (ac5 ho);have hs2:(l.drop n).all (fun o=>iG o.op)=true:=adY.2 fun o ho=>adY.1 hs o (adk ho)
 have hLQ:LQ P w0 S (l.take n).toArray (fun fr=>BZ P w0 l.toArray (fun fr S=>Q .normal fr S) (l.drop n) fr S) (l.take n) fr:=by
  exact yw (fun fr h=>oI _ hs2 h) h
 have:=uz (P:=P) (w0:=w0) (S:=S) (md:= .any) (ops:=(l.take n).toArray) (l.take n) 0 (Array.replicate (l.take n).toArray.size false) fr (by simp) (by simpa using hB.2) hLQ;refine JF (n:=n) (S:=S) hT (by simpa using hn) (l.take n).length _ (Array.replicate (l.take n).toArray.size false) _ fr g a _ (by simp;omega) (by simp) ?_ ?_ ?_ (by simp;omega) (.refl g) hR h2 (h3.keep rfl fun _ _ h _=>h) (by simpa using this)
 ·intro i hi;simp only[afI,afz,aaE];rw[if_pos (by omega),if_pos (by omega)]
 ·intro i hi hi';simp only[afI];rw[if_pos hi']
 ·intro j o hj hl;simp[afI]at hl
end
end Aml
namespace Aml
open Go Go.RowKit
@[congr] theorem ZL {d:DV} {d':DV} {A:Prop} {B:Prop} (hd:d=d'):gJ d A B=gJ d' A B:=by cases hd;rfl
@[congr] theorem abe {ds:List DV} {ds':List DV} {K:DV→Prop} (hds:ds=ds'):Wx ds K=Wx ds' K:=by cases hds;rfl
@[congr] theorem abr {k:TK} {k':TK} {ds:List DV} {ds':List DV} {K:DV→Prop} (hk:k=k') (hds:ds=ds'):rm k ds K=rm k' ds' K:=by cases hk;cases hds;rfl
@[congr] theorem ZA {c:DV} {c':DV} {a:DV} {a':DV} {b:DV} {b':DV} {K:DV→Prop} (hc:c=c') (ha:a=a') (hb:b=b'):jV c a b K=jV c' a' b' K:=by cases hc;cases ha;cases hb;rfl
@[congr] theorem ZG {k:TK} {k':TK} {S:St} {S':St} {x:DV} {x':DV} {K:DV→Prop} (hk:k=k') (hS:S=S') (hx:x=x'):cn k S x K=cn k' S' x' K:=by cases hk;cases hS;cases hx;rfl
@[congr] theorem Xe {k:TK} {k':TK} {f:Nat} {f':Nat} {x:DV} {x':DV} {K:DV→Prop} (hk:k=k') (hf:f=f') (hx:x=x'):ix k f x K=ix k' f' x' K:=by cases hk;cases hf;cases hx;rfl
@[congr] theorem Py {k:TK} {k':TK} {x:DV} {x':DV} {i:DV} {i':DV} {K:DV→Prop} (hk:k=k') (hx:x=x') (hi:i=i'):aP k x i K=aP k' x' i' K:=by cases hk;cases hx;cases hi;rfl
@[congr] theorem UO {i:Nat} {i':Nat} {x:DV} {x':DV} {K:DV→Prop} (hi:i=i') (hx:x=x'):fa i x K=fa i' x' K:=by cases hi;cases hx;rfl
@[congr] theorem WE {k:TK} {k':TK} {f:Nat} {f':Nat} {x:DV} {x':DV} {K:DV→Prop} (hk:k=k') (hf:f=f') (hx:x=x'):jI k f x K=jI k' f' x' K:=by cases hk;cases hf;cases hx;rfl
@[congr] theorem ZB {op:BinOp} {k:IntKind} {m:Int} {m':Int} {n:Int} {n':Int} {K:DV→Prop} (hm:m=m') (hn:n=n'):pj op k m n K=pj op k m' n' K:=by cases hm;cases hn;rfl
@[congr] theorem ZF {op:BinOp} {x:ByteArray} {x':ByteArray} {y:ByteArray} {y':ByteArray} {K:DV→Prop} (hx:x=x') (hy:y=y'):j3 op x y K=j3 op x' y' K:=by cases hx;cases hy;rfl
@[congr] theorem aaa {op:BinOp} {t:TK} {t':TK} {cx:Bool} {cx':Bool} {cy:Bool} {cy':Bool} {x:DV} {x':DV} {y:DV} {y':DV} {K:DV→Prop} (ht:t=t') (hcx:cx=cx') (hcy:cy=cy') (hx:x=x') (hy:y=y'):tn op t cx cy x y K=tn op t' cx' cy' x' y' K:=by cases ht;cases hcx;cases hcy;cases hx;cases hy;rfl
@[congr] theorem Xu {o:Option (List FK)} {o':Option (List FK)} {op:BinOp} {al:List DV} {al':List DV} {y:DV} {y':DV} {K:DV→Prop} (ho:o=o') (hal:al=al') (hy:y=y'):nK o op al y K=nK o' op al' y' K:=by cases ho;cases hal;cases hy;rfl
@[congr] theorem aaC {ks:List FK} {al:List DV} {al':List DV} {bs:List DV} {bs':List DV} {r:Bool} {r':Bool} {F:Bool→Prop} (hal:al=al') (hbs:bs=bs') (hr:r=r'):gQ ks al bs r F=gQ ks al' bs' r' F:=by cases hal;cases hbs;cases hr;rfl
@[congr] theorem abz {op:UnOp} {x:DV} {x':DV} {K:DV→Prop} (hx:x=x'):Jj op x K=Jj op x' K:=by cases hx;rfl
@[congr] theorem Zp {a:TK} {a':TK} {b:TK} {b':TK} {x:DV} {x':DV} {K:DV→Prop} (ha:a=a') (hb:b=b') (hx:x=x'):jx a b x K=jx a' b' x' K:=by cases ha;cases hb;cases hx;rfl
@[congr] theorem YE {a:TK} {a':TK} {b:TK} {b':TK} {ke:TK} {ke':TK} {kb:TK} {kb':TK} {S:St} {S':St} {x:DV} {x':DV} {K:DV→Prop} (ha:a=a') (hb:b=b') (hke:ke=ke') (hkb:kb=kb') (hS:S=S') (hx:x=x'):kf a b ke kb S x K=kf a' b' ke' kb' S' x' K:=by cases ha;cases hb;cases hke;cases hkb;cases hS;cases hx;rfl
@[congr] theorem W8 {k:TK} {k':TK} {x:DV} {x':DV} {i:DV} {i':DV} {K:DV→Prop} (hk:k=k') (hx:x=x') (hi:i=i'):kA k x i K=kA k' x' i' K:=by cases hk;cases hx;cases hi;rfl
@[congr] theorem abh {d:Option DV} {d':Option DV} {z:Int} {z':Int} {K:Int→Prop} (hd:d=d') (hz:z=z'):mj d z K=mj d' z' K:=by cases hd;cases hz;rfl
@[congr] theorem Yj {k:TK} {k':TK} {x:DV} {x':DV} {lo:Option DV} {lo':Option DV} {hi:Option DV} {hi':Option DV} {mx:Option DV} {mx':Option DV} {K:DV→Prop} (hk:k=k') (hx:x=x') (hlo:lo=lo') (hhi:hi=hi') (hmx:mx=mx'):fX k x lo hi mx K=fX k' x' lo' hi' mx' K:=by cases hk;cases hx;cases hlo;cases hhi;cases hmx;rfl
@[congr] theorem aam {k:TK} {k':TK} {x:DV} {x':DV} {K:DV→Prop} (hk:k=k') (hx:x=x'):pS k x K=pS k' x' K:=by cases hk;cases hx;rfl
@[congr] theorem aae {k:TK} {k':TK} {x:DV} {x':DV} {K:DV→Prop} (hk:k=k') (hx:x=x'):tA k x K=tA k' x' K:=by cases hk;cases hx;rfl
@[congr] theorem aaB {x:DV} {x':DV} {y:DV} {y':DV} {K:DV→Prop} (hx:x=x') (hy:y=y'):tu x y K=tu x' y' K:=by cases hx;cases hy;rfl
@[congr] theorem aav {x:DV} {x':DV} {y:DV} {y':DV} {K:DV→Prop} (hx:x=x') (hy:y=y'):tB x y K=tB x' y' K:=by cases hx;cases hy;rfl
@[congr] theorem YO {n:Nat} {n':Nat} {S:St} {S':St} {x:DV} {x':DV} {y:DV} {y':DV} {K:St→Prop} (hn:n=n') (hS:S=S') (hx:x=x') (hy:y=y'):pX n S x y K=pX n' S' x' y' K:=by cases hn;cases hS;cases hx;cases hy;rfl
@[congr] theorem WK {n:Nat} {n':Nat} {S:St} {S':St} {x:DV} {x':DV} {y:DV} {y':DV} {K:St→Prop} (hn:n=n') (hS:S=S') (hx:x=x') (hy:y=y'):gp n S x y K=gp n' S' x' y' K:=by cases hn;cases hS;cases hx;cases hy;rfl
@[congr] theorem OJ {k:TK} {k':TK} {z:DV} {z':DV} {len:Nat} {len':Nat} {parts:List (Nat×DV)} {parts':List (Nat×DV)} {K:DV→Prop} (hk:k=k') (hz:z=z') (hlen:len=len') (hparts:parts=parts'):bc k z len parts K=bc k' z' len' parts' K:=by cases hk;cases hz;cases hlen;cases hparts;rfl
@[congr] theorem ZM {S:St} {S':St} {d:DV} {d':DV} {K:Nat→List DV→Prop} (hS:S=S') (hd:d=d'):gL S d K=gL S' d' K:=by cases hS;cases hd;rfl
@[congr] theorem ZZ {s:Nat} {s':Nat} {b:Nat} {b':Nat} {S:St} {S':St} {x:DV} {x':DV} {ys:List DV} {ys':List DV} {K:DV→St→Prop} (hs:s=s') (hb:b=b') (hS:S=S') (hx:x=x') (hys:ys=ys'):wu s b S x ys K=wu s' b' S' x' ys' K:=by cases hs;cases hb;cases hS;cases hx;cases hys;rfl
@[congr] theorem WC {k:TK} {k':TK} {k2:TK} {k2':TK} {S:St} {S':St} {x:DV} {x':DV} {y:DV} {y':DV} {K:DV→St→Prop} (hk:k=k') (hk2:k2=k2') (hS:S=S') (hx:x=x') (hy:y=y'):mO k k2 S x y K=mO k' k2' S' x' y' K:=by cases hk;cases hk2;cases hS;cases hx;cases hy;rfl
@[congr] theorem WM {k:TK} {k':TK} {z:DV} {z':DV} {S:St} {S':St} {x:DV} {x':DV} {y:DV} {y':DV} {K:DV→St→Prop} (hk:k=k') (hz:z=z') (hS:S=S') (hx:x=x') (hy:y=y'):mw k z S x y K=mw k' z' S' x' y' K:=by cases hk;cases hz;cases hS;cases hx;cases hy;rfl
@[congr] theorem Zz {k:TK} {k':TK} {k2:TK} {k2':TK} {S:St} {S':St} {x:DV} {x':DV} {y:DV} {y':DV} {K:DV→St→Prop} (hk:k=k') (hk2:k2=k2') (hS:S=S') (hx:x=x') (hy:y=y'):sU k k2 S x y K=sU k' k2' S' x' y' K:=by cases hk;cases hk2;cases hS;cases hx;cases hy;rfl
@[congr] theorem Zu {k:TK} {k':TK} {z:DV} {z':DV} {S:St} {S':St} {x:DV} {x':DV} {y:DV} {y':DV} {K:DV→St→Prop} (hk:k=k') (hz:z=z') (hS:S=S') (hx:x=x') (hy:y=y'):sO k z S x y K=sO k' z' S' x' y' K:=by cases hk;cases hz;cases hS;cases hx;cases hy;rfl
@[congr] theorem ZQ {k:TK} {k':TK} {S:St} {S':St} {x:DV} {x':DV} {y:DV} {y':DV} {K:DV→St→Prop} (hk:k=k') (hS:S=S') (hx:x=x') (hy:y=y'):qs k S x y K=qs k' S' x' y' K:=by cases hk;cases hS;cases hx;cases hy;rfl
@[congr] theorem Xw {k:TK} {k':TK} {z:DV} {z':DV} {S:St} {S':St} {x:DV} {x':DV} {K:DV→St→Prop} (hk:k=k') (hz:z=z') (hS:S=S') (hx:x=x'):nX k z S x K=nX k' z' S' x' K:=by cases hk;cases hz;cases hS;cases hx;rfl
@[congr] theorem Zj {S:St} {S':St} {s:Nat} {s':Nat} {ds:List DV} {ds':List DV} {o:Nat} {o':Nat} {b:Nat} {n:Nat} {n':Nat} {y:DV} {y':DV} {K:DV→St→Prop} (hS:S=S') (hs:s=s') (hds:ds=ds') (ho:o=o') (hn:n=n') (hy:y=y'):wP S s ds o b n y K=wP S' s' ds' o' b n' y' K:=by cases hS;cases hs;cases hds;cases ho;cases hn;cases hy;rfl
@[congr] theorem Zk {S:St} {S':St} {s:Nat} {s':Nat} {y:DV} {y':DV} {F:Nat→List DV→Prop} (hS:S=S') (hs:s=s') (hy:y=y'):qh S s y F=qh S' s' y' F:=by cases hS;cases hs;cases hy;rfl
@[congr] theorem Xm {op:BinOp} {k:TK} {k':TK} {x:DV} {x':DV} {K:DV→Prop} (hk:k=k') (hx:x=x'):nG op k x K=nG op k' x' K:=by cases hk;cases hx;rfl
@[congr] theorem Zl {S:St} {S':St} {x:DV} {x':DV} {z:Nat} {z':Nat} {K:DV→St→Prop} (hS:S=S') (hx:x=x') (hz:z=z'):xv S x z K=xv S' x' z' K:=by cases hS;cases hx;cases hz;rfl
@[congr] theorem WD {k:TK} {k':TK} {S:St} {S':St} {x:DV} {x':DV} {lo:Option DV} {lo':Option DV} {hi:Option DV} {hi':Option DV} {mx:Option DV} {mx':Option DV} {K:DV→St→Prop} (hk:k=k') (hS:S=S') (hx:x=x') (hlo:lo=lo') (hhi:hi=hi') (hmx:mx=mx'):iO k S x lo hi mx K=iO k' S' x' lo' hi' mx' K:=by cases hk;cases hS;cases hx;cases hlo;cases hhi;cases hmx;rfl
@[congr] theorem WJ {k:TK} {k':TK} {S:St} {S':St} {x:DV} {x':DV} {lo:Option DV} {lo':Option DV} {hi:Option DV} {hi':Option DV} {mx:Option DV} {mx':Option DV} {K:DV→St→Prop} (hk:k=k') (hS:S=S') (hx:x=x') (hlo:lo=lo') (hhi:hi=hi') (hmx:mx=mx'):lz k S x lo hi mx K=lz k' S' x' lo' hi' mx' K:=by cases hk;cases hS;cases hx;cases hlo;cases hhi;cases hmx;rfl
@[congr] theorem Qw {k:TK} {k':TK} {z:DV} {z':DV} {x:DV} {x':DV} {y:DV} {y':DV} {S:St} {S':St} {K:DV→St→Prop} (hk:k=k') (hz:z=z') (hx:x=x') (hy:y=y') (hS:S=S'):gz k z x y S K=gz k' z' x' y' S' K:=by cases hk;cases hz;cases hx;cases hy;cases hS;rfl
@[congr] theorem aac {S:St} {S':St} {d:DV} {d':DV} {K:DV→St→Prop} (hS:S=S') (hd:d=d'):ou S d K=ou S' d' K:=by cases hS;cases hd;rfl
@[congr] theorem ZN {S:St} {S':St} {d:List DV} {d':List DV} {K:List DV→St→Prop} (hS:S=S') (hd:d=d'):nN S d K=nN S' d' K:=by cases hS;cases hd;rfl
@[congr] theorem abb {S:St} {S':St} {d:DV} {d':DV} {K:DV→St→Prop} (hS:S=S') (hd:d=d'):shr S d K=shr S' d' K:=by cases hS;cases hd;rfl
@[congr] theorem aaH {S:St} {S':St} {d:List DV} {d':List DV} {K:List DV→St→Prop} (hS:S=S') (hd:d=d'):iq S d K=iq S' d' K:=by cases hS;cases hd;rfl
@[congr] theorem aa5 {S:St} {S':St} {d:DV} {d':DV} {K:DV→St→Prop} (hS:S=S') (hd:d=d'):pD S d K=pD S' d' K:=by cases hS;cases hd;rfl
@[congr] theorem ZO {S:St} {S':St} {d:List DV} {d':List DV} {F:List DV→St→Prop} (hS:S=S') (hd:d=d'):ji S d F=ji S' d' F:=by cases hS;cases hd;rfl
@[congr] theorem abE {p:Option (Nat×Nat×Bool)} {p':Option (Nat×Nat×Bool)} {x:DV} {x':DV} {K:DV→Prop} (hp:p=p') (hx:x=x'):Uu p x K=Uu p' x' K:=by cases hp;cases hx;rfl
@[congr] theorem abB {p:Option (Nat×Nat×Bool)} {p':Option (Nat×Nat×Bool)} {ds:List DV} {ds':List DV} {K:DV→Prop} (hp:p=p') (hds:ds=ds'):fvK p ds K=fvK p' ds' K:=by cases hp;cases hds;rfl
@[congr] theorem acn {t:Nat} {t':Nat} {d:DV} {d':DV} {fr:List DV} {fr':List DV} {want:Bool} {want':Bool} {A:List DV→Prop} {B:List DV→Prop} (ht:t=t') (hd:d=d') (hfr:fr=fr') (hwant:want=want'):gD t d fr want A B=gD t' d' fr' want' A B:=by cases ht;cases hd;cases hfr;cases hwant;rfl
@[congr] theorem acZ {t:Option Tmp} {t':Option Tmp} {fr:List DV} {fr':List DV} {want:Bool} {want':Bool} {A:List DV→Prop} {B:List DV→Prop} (ht:t=t') (hfr:fr=fr') (hwant:want=want'):gK t fr want A B=gK t' fr' want' A B:=by cases ht;cases hfr;cases hwant;rfl
@[congr] theorem W7 {ops:Array Oper} {fr:List DV} {fr':List DV} {gd:Option (Nat×Bool)} {gd':Option (Nat×Bool)} {A:List DV→Prop} {B:List DV→Prop} (hfr:fr=fr') (hgd:gd=gd'):cJ ops fr gd A B=cJ ops fr' gd' A B:=by cases hfr;cases hgd;rfl
@[congr] theorem abC {k:TK} {k':TK} {z:DV} {z':DV} {parts:List (Nat×DV)} {parts':List (Nat×DV)} {K:DV→Prop} (hk:k=k') (hz:z=z') (hparts:parts=parts'):YQ k z parts K=YQ k' z' parts' K:=by cases hk;cases hz;cases hparts;rfl
@[congr] theorem abp {xs:List DV} {xs':List DV} {i:Nat} {i':Nat} {F:DV→Prop} (hxs:xs=xs') (hi:i=i'):IT xs i F=IT xs' i' F:=by cases hxs;cases hi;rfl
@[congr] theorem abw {xs:List DV} {xs':List DV} {i:Nat} {i':Nat} {F:DV→Prop} (hxs:xs=xs') (hi:i=i'):Gf xs i F=Gf xs' i' F:=by cases hxs;cases hi;rfl
@[congr] theorem ab3 {o:Option Ob} {o':Option Ob} {F:Nat→List DV→Prop} {G:Nat→List DV→Prop} (ho:o=o'):bK o F G=bK o' F G:=by cases ho;rfl
@[congr] theorem ab7 {o:Option Ob} {o':Option Ob} {F:KK→List (Value×DV×Nat)→Nat→Prop} (ho:o=o'):xK o F=xK o' F:=by cases ho;rfl
@[congr] theorem ac2 {o:Option Ob} {o':Option Ob} {F:Nat→Nat→List Nat→Nat→Prop} (ho:o=o'):iK o F=iK o' F:=by cases ho;rfl
@[congr] theorem abu {o:Option DV} {o':Option DV} {F:DV→Prop} {G:Prop} (ho:o=o'):WR o F G=WR o' F G:=by cases ho;rfl
@[congr] theorem WA {m:Option (KK×DV)} {m':Option (KK×DV)} {S:St} {S':St} {x:DV} {x':DV} {y:DV} {y':DV} {ok:Bool} {ok':Bool} {K:DV→Prop} (hm:m=m') (hS:S=S') (hx:x=x') (hy:y=y') (hok:ok=ok'):dV m S x y ok K=dV m' S' x' y' ok' K:=by cases hm;cases hS;cases hx;cases hy;cases hok;rfl
@[congr] theorem WB {m:Option (KK×DV)} {m':Option (KK×DV)} {S:St} {S':St} {x:DV} {x':DV} {y:DV} {y':DV} {d:DV} {d':DV} {K:St→Prop} (hm:m=m') (hS:S=S') (hx:x=x') (hy:y=y') (hd:d=d'):lg m S x y d K=lg m' S' x' y' d' K:=by cases hm;cases hS;cases hx;cases hy;cases hd;rfl
@[congr] theorem WH {m:Option (KK×DV)} {m':Option (KK×DV)} {S:St} {S':St} {x:DV} {x':DV} {y:DV} {y':DV} {K:St→Prop} (hm:m=m') (hS:S=S') (hx:x=x') (hy:y=y'):rj m S x y K=rj m' S' x' y' K:=by cases hm;cases hS;cases hx;cases hy;rfl
@[congr] theorem WU {m:Option (KK×DV)} {m':Option (KK×DV)} {S:St} {S':St} {x:DV} {x':DV} {K:DV→St→Prop} (hm:m=m') (hS:S=S') (hx:x=x'):zx m S x K=zx m' S' x' K:=by cases hm;cases hS;cases hx;rfl
@[congr] theorem UM {m:Option (KK×DV)} {m':Option (KK×DV)} {r:Option Operand} {S:St} {S':St} {K:DV→St→Prop} (hm:m=m') (hS:S=S'):kn m r S K=kn m' r S' K:=by cases hm;cases hS;rfl
@[congr] theorem Zw {S:St} {S':St} {x:DV} {x':DV} {s:Bool} {s':Bool} {K:DV→St→Prop} (hS:S=S') (hx:x=x') (hs:s=s'):F9 S x s K=F9 S' x' s' K:=by cases hS;cases hx;cases hs;rfl
@[congr] theorem Yc {S:St} {S':St} {x:DV} {x':DV} {K:DV→Prop} (hS:S=S') (hx:x=x'):vv S x K=vv S' x' K:=by cases hS;cases hx;rfl
@[congr] theorem abW {α:Type} {o o':Option α} {F:α→Prop} (h:o=o'):oK o F=oK o' F:=by cases h;rfl
@[congr] theorem Z3 {P:Program} {w0:W0} {op:Op} {fr:List DV} {fr':List DV} {S:St} {S':St} {K:DV→St→Prop} (hfr:fr=fr') (hS:S=S'):aU P w0 op fr S K=aU P w0 op fr' S' K:=by cases hfr;cases hS;rfl
@[congr] theorem Zm {P:Program} {w0:W0} {op:Op} {fr:List DV} {fr':List DV} {S:St} {S':St} {K:DV→Prop} (hfr:fr=fr') (hS:S=S'):aL P w0 op fr S K=aL P w0 op fr' S' K:=by cases hfr;cases hS;rfl
@[congr] theorem ZE {P:Program} {w0:W0} {cal:DV} {cal':DV} {ds:List DV} {ds':List DV} {S:St} {S':St} {K:DV→St→Prop} (hcal:cal=cal') (hds:ds=ds') (hS:S=S'):qB P w0 cal ds S K=qB P w0 cal' ds' S' K:=by cases hcal;cases hds;cases hS;rfl
@[congr] theorem YG {P:Program} {w0:W0} {cal:DV} {cal':DV} {ds:List DV} {ds':List DV} {S:St} {S':St} {K:DV→Prop} (hcal:cal=cal') (hds:ds=ds') (hS:S=S'):og P w0 cal ds S K=og P w0 cal' ds' S' K:=by cases hcal;cases hds;cases hS;rfl
@[congr] theorem abl {P:Program} {w0:W0} {ops:Array Oper} {K:List DV→St→Prop} {l:List Oper} {fr:List DV} {fr':List DV} {S:St} {S':St} (hfr:fr=fr') (hS:S=S'):yo P w0 ops K l fr S=yo P w0 ops K l fr' S':=by cases hfr;cases hS;rfl
@[congr] theorem ZK {P:Program} {op:BinOp} {t:TypeId} {cx:Bool} {cx':Bool} {cy:Bool} {cy':Bool} {x:DV} {x':DV} {y:DV} {y':DV} {K:DV→Prop} (hcx:cx=cx') (hcy:cy=cy') (hx:x=x') (hy:y=y'):me P op t cx cy x y K=me P op t cx' cy' x' y' K:=by cases hcx;cases hcy;cases hx;cases hy;rfl
@[congr] theorem Xj {P:Program} {t:TypeId} {parts:List (Nat×DV)} {parts':List (Nat×DV)} {K:DV→Prop} (hparts:parts=parts'):hJ P t parts K=hJ P t parts' K:=by cases hparts;rfl
@[congr] theorem WL {P:Program} {t:TypeId} {ok:Bool} {ok':Bool} {x:DV} {x':DV} {K:DV→Prop} (hok:ok=ok') (hx:x=x'):tS P t ok x K=tS P t ok' x' K:=by cases hok;cases hx;rfl
@[congr] theorem ZD {P:Program} {fr:List DV} {fr':List DV} {S:St} {S':St} {K:DV→Prop} {r:ResultVar} (hfr:fr=fr') (hS:S=S'):s7 P fr S K r=s7 P fr' S' K r:=by cases hfr;cases hS;rfl
@[congr] theorem ZH {P:Program} {fr:List DV} {fr':List DV} {S:St} {S':St} {r:List ResultVar} {K:List DV→Prop} (hfr:fr=fr') (hS:S=S'):vb P fr S r K=vb P fr' S' r K:=by cases hfr;cases hS;rfl
@[congr] theorem aa7 {P:Program} {fr:List DV} {fr':List DV} {S:St} {S':St} {r:List ResultVar} {K:DV→Prop} (hfr:fr=fr') (hS:S=S'):wi P fr S r K=wi P fr' S' r K:=by cases hfr;cases hS;rfl
def fq(b:Bool)(A B:Prop):Prop:=match b with
 |true=>A
 |false=>B
theorem QQ(A B:Prop):fq true A B=A:=rfl
theorem QK(A B:Prop):fq false A B=B:=rfl
@[congr] theorem ZT {b b':Bool} {A B:Prop} (h:b=b'):fq b A B=fq b' A B:=by cases h;rfl
theorem R6(S:St)(ds:List DV)(F:List DV→St→Prop):ji S ds F=fq (jk ds) (F ds S∨iq S ds F) (iq S ds F):=by
 unfold ji fq;cases jk ds <;>rfl
attribute [go_sem ↓] QQ QK R6
def Gl(S:St)(d:DV)(K:DV→St→Prop):Prop:=∀b,jF S.box b→K (.v (.pointer (some ⟨b,0,none⟩))) ⟨(b,cd d)::S.box,S.acc⟩
@[congr] theorem abi {S S':St} {d d':DV} {K:DV→St→Prop} (h1:S=S') (h2:d=d'):Gl S d K=Gl S' d' K:=by cases h1;cases h2;rfl
theorem E5(x:Operand):rk (.move x)=true:=rfl
theorem yy(x:Operand):rk (.assign x)=true:=rfl
theorem E0(c a b:Operand):rk (.pick c a b)=true:=rfl
theorem Ej(t:TypeId)(x:Operand):rk (.load t x)=true:=rfl
theorem tD(t:TypeId)(x:Operand)(f:Nat):rk (.fieldAddr t x f)=true:=rfl
theorem tz(t:TypeId)(x i:Operand):rk (.indexAddr t x i)=true:=rfl
theorem wI(x:Operand)(i:Nat):rk (.extract x i)=true:=rfl
theorem vP(x:Operand):rk (.nilCheck x)=true:=rfl
theorem Bk(b:BinOp)(t:TypeId)(x y:Operand)(t':TypeId):rk (.binOp b t x y t')=true:=rfl
theorem D1(b:UnOp)(t:TypeId)(x:Operand):rk (.unOp b t x)=true:=rfl
theorem wJ(s d:TypeId)(x:Operand):rk (.convert s d x)=true:=rfl
theorem Bm(t:TypeId)(parts:Array (Nat×Operand)):rk (.build t parts)=true:=rfl
theorem sr(t:TypeId)(len:Nat)(parts:Array (Nat×Operand)):rk (.buildSlice t len parts)=true:=rfl
theorem Bb(t:TypeId)(x:Operand)(lo hi mx:Option Operand):rk (.slice t x lo hi mx)=true:=rfl
theorem Hf(t:TypeId)(x:Operand):rk (.box t x)=false:=rfl
theorem AE(t:TypeId)(x y:Operand):rk (.store t x y)=false:=rfl
theorem G1(x:Operand)(a:Array Operand)(ts:Array TypeId):rk (.call ⟨.value x,a,ts⟩)=true:=rfl
theorem Jp(x:Operand)(m:String)(a:Array Operand)(ts:Array TypeId):rk (.call ⟨.invoke x m,a,ts⟩)=true:=rfl
theorem Bu(a:Array Operand)(ts:Array TypeId):rk (.call ⟨.builtin .len,a,ts⟩)=true:=rfl
theorem zW(a:Array Operand)(ts:Array TypeId):rk (.call ⟨.builtin .min,a,ts⟩)=true:=rfl
theorem uS(a:Array Operand)(ts:Array TypeId):rk (.call ⟨.builtin .append,a,ts⟩)=false:=rfl
theorem zF(a:Array Operand)(ts:Array TypeId):rk (.call ⟨.builtin .copy,a,ts⟩)=false:=rfl
theorem Ko(fr:List DV)(t:Nat):ev fr (.tmp t)=fr.getD t ud:=rfl
theorem Ex(fr:List DV)(u:Value):ev fr (.const u)=cv u:=rfl
theorem Ik(fr:List DV)(f:FuncId):ev fr (.func f)= .v (.func (.func f) #[] #[]):=rfl
theorem HA(fr:List DV)(t:Nat)(d:DV):pt fr (some t) d=fr.set t d:=rfl
theorem I5(fr:List DV)(d:DV):pt fr none d=fr:=rfl
theorem Lc(k:IntKind)(n:Int):cv (.int k n)= .v (.int k n):=rfl
theorem Ia(b:Bool):cv (.bool b)= .v (.bool b):=rfl
theorem N0(s:ByteArray):cv (.string s)= .v (.string s):=rfl
theorem N7:cv (.slice none 0 0)= .sl 0 true []:=rfl
theorem Ns:cv (.nilIface)= .v .nilIface:=rfl
theorem Of:cv (.nilFunc)= .v .nilFunc:=rfl
theorem AG:s6 (.str)=false:=rfl
theorem Dz(fs:List (Nat×Nat×Bool))(n:Nat):s6 (.st fs n)=false:=rfl
theorem DS:uY (.str)=false:=rfl
theorem Er(k:IntKind):uY (.int k)=true:=rfl
theorem Hw(e s b:Nat)(i:Bool):uY (.sl e s b i)=false:=rfl
theorem ya:pN (.str)=true:=rfl
theorem A6(e s b:Nat)(i:Bool):pN (.sl e s b i)=true:=rfl
theorem Mu(u:Value):wC (.v u)=true:=rfl
theorem I1(s:Nat)(f:Bool)(xs:List DV):wC (.sl s f xs)=true:=rfl
theorem Je(u:Value):ic (.v u)=true:=rfl
theorem Df(s:Nat)(f:Bool)(xs:List DV):ic (.sl s f xs)=true:=rfl
theorem AO(ds:List DV):ic (.agg ds)=ds.all wC:=rfl
theorem HT(t:Nat):B6 (.tmp t)=false:=rfl
theorem BW(u:Value):B6 (.const u)=true:=rfl
theorem Eu:fb []=some []:=rfl
theorem Nn(u:Value)(ds:List DV):fb (.v u::ds)=(fb ds).map (u::·):=rfl
theorem Cu(fs:List (Nat×Nat×Bool))(ds:List DV):mi fs ds []=some ds:=rfl
def Z2(p:Option (Nat×Nat×Bool))(fs:List (Nat×Nat×Bool))(d:DV)(ds:List DV)(rest:List (Nat×DV)):Option (List DV):=match p with
 |none=>none
 |some (off,sz,_)=>if fk d&&(cd d).length==sz&&decide (off+sz≤ds.length)then mi fs (gZ ds off (cd d)) rest else none
theorem yV(fs:List (Nat×Nat×Bool))(ds:List DV)(i:Nat)(d:DV)(rest:List (Nat×DV)):mi fs ds ((i,d)::rest)=Z2 (fs[i]?) fs d ds rest:=by rw[mi];unfold Z2;cases fs[i]? <;>rfl
theorem XV(off sz:Nat)(ag:Bool)(fs:List (Nat×Nat×Bool))(d:DV)(ds:List DV)(rest:List (Nat×DV)):Z2 (some (off,sz,ag)) fs d ds rest=if fk d&&(cd d).length==sz&&decide (off+sz≤ds.length)then mi fs (gZ ds off (cd d)) rest else none:=rfl
theorem Ae(s:Nat)(ds:List DV):pc s ds []=some ds:=rfl
theorem zy(s:Nat)(ds:List DV)(i:Nat)(d:DV)(rest:List (Nat×DV)):pc s ds ((i,d)::rest)=if fk d&&(cd d).length==s&&decide (i<ds.length)then pc s (ds.set i d) rest else none:=rfl
theorem yf(ds:List DV)(o:Nat):gZ ds o []=ds:=rfl
theorem wv(ds:List DV)(o:Nat)(c:DV)(cs:List DV):gZ ds o (c::cs)=gZ (ds.set o c) (o+1) cs:=rfl
theorem Az(d:DV)(n:Nat)(y:DV):tg d 0 n n y=some y:=by simp[tg]
theorem Au(ds:List DV)(o n s:Nat)(y:DV):tg (.agg ds) o n s y=if o=0∧n=s then some y else some (.agg (gZ ds o (cd y))):=rfl
theorem Dr(k:Nat)(x:Ob)(t:List (Nat×Ob))(p:Nat×Ob):tm ((k,x)::t) k p=p::t:=by simp[tm]
theorem JP{k n:Nat}(h:¬k=n)(x:Ob)(t:List (Nat×Ob))(p:Nat×Ob):tm ((k,x)::t) n p=(k,x)::tm t n p:=by simp[tm,h]
theorem E1(k:IntKind):sameKind .add k k=true:=by simp[sameKind]
theorem Dt(k:IntKind):sameKind .sub k k=true:=by simp[sameKind]
theorem CQ(k:IntKind):sameKind .mul k k=true:=by simp[sameKind]
theorem EG(k:IntKind):sameKind .quo k k=true:=by simp[sameKind]
theorem Dp(k:IntKind):sameKind .rem k k=true:=by simp[sameKind]
theorem EA(k:IntKind):sameKind .and k k=true:=by simp[sameKind]
theorem C6(k:IntKind):sameKind .xor k k=true:=by simp[sameKind]
theorem EX(k:IntKind):sameKind .eql k k=true:=by simp[sameKind]
theorem DF(k:IntKind):sameKind .neq k k=true:=by simp[sameKind]
theorem DY(k:IntKind):sameKind .lss k k=true:=by simp[sameKind]
theorem Ec(k:IntKind):sameKind .leq k k=true:=by simp[sameKind]
theorem ET(k:IntKind):sameKind .gtr k k=true:=by simp[sameKind]
theorem Ed(k:IntKind):sameKind .geq k k=true:=by simp[sameKind]
theorem Ek(k k':IntKind):sameKind .shr k k'=true:=rfl
theorem wF{α:Type}(a:α):List.replicate 0 a=[]:=rfl
theorem wy{α:Type}(n:Nat)(a:α):List.replicate (n+1) a=a::List.replicate n a:=rfl
theorem Pg{α:Type}(a b:α)(l:List α):(a::l).set 0 b=b::l:=rfl
theorem QG{α:Type}(a b:α)(l:List α)(n:Nat):(a::l).set (n+1) b=a::l.set n b:=rfl
theorem aaI(live:List Nat)(fr:List DV):wk live fr=fU (xw fr 0 live):=rfl
theorem G8(i:Nat)(js:List Nat):xw [] i js=[]:=rfl
theorem Sk(d:DV)(ds:List DV)(i:Nat):xw (d::ds) i []= .any::xw ds (i+1) []:=rfl
theorem QE(d:DV)(ds:List DV)(i j:Nat)(js:List Nat):xw (d::ds) i (j::js)=if i=j then d::xw ds (i+1) js else .any::xw ds (i+1) (j::js):=rfl
theorem D5(fr:List DV):l4 fr []=fr:=rfl
theorem AW(fr:List DV)(i:Nat)(d:DV)(us:List (Nat×DV)):l4 fr ((i,d)::us)=l4 (fr.set i d) us:=rfl
theorem IL{α:Type}(l:List α):List.append [] l=l:=rfl
theorem C5{α:Type}(a:α)(l m:List α):List.append (a::l) m=a::List.append l m:=rfl
theorem G9(w0:W0)(fr:List DV)(n:Nat)(F:DV→Prop):I2 w0 fr (.tmp n) F=F (ev fr (.tmp n)):=rfl
theorem Dg(w0:W0)(fr:List DV)(b:Nat)(F:DV→Prop):I2 w0 fr (.global b) F=sX w0 b F:=rfl
theorem V7{P:Program}{w0:W0}{fr:List DV}{S:St}{K:DV→St→Prop}(x:Operand):aU P w0 (.move x) fr S K=(K (ev fr x) S):=rfl
theorem KX{P:Program}{w0:W0}{fr:List DV}{S:St}{K:DV→St→Prop}(x:Operand):aU P w0 (.assign x) fr S K=(K (ev fr x) S):=rfl
theorem VJ{P:Program}{w0:W0}{fr:List DV}{S:St}{K:DV→St→Prop}(c a b:Operand):aU P w0 (.pick c a b) fr S K=(jV (ev fr c) (ev fr a) (ev fr b) (K · S)):=rfl
theorem VW{P:Program}{w0:W0}{fr:List DV}{S:St}{K:DV→St→Prop}(t:TypeId)(x:Operand):aU P w0 (.load t x) fr S K=(cn (tk P t) S (ev fr x) (K · S)):=rfl
theorem AQ{P:Program}{w0:W0}{fr:List DV}{S:St}{K:DV→St→Prop}(t:TypeId)(x:Operand)(f:Nat):aU P w0 (.fieldAddr t x f) fr S K=(ix (tk P t) f (ev fr x) (K · S)):=rfl
theorem AZ{P:Program}{w0:W0}{fr:List DV}{S:St}{K:DV→St→Prop}(t:TypeId)(x i:Operand):aU P w0 (.indexAddr t x i) fr S K=(I2 w0 fr x fun d=>aP (tk P t) d (ev fr i) (K · S)):=rfl
theorem Qr{P:Program}{w0:W0}{fr:List DV}{S:St}{K:DV→St→Prop}(t:TypeId)(x i:Operand):aU P w0 (.index t x i) fr S K=(kA (tk P t) (ev fr x) (ev fr i) (K · S)):=rfl
theorem Jx{P:Program}{w0:W0}{fr:List DV}{S:St}{K:DV→St→Prop}(x:Operand)(i:Nat):aU P w0 (.extract x i) fr S K=(fa i (ev fr x) (K · S)):=rfl
theorem E2{P:Program}{w0:W0}{fr:List DV}{S:St}{K:DV→St→Prop}(x:Operand):aU P w0 (.nilCheck x) fr S K=(notNil (ev fr x)=true∧K (ev fr x) S):=rfl
theorem P9{P:Program}{w0:W0}{fr:List DV}{S:St}{K:DV→St→Prop}(b:BinOp)(t:TypeId)(x y:Operand)(t':TypeId):aU P w0 (.binOp b t x y t') fr S K=(fq (jn y) (nG b (tk P t) (ev fr x) (K · S)) (me P b t (B6 x) (B6 y) (ev fr x) (ev fr y) (K · S))):=by simp only[aU];unfold fq;cases jn y <;>rfl
theorem V9{P:Program}{w0:W0}{fr:List DV}{S:St}{K:DV→St→Prop}(b:UnOp)(t:TypeId)(x:Operand):aU P w0 (.unOp b t x) fr S K=(Jj b (ev fr x) (K · S)):=rfl
theorem Jd{P:Program}{w0:W0}{fr:List DV}{S:St}{K:DV→St→Prop}(s d:TypeId)(x:Operand):aU P w0 (.convert s d x) fr S K=(kf (tk P s) (tk P d) (tk P (eH P s)) (tk P (eH P d)) S (ev fr x) (K · S)):=rfl
theorem OW{P:Program}{w0:W0}{fr:List DV}{S:St}{K:DV→St→Prop}(t:TypeId)(x:Operand):aU P w0 (.makeInterface t x) fr S K=(s6 (tk P t)=false∧shr S (ev fr x) fun d S=>K (.kQ t d) S):=rfl
theorem QJ{P:Program}{w0:W0}{fr:List DV}{S:St}{K:DV→St→Prop}(t:TypeId)(parts:List (Nat×Operand)):aU P w0 (.build t parts.toArray) fr S K=(iq S (parts.map fun p=>ev fr p.2) fun ds S=>hJ P t ((parts.map (·.1)).zip ds) (K · S)):=rfl
theorem yJ{P:Program}{w0:W0}{fr:List DV}{S:St}{K:DV→St→Prop}(t:TypeId)(len:Nat)(parts:List (Nat×Operand)):aU P w0 (.buildSlice t len parts.toArray) fr S K=(iq S (parts.map fun p=>ev fr p.2) fun ds S=>bc (tk P t) (zD P (eH P t)) len ((parts.map (·.1)).zip ds) (K · S)):=rfl
theorem Du{P:Program}{w0:W0}{fr:List DV}{S:St}{K:DV→St→Prop}(fn:Fn)(a b:List Operand):aU P w0 (.makeFunc fn a.toArray b.toArray) fr S K=(nY fn (a.map (ev fr)) (b.map (ev fr)) (K · S)):=rfl
theorem O1{P:Program}{w0:W0}{fr:List DV}{S:St}{K:DV→St→Prop}(t:TypeId)(x:Operand)(lo hi mx:Option Operand):aU P w0 (.slice t x lo hi mx) fr S K=((mx.isSome=true→hi.isSome=true)∧iO (tk P t) S (ev fr x) (lo.map (ev fr)) (hi.map (ev fr)) (mx.map (ev fr)) K):=rfl
theorem X0{P:Program}{w0:W0}{fr:List DV}{S:St}{K:DV→St→Prop}(t:TypeId)(x:Operand):aU P w0 (.box t x) fr S K=(fk (ev fr x)=true∧Gl S (ev fr x) K):=rfl
theorem OO{P:Program}{w0:W0}{fr:List DV}{S:St}{K:DV→St→Prop}(t:TypeId):aU P w0 (.alloc t) fr S K=(fk (zD P t)=true∧Gl S (zD P t) K):=rfl
theorem PH{P:Program}{w0:W0}{fr:List DV}{S:St}{K:DV→St→Prop}(t:TypeId)(x y:Operand):aU P w0 (.store t x y) fr S K=((P.info? t).isSome=true∧gp (P.cellsOf t) S (ev fr x) (ev fr y) (K ud)):=rfl
theorem Bz{P:Program}{w0:W0}{fr:List DV}{S:St}{K:DV→St→Prop}(t:TypeId)(x y:Operand):aU P w0 (.makeSlice t x y) fr S K=(gz (tk P t) (zD P (eH P t)) (ev fr x) (ev fr y) S K):=rfl
theorem XY{P:Program}{w0:W0}{fr:List DV}{S:St}{K:DV→St→Prop}(x:Operand)(t:TypeId):aU P w0 (.call ⟨.builtin .len, #[x], #[t]⟩) fr S K=(pS (tk P t) (ev fr x) (K · S)):=rfl
theorem Yn{P:Program}{w0:W0}{fr:List DV}{S:St}{K:DV→St→Prop}(x:Operand)(t:TypeId):aU P w0 (.call ⟨.builtin .cap, #[x], #[t]⟩) fr S K=(tA (tk P t) (ev fr x) (K · S)):=rfl
theorem Nw{P:Program}{w0:W0}{fr:List DV}{S:St}{K:DV→St→Prop}(x y:Operand)(t t':TypeId):aU P w0 (.call ⟨.builtin .append, #[x,y], #[t,t']⟩) fr S K=(fq (vZ (ev fr x)) (fq (uY (tk P t')) (sO (tk P t) (zD P (eH P t)) S (ev fr x) (ev fr y) K) (sU (tk P t) (tk P t') S (ev fr x) (ev fr y) K)) (fq (uY (tk P t')) (mw (tk P t) (zD P (eH P t)) S (ev fr x) (ev fr y) K) (mO (tk P t) (tk P t') S (ev fr x) (ev fr y) K))):=by simp only[aU];unfold fq;cases vZ (ev fr x) <;>cases uY (tk P t') <;>rfl
theorem Vf{P:Program}{w0:W0}{fr:List DV}{S:St}{K:DV→St→Prop}(x y:Operand)(t t':TypeId):aU P w0 (.call ⟨.builtin .copy, #[x,y], #[t,t']⟩) fr S K=(qs (tk P t) S (ev fr x) (ev fr y) K):=rfl
theorem Pt{P:Program}{w0:W0}{fr:List DV}{S:St}{K:DV→St→Prop}(x:Operand)(t:TypeId):aU P w0 (.call ⟨.builtin .clear, #[x], #[t]⟩) fr S K=(nX (tk P t) (zD P (eH P t)) S (ev fr x) K):=rfl
theorem XH{P:Program}{w0:W0}{fr:List DV}{S:St}{K:DV→St→Prop}(x y:Operand)(ts:Array TypeId):aU P w0 (.call ⟨.builtin .min, #[x,y],ts⟩) fr S K=(tu (ev fr x) (ev fr y) (K · S)):=rfl
theorem Xz{P:Program}{w0:W0}{fr:List DV}{S:St}{K:DV→St→Prop}(x y:Operand)(ts:Array TypeId):aU P w0 (.call ⟨.builtin .max, #[x,y],ts⟩) fr S K=(tB (ev fr x) (ev fr y) (K · S)):=rfl
theorem Vi{P:Program}{w0:W0}{fr:List DV}{S:St}{K:DV→St→Prop}(cal:Operand)(a:List Operand)(ts:Array TypeId):aU P w0 (.call ⟨.value cal,a.toArray,ts⟩) fr S K=(qB P w0 (ev fr cal) (a.map (ev fr)) S K):=rfl
theorem LL{P:Program}{w0:W0}{fr:List DV}{S:St}{K:DV→St→Prop}(r:Operand)(name:String)(a:List Operand)(ts:Array TypeId):aU P w0 (.call ⟨.invoke r name,a.toArray,ts⟩) fr S K=(uT P (ev fr r) name fun f d=>ji S (d::a.map (ev fr)) fun ds S=>@AC P w0 f ds S ⟨K⟩):=rfl
theorem Mk{P:Program}{w0:W0}{fr:List DV}{S:St}{K:DV→St→Prop}(t:TypeId)(x y:Operand)(ok:Bool):aU P w0 (.lookup t x y ok) fr S K=(dV (uc P t) S (ev fr x) (ev fr y) ok (K · S)):=rfl
theorem By{P:Program}{w0:W0}{fr:List DV}{S:St}{K:DV→St→Prop}(t:TypeId)(x y z:Operand):aU P w0 (.mapUpdate t x y z) fr S K=(lg (uc P t) S (ev fr x) (ev fr y) (ev fr z) (K ud)):=rfl
theorem Ie{P:Program}{w0:W0}{fr:List DV}{S:St}{K:DV→St→Prop}(t:TypeId)(r:Option Operand):aU P w0 (.makeMap t r) fr S K=(kn (uc P t) r S K):=rfl
theorem T9{P:Program}{w0:W0}{fr:List DV}{S:St}{K:DV→Prop}(x:Operand):aL P w0 (.move x) fr S K=(K (ev fr x)):=rfl
theorem LR{P:Program}{w0:W0}{fr:List DV}{S:St}{K:DV→Prop}(x:Operand):aL P w0 (.assign x) fr S K=(K (ev fr x)):=rfl
theorem V5{P:Program}{w0:W0}{fr:List DV}{S:St}{K:DV→Prop}(c a b:Operand):aL P w0 (.pick c a b) fr S K=(jV (ev fr c) (ev fr a) (ev fr b) K):=rfl
theorem U6{P:Program}{w0:W0}{fr:List DV}{S:St}{K:DV→Prop}(t:TypeId)(x:Operand):aL P w0 (.load t x) fr S K=(cn (tk P t) S (ev fr x) K):=rfl
theorem Bo{P:Program}{w0:W0}{fr:List DV}{S:St}{K:DV→Prop}(t:TypeId)(x:Operand)(f:Nat):aL P w0 (.fieldAddr t x f) fr S K=(ix (tk P t) f (ev fr x) K):=rfl
theorem A3{P:Program}{w0:W0}{fr:List DV}{S:St}{K:DV→Prop}(t:TypeId)(x i:Operand):aL P w0 (.indexAddr t x i) fr S K=(I2 w0 fr x fun d=>aP (tk P t) d (ev fr i) K):=rfl
theorem IY{P:Program}{w0:W0}{fr:List DV}{S:St}{K:DV→Prop}(x:Operand)(i:Nat):aL P w0 (.extract x i) fr S K=(fa i (ev fr x) K):=rfl
theorem EC{P:Program}{w0:W0}{fr:List DV}{S:St}{K:DV→Prop}(x:Operand):aL P w0 (.nilCheck x) fr S K=(notNil (ev fr x)=true∧K (ev fr x)):=rfl
theorem RT{P:Program}{w0:W0}{fr:List DV}{S:St}{K:DV→Prop}(b:BinOp)(t:TypeId)(x y:Operand)(t':TypeId):aL P w0 (.binOp b t x y t') fr S K=(jn y=false∧me P b t (B6 x) (B6 y) (ev fr x) (ev fr y) K):=rfl
theorem Tw{P:Program}{w0:W0}{fr:List DV}{S:St}{K:DV→Prop}(b:UnOp)(t:TypeId)(x:Operand):aL P w0 (.unOp b t x) fr S K=(Jj b (ev fr x) K):=rfl
theorem Hl{P:Program}{w0:W0}{fr:List DV}{S:St}{K:DV→Prop}(s d:TypeId)(x:Operand):aL P w0 (.convert s d x) fr S K=(jx (tk P s) (tk P d) (ev fr x) K):=rfl
theorem DH{P:Program}{w0:W0}{fr:List DV}{S:St}{K:DV→Prop}(fn:Fn)(a b:List Operand):aL P w0 (.makeFunc fn a.toArray b.toArray) fr S K=(nY fn (a.map (ev fr)) (b.map (ev fr)) K):=rfl
theorem Rt{P:Program}{w0:W0}{fr:List DV}{S:St}{K:DV→Prop}(t:TypeId)(x:Operand)(lo hi mx:Option Operand):aL P w0 (.slice t x lo hi mx) fr S K=((mx.isSome=true→hi.isSome=true)∧wC (ev fr x)=true∧fX (tk P t) (ev fr x) (lo.map (ev fr)) (hi.map (ev fr)) (mx.map (ev fr)) K):=rfl
theorem PB{P:Program}{w0:W0}{fr:List DV}{S:St}{K:DV→Prop}(t:TypeId)(parts:List (Nat×Operand)):aL P w0 (.build t parts.toArray) fr S K=((parts.map fun p=>ev fr p.2).all ic=true∧hJ P t ((parts.map (·.1)).zip (parts.map fun p=>ev fr p.2)) K):=rfl
theorem yP{P:Program}{w0:W0}{fr:List DV}{S:St}{K:DV→Prop}(t:TypeId)(len:Nat)(parts:List (Nat×Operand)):aL P w0 (.buildSlice t len parts.toArray) fr S K=((parts.map fun p=>ev fr p.2).all ic=true∧bc (tk P t) (zD P (eH P t)) len ((parts.map (·.1)).zip (parts.map fun p=>ev fr p.2)) K):=rfl
theorem XS{P:Program}{w0:W0}{fr:List DV}{S:St}{K:DV→Prop}(x:Operand)(t:TypeId):aL P w0 (.call ⟨.builtin .len, #[x], #[t]⟩) fr S K=(pS (tk P t) (ev fr x) K):=rfl
theorem W3{P:Program}{w0:W0}{fr:List DV}{S:St}{K:DV→Prop}(x y:Operand)(ts:Array TypeId):aL P w0 (.call ⟨.builtin .min, #[x,y],ts⟩) fr S K=(tu (ev fr x) (ev fr y) K):=rfl
theorem Zf{P:Program}{w0:W0}{fr:List DV}{S:St}{K:DV→Prop}(x y:Operand)(ts:Array TypeId):aL P w0 (.call ⟨.builtin .max, #[x,y],ts⟩) fr S K=(tB (ev fr x) (ev fr y) K):=rfl
theorem Le{P:Program}{w0:W0}{fr:List DV}{S:St}{K:DV→Prop}(r:Operand)(name:String)(a:List Operand)(ts:Array TypeId):aL P w0 (.call ⟨.invoke r name,a.toArray,ts⟩) fr S K=(uT P (ev fr r) name fun f d=>og P w0 (.v (.func (.func f) #[] #[])) (d::a.map (ev fr)) S K):=rfl
theorem Wc{P:Program}{w0:W0}{fr:List DV}{S:St}{K:DV→Prop}(cal:Operand)(a:List Operand)(ts:Array TypeId):aL P w0 (.call ⟨.value cal,a.toArray,ts⟩) fr S K=(og P w0 (ev fr cal) (a.map (ev fr)) S K):=rfl
attribute [go_sem ↓] V7 KX VJ VW AQ AZ Qr Jx E2 P9 V9 Jd OW QJ yJ Du O1 X0 OO PH Bz XY Yn Nw Vf Pt XH Xz Vi LL Mk By Ie T9
attribute [go_sem ↓] LR V5 U6 Bo A3 IY EC RT Tw Hl DH Rt PB yP XS W3 Zf Le Wc
attribute [go_sem] E5 yy E0 Ej tD tz wI vP Bk D1 wJ Bm sr Bb Hf AE G1 Jp Bu zW uS zF Ko
attribute [go_sem] Ex Ik HA I5 Lc Ia N0 N7 Ns Of AG Dz DS Er Hw
attribute [go_sem] ya A6 Mu I1 Je Df AO HT BW Eu Nn Cu yV XV Ae
attribute [go_sem] zy yf wv Az Au Dr JP E1 Dt CQ EG Dp EA C6 EX DF DY Ec ET Ed Ek wF wy Pg QG aaI G8 Sk QE D5 AW IL C5 G9
attribute [go_sem] Dg
section
variable {P:Program} {w0:W0} {K:DV→Prop} {A B:Prop} {F G:List DV→Prop}
/- Tests:what is known is gone by;what can't be known parts the fY. -/
theorem OC:gJ (.v (.bool true)) A B=A:=by simp[gJ]
theorem Mn:gJ (.v (.bool false)) A B=B:=by simp[gJ]
theorem Ot(p:Prop)[Decidable p]:gJ (.v (.bool (decide p))) A B=((p→A)∧(¬p→B)):=by simp[gJ]
theorem KC(b:Bool):gJ (.v (.bool (!b))) A B=gJ (.v (.bool b)) B A:=by
 simp only[gJ,Bool.not_eq_eq_eq_not,Bool.not_true,afV];exact propext ⟨fun h=>⟨h.2,h.1⟩,fun h=>⟨h.2,h.1⟩⟩
theorem NW(b:Bool):gJ (.v (.bool b)) A B=((b=true→A)∧(b=false→B)):=rfl
theorem Kc(a b:DV):jV (.v (.bool true)) a b K=K a:=by simp[jV]
theorem MS(a b:DV):jV (.v (.bool false)) a b K=K b:=by simp[jV]
/- A choice between what is known is the test itself. -/
theorem PF(t:Nat)(fr:List DV):gD t (.v (.bool true)) fr true F G=F (fr.set t (.v (.bool true))):=by simp[gD]
theorem Qp(t:Nat)(fr:List DV):gD t (.v (.bool true)) fr false F G=G (fr.set t (.v (.bool true))):=by simp[gD]
theorem Sq(t:Nat)(fr:List DV):gD t (.v (.bool false)) fr true F G=G (fr.set t (.v (.bool false))):=by simp[gD]
theorem Qe(t:Nat)(fr:List DV):gD t (.v (.bool false)) fr false F G=F (fr.set t (.v (.bool false))):=by simp[gD]
theorem P5(p:Prop)[Decidable p](t:Nat)(fr:List DV):gD t (.v (.bool (decide p))) fr true F G=((p→F (fr.set t (.v (.bool true))))∧(¬p→G (fr.set t (.v (.bool false))))):=by simp[gD]
theorem Pa(p:Prop)[Decidable p](t:Nat)(fr:List DV):gD t (.v (.bool (decide p))) fr false F G=((p→G (fr.set t (.v (.bool true))))∧(¬p→F (fr.set t (.v (.bool false))))):=by
 simp only[gD,decide_eq_false_iff_not,afV,decide_eq_true_eq];exact propext ⟨fun h=>⟨h.2,h.1⟩,fun h=>⟨h.2,h.1⟩⟩
theorem GM(b:Bool)(t:Nat)(fr:List DV):gD t (.v (.bool b)) fr true F G=((b=true→F (fr.set t (.v (.bool true))))∧(b=false→G (fr.set t (.v (.bool false))))):=by simp[gD]
theorem Rx(b:Bool)(t:Nat)(fr:List DV):gD t (.v (.bool b)) fr false F G=((b=true→G (fr.set t (.v (.bool true))))∧(b=false→F (fr.set t (.v (.bool false))))):=by
 simp only[gD,afV];exact propext ⟨fun h=>⟨h.2,h.1⟩,fun h=>⟨h.2,h.1⟩⟩
end
attribute [go_sem ↓] OC Mn Ot KC Kc MS PF Qp Sq Qe P5 Pa
attribute [go_sem ↓ low] NW GM Rx
attribute [go_sem] List.length_cons List.length_nil List.length_map List.cons_append List.nil_append List.map_cons List.map_nil List.zip_cons_cons List.zip_nil_right
section
variable {P:Program} {w0:W0} {ops:Array Oper} {K:List DV→St→Prop} {fr:List DV} {S:St} {rest:List Oper} {dst:Option Tmp} {op:Op} {ty:TypeId} {pos:String} {aft:Array Edge}
theorem HC:yo P w0 ops K [] fr S=K fr S:=rfl
theorem CU:yo P w0 ops K (⟨dst,op,ty,pos,aft,none⟩::rest) fr S=aU P w0 op fr S fun d S'=>yo P w0 ops K rest (pt fr dst d) S':=rfl
theorem CY(j:Nat)(want:Bool):yo P w0 ops K (⟨dst,op,ty,pos,aft,some (j,want)⟩::rest) fr S=gK ((ops[j]?).bind (·.dst)) fr want (fun fr=>aU P w0 op fr S fun d S'=>yo P w0 ops K rest (pt fr dst d) S') (fun fr=>yo P w0 ops K rest (pt fr dst ud) S):=uf _ _ _ _ _ _
end
def QC(P:Program)(w0:W0)(f:FuncId)(ds:List DV)(S:St)[K:Cn (DV→Prop)]:Prop:=∃d,ab P w0 f ds S (fun d' S'=>d'=d∧S'=S)∧K.k d
theorem Qb{P:Program}{w0:W0}(f:FuncId)(a cap:Array Value)(ds:List DV)(S:St)(K:DV→Prop):og P w0 (.v (.func (.func f) a cap)) ds S K=(a.size=0∧okF P f=true∧cap.toList.all (fun u=>u.oneCell')=true∧ds.all ic=true∧@QC P w0 f (ds++cap.toList.map .v) S ⟨K⟩):=rfl
attribute [go_sem ↓] HC CU CY Qb kg ve pj lz vb xv
attribute [go_sem] List.getD_cons_succ List.getD_cons_zero List.getElem?_cons_succ List.getElem?_cons_zero List.getElem?_toArray Option.bind_some List.all_cons List.all_nil Bool.and_self Bool.and_true
attribute [go_sem] Nat.zero_add true_and and_true List.drop_zero List.drop_succ_cons List.take_succ_cons List.take_zero Option.map_some Option.map_none Option.isSome_some Option.isSome_none Option.isNone_none Option.isNone_some
attribute [go_sem] Bool.false_eq_true if_true if_false or_true true_or false_or or_false forall_const false_implies imp_self Bool.not_true Bool.not_false beq_self_eq_true decide_eq_true_eq decide_eq_false_iff_not decide_true decide_false
attribute [go_sem] Int.toNat_natCast Int.natCast_nonneg Int.ofNat_lt Int.ofNat_le Int.natCast_inj List.getElem?_map Option.map_eq_some_iff forall_exists_index and_imp forall_apply_eq_imp_iff₂ forall_eq_apply_imp_iff ne_eq not_false_eq_true not_true_eq_false
attribute [go_sem] List.size_toArray List.append_nil Int.le_refl Nat.le_refl List.drop_nil List.take_nil Int.toNat_zero Int.natCast_zero Int.natCast_one Int.cast_ofNat_Int Bool.or_true Bool.or_false Bool.true_or Bool.false_or Bool.false_and Bool.and_false Bool.true_and List.isEmpty_nil List.isEmpty_cons
attribute [go_sem] dI dU dY dB dS Nat.lt_add_one forall_eq forall_eq' true_implies implies_true Option.some.injEq
structure FN{α:Type}(l:List (Nat×α)) where
 m:Nat
 h:jF l m
def FN.n{α:Type}{l:List (Nat×α)}(b:FN l):Nat:=b.m
theorem tG{α:Type}(l:List (Nat×α))(F:Nat→Prop):(∀b,jF l b→F b)=∀b:FN l,F b.n:=propext ⟨fun h b=>h b.n b.h,fun h b hb=>h ⟨b,hb⟩⟩
theorem n0{α:Type}:∀{l:List (Nat×α)} {b:Nat},jF l b→lk l b=none
 |[],_,_=>rfl
 |(k,x)::t,b,h=>by
  simp only[jF]at h;unfold lk;rw[if_neg (by first|exact fun e=>h.1 e|exact fun e=>h.1 e.symm)];exact n0 (by first|exact h.2|exact h.2.2)
theorem kI{α:Type}{l:List (Nat×α)}(b:FN l):lk l b.n=none:=n0 b.h
theorem OY{α:Type}{l:List (Nat×α)}(b:FN l)(c:Nat)(h:(lk l c).isSome=true):(b.n=c)=False:=by
 refine eq_false fun e=>?_;subst e;rw[show lk l b.n=none from n0 b.h]at h;cases h
theorem Oc{α:Type}{l:List (Nat×α)}(b:FN l)(c:Nat)(h:(lk l c).isSome=true):(c=b.n)=False:=by
 refine eq_false fun e=>?_;subst e;rw[show lk l b.n=none from n0 b.h]at h;cases h
section
variable {S:St} {K:DV→St→Prop}
theorem VX(d:DV):Gl S d K=∀b:FN S.box,K (.v (.pointer (some ⟨b.n,0,none⟩))) ⟨(b.n,cd d)::S.box,S.acc⟩:=tG S.box fun b=>K (.v (.pointer (some ⟨b,0,none⟩))) ⟨(b,cd d)::S.box,S.acc⟩
theorem Nr(ds:List DV):Gl S (.agg ds) K=∀b:FN S.box,K (.v (.pointer (some ⟨b.n,0,none⟩))) ⟨(b.n,ds)::S.box,S.acc⟩:=VX _
theorem VU(u:Value):Gl S (.v u) K=∀b:FN S.box,K (.v (.pointer (some ⟨b.n,0,none⟩))) ⟨(b.n,[.v u])::S.box,S.acc⟩:=VX _
theorem Qf(s:Nat)(f:Bool)(xs:List DV):Gl S (.sl s f xs) K=∀b:FN S.box,K (.v (.pointer (some ⟨b.n,0,none⟩))) ⟨(b.n,[.sl s f xs])::S.box,S.acc⟩:=VX _
end
theorem H0(kk:KK)(z:DV)(S:St)(K:DV→St→Prop):kn (some (kk,z)) none S K=∀l:FN S.acc,K (.mp l.n) ⟨S.box,(l.n,.xo (.mp kk [] 0))::S.acc⟩:=by
 unfold kn;simp only[oK,true_and];exact tG S.acc fun l=>K (.mp l) ⟨S.box,(l,.xo (.mp kk [] 0))::S.acc⟩
attribute [go_sem ↓] H0
attribute [go_sem ↓] tG Nr VU Qf
attribute [go_sem] OY Oc Option.isSome_some
noncomputable def pB(P:Prop):Bool:=@decide P (Classical.propDecidable P)
theorem mQ{P:Prop}(h:P):pB P=true:=@decide_eq_true _ (Classical.propDecidable _) h
theorem qp{P:Prop}(h:¬P):pB P=false:=@decide_eq_false _ (Classical.propDecidable _) h
theorem wj(P:Prop):(pB P=true)=P:=propext ⟨fun h=>@of_decide_eq_true _ (Classical.propDecidable _) h,mQ⟩
theorem Ge(P:Prop):(pB P=false)=¬P:=propext ⟨fun h=>@of_decide_eq_false _ (Classical.propDecidable _) h,qp⟩
theorem XT(P:Prop):(true=pB P)=P:=(propext eq_comm).trans (wj P)
theorem W4(P:Prop):(false=pB P)=¬P:=(propext eq_comm).trans (Ge P)
theorem aan(P:Prop)[Decidable P]:(true=decide P)=P:=(propext eq_comm).trans decide_eq_true_eq
theorem aaF(P:Prop)[Decidable P]:(false=decide P)=¬P:=(propext eq_comm).trans (propext decide_eq_false_iff_not)
theorem JW(P A B:Prop):gJ (.v (.bool (pB P))) A B=((P→A)∧(¬P→B)):=by
 show((pB P=true→A)∧(pB P=false→B))=_;rw[wj,Ge]
theorem Se(P:Prop)(t:Nat)(fr:List DV)(F G:List DV→Prop):gD t (.v (.bool (pB P))) fr true F G=((P→F (fr.set t (.v (.bool true))))∧(¬P→G (fr.set t (.v (.bool false))))):=by
 rw[GM,wj,Ge]
theorem JQ(P:Prop):(!pB P)=pB (¬P):=by
 by_cases h:P
 ·rw[mQ h,qp (fun k=>k h)];rfl
 ·rw[qp h,mQ h];rfl
theorem Q3{P Q:Prop}(h:P↔Q):pB P=pB Q:=by rw[propext h]
attribute [go_sem ↓] JW Se
attribute [go_sem] wj Ge XT W4 aan aaF JQ
theorem Fo{α β:Type}(f:α→β)(n:Nat)(l:List α):List.take n (List.map f l)=List.map f (List.take n l):=List.map_take.symm
theorem Ef{α β:Type}(f:α→β)(n:Nat)(l:List α):List.drop n (List.map f l)=List.map f (List.drop n l):=List.map_drop.symm
theorem Im{α β:Type}(f:α→β)(a b:List α):List.map f a++List.map f b=List.map f (a++b):=aa1.symm
attribute [go_sem] Fo Ef Im List.length_append List.length_take List.length_drop List.take_length List.drop_length Nat.min_self
theorem aaL(P Q:Prop)[Decidable P]:(decide P=pB Q)=(P↔Q):=propext ⟨fun h=>⟨fun p=>(wj Q).mp (h▸decide_eq_true p),fun q=>of_decide_eq_true (h.trans (mQ q))⟩,fun h=>by
 by_cases p:P
 ·rw[mQ (h.1 p),decide_eq_true p]
 ·rw[qp (fun q=>p (h.2 q)),decide_eq_false p]⟩
theorem aa0(P Q:Prop):(pB P=pB Q)=(P↔Q):=propext ⟨fun h=>⟨fun p=>(wj Q).mp (h▸mQ p),fun q=>(wj P).mp (h.trans (mQ q))⟩,Q3⟩
theorem aaz(P Q:Prop)[Decidable P][Decidable Q]:(decide P=decide Q)=(P↔Q):=propext decide_eq_decide
attribute [go_sem] aaL aa0 aaz
theorem Q0(P:Prop)[Decidable P]:(!decide P)=decide (¬P):=(decide_not).symm
attribute [go_sem] Q0 Bool.not_eq_true' Bool.not_eq_false'
attribute [go_sem] Value.oneCell' false_and and_false and_self List.length_set
attribute [go_sem] MY aai
attribute [go_sem ↓] Nv DX U1 VA ES JU MW Mf
attribute [go_sem ↓] Yf Xl HD Nb Sd Z9 ED Fu Ka LD
attribute [go_sem] Ad
attribute [go_sem ↓] CA KI G6 Iw Bx NL Kn OB Qv Lv OM Kk J7 OF Px H8 Sb NJ Mq IN LJ RK N8 MQ KE NH Ly L3 MB Hb BG zg Ra L4 I0 G4 G3 E3 zR MV H9 Dq Fj Et Ds EF DO Bl LA Ji Hv Xr X9 CG E4 zH Xq Fe E9 Mi Db B3 XF G0 Eg Dy L8 I8 EM Va HZ I4 Y4 I3 DE Dc Fs Es xx K8 Q2 CT Hi Eh Cq H2 IA C1 Js UZ zZ CX PT Tu UC RF NO P1 OU JC Dl Qt Ce EO JE uf HS Rp VH Sj aaP Zd
attribute [go_sem] P3 NU HF Jb Hk Vj PS Ks KU KY fu qQ Jf Sa KT YB Qx Dw En CW E6 xV yF EK B8 xY Bh EU BU
theorem Oi(r:XX)(l:List DV)(n:Nat)(d:DV):(rc r l).getD (n+16) d=l.getD n d:=rfl
theorem Lx(r:XX)(l:List DV)(n:Nat)(d:DV):(rc r l).set (n+16) d=rc r (l.set n d):=rfl
theorem Pn(r:XX)(l:List DV)(n:Nat):(rc r l)[n+16]? =l[n]? :=rfl
theorem MJ(a0 a1 a2 a3 a4 a5 a6 a7 a8 a9 cE cH a12 cV cX dh:DV)(l:List DV)(d:DV):(rc ⟨a0,a1,a2,a3,a4,a5,a6,a7,a8,a9,cE,cH,a12,cV,cX,dh⟩ l).getD 0 d=a0:=rfl
theorem Kw(a0 a1 a2 a3 a4 a5 a6 a7 a8 a9 cE cH a12 cV cX dh:DV)(l:List DV)(d:DV):(rc ⟨a0,a1,a2,a3,a4,a5,a6,a7,a8,a9,cE,cH,a12,cV,cX,dh⟩ l).set 0 d=rc ⟨d,a1,a2,a3,a4,a5,a6,a7,a8,a9,cE,cH,a12,cV,cX,dh⟩ l:=rfl
theorem N3(a0 a1 a2 a3 a4 a5 a6 a7 a8 a9 cE cH a12 cV cX dh:DV)(l:List DV)(d:DV):(rc ⟨a0,a1,a2,a3,a4,a5,a6,a7,a8,a9,cE,cH,a12,cV,cX,dh⟩ l).getD 1 d=a1:=rfl
theorem Mg(a0 a1 a2 a3 a4 a5 a6 a7 a8 a9 cE cH a12 cV cX dh:DV)(l:List DV)(d:DV):(rc ⟨a0,a1,a2,a3,a4,a5,a6,a7,a8,a9,cE,cH,a12,cV,cX,dh⟩ l).set 1 d=rc ⟨a0,d,a2,a3,a4,a5,a6,a7,a8,a9,cE,cH,a12,cV,cX,dh⟩ l:=rfl
theorem KW(a0 a1 a2 a3 a4 a5 a6 a7 a8 a9 cE cH a12 cV cX dh:DV)(l:List DV)(d:DV):(rc ⟨a0,a1,a2,a3,a4,a5,a6,a7,a8,a9,cE,cH,a12,cV,cX,dh⟩ l).getD 2 d=a2:=rfl
theorem Kx(a0 a1 a2 a3 a4 a5 a6 a7 a8 a9 cE cH a12 cV cX dh:DV)(l:List DV)(d:DV):(rc ⟨a0,a1,a2,a3,a4,a5,a6,a7,a8,a9,cE,cH,a12,cV,cX,dh⟩ l).set 2 d=rc ⟨a0,a1,d,a3,a4,a5,a6,a7,a8,a9,cE,cH,a12,cV,cX,dh⟩ l:=rfl
theorem KJ(a0 a1 a2 a3 a4 a5 a6 a7 a8 a9 cE cH a12 cV cX dh:DV)(l:List DV)(d:DV):(rc ⟨a0,a1,a2,a3,a4,a5,a6,a7,a8,a9,cE,cH,a12,cV,cX,dh⟩ l).getD 3 d=a3:=rfl
theorem Oj(a0 a1 a2 a3 a4 a5 a6 a7 a8 a9 cE cH a12 cV cX dh:DV)(l:List DV)(d:DV):(rc ⟨a0,a1,a2,a3,a4,a5,a6,a7,a8,a9,cE,cH,a12,cV,cX,dh⟩ l).set 3 d=rc ⟨a0,a1,a2,d,a4,a5,a6,a7,a8,a9,cE,cH,a12,cV,cX,dh⟩ l:=rfl
theorem Qa(a0 a1 a2 a3 a4 a5 a6 a7 a8 a9 cE cH a12 cV cX dh:DV)(l:List DV):(rc ⟨a0,a1,a2,a3,a4,a5,a6,a7,a8,a9,cE,cH,a12,cV,cX,dh⟩ l)[3]? =some a3:=rfl
theorem JZ(a0 a1 a2 a3 a4 a5 a6 a7 a8 a9 cE cH a12 cV cX dh:DV)(l:List DV)(d:DV):(rc ⟨a0,a1,a2,a3,a4,a5,a6,a7,a8,a9,cE,cH,a12,cV,cX,dh⟩ l).getD 4 d=a4:=rfl
theorem L7(a0 a1 a2 a3 a4 a5 a6 a7 a8 a9 cE cH a12 cV cX dh:DV)(l:List DV)(d:DV):(rc ⟨a0,a1,a2,a3,a4,a5,a6,a7,a8,a9,cE,cH,a12,cV,cX,dh⟩ l).set 4 d=rc ⟨a0,a1,a2,a3,d,a5,a6,a7,a8,a9,cE,cH,a12,cV,cX,dh⟩ l:=rfl
theorem LG(a0 a1 a2 a3 a4 a5 a6 a7 a8 a9 cE cH a12 cV cX dh:DV)(l:List DV)(d:DV):(rc ⟨a0,a1,a2,a3,a4,a5,a6,a7,a8,a9,cE,cH,a12,cV,cX,dh⟩ l).getD 5 d=a5:=rfl
theorem Nu(a0 a1 a2 a3 a4 a5 a6 a7 a8 a9 cE cH a12 cV cX dh:DV)(l:List DV)(d:DV):(rc ⟨a0,a1,a2,a3,a4,a5,a6,a7,a8,a9,cE,cH,a12,cV,cX,dh⟩ l).set 5 d=rc ⟨a0,a1,a2,a3,a4,d,a6,a7,a8,a9,cE,cH,a12,cV,cX,dh⟩ l:=rfl
theorem Mp(a0 a1 a2 a3 a4 a5 a6 a7 a8 a9 cE cH a12 cV cX dh:DV)(l:List DV)(d:DV):(rc ⟨a0,a1,a2,a3,a4,a5,a6,a7,a8,a9,cE,cH,a12,cV,cX,dh⟩ l).getD 6 d=a6:=rfl
theorem L2(a0 a1 a2 a3 a4 a5 a6 a7 a8 a9 cE cH a12 cV cX dh:DV)(l:List DV)(d:DV):(rc ⟨a0,a1,a2,a3,a4,a5,a6,a7,a8,a9,cE,cH,a12,cV,cX,dh⟩ l).set 6 d=rc ⟨a0,a1,a2,a3,a4,a5,d,a7,a8,a9,cE,cH,a12,cV,cX,dh⟩ l:=rfl
theorem NC(a0 a1 a2 a3 a4 a5 a6 a7 a8 a9 cE cH a12 cV cX dh:DV)(l:List DV)(d:DV):(rc ⟨a0,a1,a2,a3,a4,a5,a6,a7,a8,a9,cE,cH,a12,cV,cX,dh⟩ l).getD 7 d=a7:=rfl
theorem Nj(a0 a1 a2 a3 a4 a5 a6 a7 a8 a9 cE cH a12 cV cX dh:DV)(l:List DV)(d:DV):(rc ⟨a0,a1,a2,a3,a4,a5,a6,a7,a8,a9,cE,cH,a12,cV,cX,dh⟩ l).set 7 d=rc ⟨a0,a1,a2,a3,a4,a5,a6,d,a8,a9,cE,cH,a12,cV,cX,dh⟩ l:=rfl
theorem RS(a0 a1 a2 a3 a4 a5 a6 a7 a8 a9 cE cH a12 cV cX dh:DV)(l:List DV):(rc ⟨a0,a1,a2,a3,a4,a5,a6,a7,a8,a9,cE,cH,a12,cV,cX,dh⟩ l)[7]? =some a7:=rfl
theorem Kj(a0 a1 a2 a3 a4 a5 a6 a7 a8 a9 cE cH a12 cV cX dh:DV)(l:List DV)(d:DV):(rc ⟨a0,a1,a2,a3,a4,a5,a6,a7,a8,a9,cE,cH,a12,cV,cX,dh⟩ l).getD 8 d=a8:=rfl
theorem Mc(a0 a1 a2 a3 a4 a5 a6 a7 a8 a9 cE cH a12 cV cX dh:DV)(l:List DV)(d:DV):(rc ⟨a0,a1,a2,a3,a4,a5,a6,a7,a8,a9,cE,cH,a12,cV,cX,dh⟩ l).set 8 d=rc ⟨a0,a1,a2,a3,a4,a5,a6,a7,d,a9,cE,cH,a12,cV,cX,dh⟩ l:=rfl
theorem OX(a0 a1 a2 a3 a4 a5 a6 a7 a8 a9 cE cH a12 cV cX dh:DV)(l:List DV):(rc ⟨a0,a1,a2,a3,a4,a5,a6,a7,a8,a9,cE,cH,a12,cV,cX,dh⟩ l)[8]? =some a8:=rfl
theorem Ll(a0 a1 a2 a3 a4 a5 a6 a7 a8 a9 cE cH a12 cV cX dh:DV)(l:List DV)(d:DV):(rc ⟨a0,a1,a2,a3,a4,a5,a6,a7,a8,a9,cE,cH,a12,cV,cX,dh⟩ l).getD 9 d=a9:=rfl
theorem J0(a0 a1 a2 a3 a4 a5 a6 a7 a8 a9 cE cH a12 cV cX dh:DV)(l:List DV)(d:DV):(rc ⟨a0,a1,a2,a3,a4,a5,a6,a7,a8,a9,cE,cH,a12,cV,cX,dh⟩ l).set 9 d=rc ⟨a0,a1,a2,a3,a4,a5,a6,a7,a8,d,cE,cH,a12,cV,cX,dh⟩ l:=rfl
theorem I9(a0 a1 a2 a3 a4 a5 a6 a7 a8 a9 cE cH a12 cV cX dh:DV)(l:List DV)(d:DV):(rc ⟨a0,a1,a2,a3,a4,a5,a6,a7,a8,a9,cE,cH,a12,cV,cX,dh⟩ l).getD 10 d=cE:=rfl
theorem Ju(a0 a1 a2 a3 a4 a5 a6 a7 a8 a9 cE cH a12 cV cX dh:DV)(l:List DV)(d:DV):(rc ⟨a0,a1,a2,a3,a4,a5,a6,a7,a8,a9,cE,cH,a12,cV,cX,dh⟩ l).set 10 d=rc ⟨a0,a1,a2,a3,a4,a5,a6,a7,a8,a9,d,cH,a12,cV,cX,dh⟩ l:=rfl
theorem Hc(a0 a1 a2 a3 a4 a5 a6 a7 a8 a9 cE cH a12 cV cX dh:DV)(l:List DV)(d:DV):(rc ⟨a0,a1,a2,a3,a4,a5,a6,a7,a8,a9,cE,cH,a12,cV,cX,dh⟩ l).getD 11 d=cH:=rfl
theorem Iz(a0 a1 a2 a3 a4 a5 a6 a7 a8 a9 cE cH a12 cV cX dh:DV)(l:List DV)(d:DV):(rc ⟨a0,a1,a2,a3,a4,a5,a6,a7,a8,a9,cE,cH,a12,cV,cX,dh⟩ l).set 11 d=rc ⟨a0,a1,a2,a3,a4,a5,a6,a7,a8,a9,cE,d,a12,cV,cX,dh⟩ l:=rfl
theorem HI(a0 a1 a2 a3 a4 a5 a6 a7 a8 a9 cE cH a12 cV cX dh:DV)(l:List DV)(d:DV):(rc ⟨a0,a1,a2,a3,a4,a5,a6,a7,a8,a9,cE,cH,a12,cV,cX,dh⟩ l).getD 12 d=a12:=rfl
theorem It(a0 a1 a2 a3 a4 a5 a6 a7 a8 a9 cE cH a12 cV cX dh:DV)(l:List DV)(d:DV):(rc ⟨a0,a1,a2,a3,a4,a5,a6,a7,a8,a9,cE,cH,a12,cV,cX,dh⟩ l).set 12 d=rc ⟨a0,a1,a2,a3,a4,a5,a6,a7,a8,a9,cE,cH,d,cV,cX,dh⟩ l:=rfl
theorem Lq(a0 a1 a2 a3 a4 a5 a6 a7 a8 a9 cE cH a12 cV cX dh:DV)(l:List DV):(rc ⟨a0,a1,a2,a3,a4,a5,a6,a7,a8,a9,cE,cH,a12,cV,cX,dh⟩ l)[12]? =some a12:=rfl
theorem Ij(a0 a1 a2 a3 a4 a5 a6 a7 a8 a9 cE cH a12 cV cX dh:DV)(l:List DV)(d:DV):(rc ⟨a0,a1,a2,a3,a4,a5,a6,a7,a8,a9,cE,cH,a12,cV,cX,dh⟩ l).getD 13 d=cV:=rfl
theorem HG(a0 a1 a2 a3 a4 a5 a6 a7 a8 a9 cE cH a12 cV cX dh:DV)(l:List DV)(d:DV):(rc ⟨a0,a1,a2,a3,a4,a5,a6,a7,a8,a9,cE,cH,a12,cV,cX,dh⟩ l).set 13 d=rc ⟨a0,a1,a2,a3,a4,a5,a6,a7,a8,a9,cE,cH,a12,d,cX,dh⟩ l:=rfl
theorem Hu(a0 a1 a2 a3 a4 a5 a6 a7 a8 a9 cE cH a12 cV cX dh:DV)(l:List DV)(d:DV):(rc ⟨a0,a1,a2,a3,a4,a5,a6,a7,a8,a9,cE,cH,a12,cV,cX,dh⟩ l).getD 14 d=cX:=rfl
theorem Jn(a0 a1 a2 a3 a4 a5 a6 a7 a8 a9 cE cH a12 cV cX dh:DV)(l:List DV)(d:DV):(rc ⟨a0,a1,a2,a3,a4,a5,a6,a7,a8,a9,cE,cH,a12,cV,cX,dh⟩ l).set 14 d=rc ⟨a0,a1,a2,a3,a4,a5,a6,a7,a8,a9,cE,cH,a12,cV,d,dh⟩ l:=rfl
theorem N6(a0 a1 a2 a3 a4 a5 a6 a7 a8 a9 cE cH a12 cV cX dh:DV)(l:List DV):(rc ⟨a0,a1,a2,a3,a4,a5,a6,a7,a8,a9,cE,cH,a12,cV,cX,dh⟩ l)[14]? =some cX:=rfl
theorem Ii(a0 a1 a2 a3 a4 a5 a6 a7 a8 a9 cE cH a12 cV cX dh:DV)(l:List DV)(d:DV):(rc ⟨a0,a1,a2,a3,a4,a5,a6,a7,a8,a9,cE,cH,a12,cV,cX,dh⟩ l).getD 15 d=dh:=rfl
theorem IP(a0 a1 a2 a3 a4 a5 a6 a7 a8 a9 cE cH a12 cV cX dh:DV)(l:List DV)(d:DV):(rc ⟨a0,a1,a2,a3,a4,a5,a6,a7,a8,a9,cE,cH,a12,cV,cX,dh⟩ l).set 15 d=rc ⟨a0,a1,a2,a3,a4,a5,a6,a7,a8,a9,cE,cH,a12,cV,cX,d⟩ l:=rfl
theorem Vx(a0 a1 a2 a3 a4 a5 a6 a7 a8 a9 cE cH a12 cV cX dh:DV)(l:List DV)(i:Nat)(js:List Nat):xw (rc ⟨a0,a1,a2,a3,a4,a5,a6,a7,a8,a9,cE,cH,a12,cV,cX,dh⟩ l) i js=xw (a0::a1::a2::a3::a4::a5::a6::a7::a8::a9::cE::cH::a12::cV::cX::dh::l) i js:=rfl
theorem VF(a0 a1 a2 a3 a4 a5 a6 a7 a8 a9 cE cH a12 cV cX dh:DV)(l:List DV):fU (a0::a1::a2::a3::a4::a5::a6::a7::a8::a9::cE::cH::a12::cV::cX::dh::l)=rc ⟨a0,a1,a2,a3,a4,a5,a6,a7,a8,a9,cE,cH,a12,cV,cX,dh⟩ (fU l):=rfl
theorem VS:fU []=[]:=rfl
theorem Uy(a0:DV):fU [a0]=[a0]:=rfl
theorem UA(a0 a1:DV):fU [a0,a1]=[a0,a1]:=rfl
theorem Ur(a0 a1 a2:DV):fU [a0,a1,a2]=[a0,a1,a2]:=rfl
theorem Ug(a0 a1 a2 a3:DV):fU [a0,a1,a2,a3]=[a0,a1,a2,a3]:=rfl
theorem UB(a0 a1 a2 a3 a4:DV):fU [a0,a1,a2,a3,a4]=[a0,a1,a2,a3,a4]:=rfl
theorem T8(a0 a1 a2 a3 a4 a5:DV):fU [a0,a1,a2,a3,a4,a5]=[a0,a1,a2,a3,a4,a5]:=rfl
theorem U5(a0 a1 a2 a3 a4 a5 a6:DV):fU [a0,a1,a2,a3,a4,a5,a6]=[a0,a1,a2,a3,a4,a5,a6]:=rfl
theorem Uc(a0 a1 a2 a3 a4 a5 a6 a7:DV):fU [a0,a1,a2,a3,a4,a5,a6,a7]=[a0,a1,a2,a3,a4,a5,a6,a7]:=rfl
theorem Tz(a0 a1 a2 a3 a4 a5 a6 a7 a8:DV):fU [a0,a1,a2,a3,a4,a5,a6,a7,a8]=[a0,a1,a2,a3,a4,a5,a6,a7,a8]:=rfl
theorem O7(a0 a1 a2 a3 a4 a5 a6 a7 a8 a9:DV):fU [a0,a1,a2,a3,a4,a5,a6,a7,a8,a9]=[a0,a1,a2,a3,a4,a5,a6,a7,a8,a9]:=rfl
theorem P6(a0 a1 a2 a3 a4 a5 a6 a7 a8 a9 cE:DV):fU [a0,a1,a2,a3,a4,a5,a6,a7,a8,a9,cE]=[a0,a1,a2,a3,a4,a5,a6,a7,a8,a9,cE]:=rfl
theorem Pp(a0 a1 a2 a3 a4 a5 a6 a7 a8 a9 cE cH:DV):fU [a0,a1,a2,a3,a4,a5,a6,a7,a8,a9,cE,cH]=[a0,a1,a2,a3,a4,a5,a6,a7,a8,a9,cE,cH]:=rfl
theorem PE(a0 a1 a2 a3 a4 a5 a6 a7 a8 a9 cE cH a12:DV):fU [a0,a1,a2,a3,a4,a5,a6,a7,a8,a9,cE,cH,a12]=[a0,a1,a2,a3,a4,a5,a6,a7,a8,a9,cE,cH,a12]:=rfl
theorem ON(a0 a1 a2 a3 a4 a5 a6 a7 a8 a9 cE cH a12 cV:DV):fU [a0,a1,a2,a3,a4,a5,a6,a7,a8,a9,cE,cH,a12,cV]=[a0,a1,a2,a3,a4,a5,a6,a7,a8,a9,cE,cH,a12,cV]:=rfl
theorem PI(a0 a1 a2 a3 a4 a5 a6 a7 a8 a9 cE cH a12 cV cX:DV):fU [a0,a1,a2,a3,a4,a5,a6,a7,a8,a9,cE,cH,a12,cV,cX]=[a0,a1,a2,a3,a4,a5,a6,a7,a8,a9,cE,cH,a12,cV,cX]:=rfl
attribute [go_sem] Oi Lx Pn MJ Kw N3 Mg KW Kx KJ Oj Qa JZ L7 LG Nu Mp L2 NC Nj RS Kj Mc OX Ll J0 I9 Ju Hc Iz HI It Lq Ij HG Hu Jn N6 Ii IP Vx VF VS Uy UA Ur Ug UB T8 U5 Uc Tz O7 P6 Pp PE ON PI
end Aml
namespace Aml
open Go Go.RowKit
def px(P:Program)(w0:W0)(S:St)(ops:Array Oper)(K:List DV→St→Prop):List Oper→List DV→Prop
 |[],fr=>K fr S
 |o::rest,fr=>fq (rk o.op)
  (cJ ops fr o.guard (fun fr=>aL P w0 o.op fr S fun d=>px P w0 S ops K rest (pt fr o.dst d)) (fun fr=>px P w0 S ops K rest (pt fr o.dst ud)))
  (yo P w0 ops K (o::rest) fr S)
section
variable {P:Program} {w0:W0}
theorem pF{S:St}{ops:Array Oper}{K:List DV→St→Prop}:∀{l:List Oper} {fr:List DV},l.all (fun o=>iG o.op)=true→px P w0 S ops K l fr→LQ P w0 S ops (fun fr=>yo P w0 ops K (l.drop (o0 l)) fr S) (l.take (o0 l)) fr
 |[],fr,_,h=>h
 |o::rest,fr,hs,h=>by
  simp only[afk,abG]at hs;unfold px fq at h
  cases hq:rk o.op with
  |true=>
   rw[hq]at h;simp only at h;have e:o0 (o::rest)=o0 rest+1:=by simp[o0,ae9,hq]
   rw[e,aeW,afM];refine iQ (fun fr h=>?_) (fun fr h=>pF hs.2 h) h;obtain⟨d,q1,q2⟩:=lA hs.1 h;exact⟨d,q1,pF hs.2 q2⟩
  |false=>
   rw[hq]at h;have e:o0 (o::rest)=0:=by simp[o0,ae9,hq]
   rw[e];exact h
theorem DB{S:St}{a b:Array Oper}{K:List DV→Prop}:∀{l:List Oper} {fr:List DV},(∀o,o∈l→∀j want,o.guard=some (j,want)→a[j]? =b[j]?)→LQ P w0 S a K l fr→LQ P w0 S b K l fr
 |[],fr,_,h=>h
 |o::rest,fr,hg,h=>by
  have h':cJ a fr o.guard (fun fr=>∃d,QY P w0 S o fr d∧LQ P w0 S b K rest (pt fr o.dst d)) (fun fr=>LQ P w0 S b K rest (pt fr o.dst ud)):=
   iQ (fun fr ⟨d,q1,q2⟩=>⟨d,q1,DB (fun o ho=>hg o (abn _ ho)) q2⟩) (fun fr h=>DB (fun o ho=>hg o (abn _ ho)) h) h
  unfold cJ at h';show cJ b fr o.guard _ _;unfold cJ
  cases hgo:o.guard with
  |none=>rw[hgo]at h';exact h'
  |some p=>
   obtain⟨j,want⟩:=p;rw[hgo]at h';simp only at h' ⊢;rw[←hg o aaX j want hgo];exact h'
theorem Hs{id:Nat}{l:List Oper}{fr:List DV}{S:St}{Q:Exit→List DV→St→Prop}(hm:P.follows .mixedOrders=true)(hB:Region.lexB .any (l.take (o0 l)).toArray=true)(hT:th .any l.toArray (o0 l)=true)(hs:l.all (fun o=>iG o.op)=true)
 (h:px P w0 S l.toArray (fun fr S=>Q .normal fr S) l fr):gF P w0 (.region id l.toArray true) fr S Q:=by
 have hn:o0 l≤l.length:=by
  unfold o0;exact List.Sublist.length_le (List.takeWhile_sublist _)
 refine G2 (o0 l) hn hm hB hT hs (DB ?_ (pF hs h));intro o ho j want hg;simp only[th,abG]at hT;have:=adY.1 hT.2 o (by simpa using ho);simp only[hg,decide_eq_true_eq]at this;simp[adU,this]
def AL(P:Program)(w0:W0)(fr:List DV)(S:St)[c:Cn (Code×(Exit→List DV→St→Prop))]:Prop:=gF P w0 c.k.1 fr S c.k.2
def vw(P:Program)(w0:W0)(ss:List Nat):Code→List DV→St→(Exit→List DV→St→Prop)→Prop
 | .skip,fr,S,Q=>Q .normal fr S
 | .seq x y,fr,S,Q=>vw P w0 ss x fr S (kg (fun fr S=>vw P w0 ss y fr S Q) Q)
 | .cond c x y,fr,S,Q=>gJ (ev fr c) (vw P w0 ss x fr S Q) (vw P w0 ss y fr S Q)
 | .block n c,fr,S,Q=>fq (ss.contains (n+1000)) (@AL P w0 fr S ⟨((.block n c),Q)⟩) (vw P w0 ss c fr S (ve n Q))
 | .exit n,fr,S,Q=>Q (.exit n) fr S
 | .ret,fr,S,Q=>Q .ret fr S
 | .region n ops dr,fr,S,Q=>fq (ss.contains n) (@AL P w0 fr S ⟨((.region n ops dr),Q)⟩)
  (fq dr (px P w0 S ops (fun fr S=>Q .normal fr S) ops.toList fr) (yo P w0 ops (fun fr S=>Q .normal fr S) ops.toList fr S))
 |c,fr,S,Q=>@AL P w0 fr S ⟨(c,Q)⟩
/- How it goes. -/
section
variable {P:Program} {w0:W0} {ss:List Nat} {fr:List DV} {S:St} {Q:Exit→List DV→St→Prop}
theorem Iy:vw P w0 ss .skip fr S Q=Q .normal fr S:=rfl
theorem Me(x y:Code):vw P w0 ss (.seq x y) fr S Q=vw P w0 ss x fr S (kg (fun fr S=>vw P w0 ss y fr S Q) Q):=rfl
theorem Hy(c:Operand)(x y:Code):vw P w0 ss (.cond c x y) fr S Q=gJ (ev fr c) (vw P w0 ss x fr S Q) (vw P w0 ss y fr S Q):=rfl
theorem CZ(n:Nat)(c:Code):vw P w0 ss (.block n c) fr S Q=fq (ss.contains (n+1000)) (@AL P w0 fr S ⟨((.block n c),Q)⟩) (vw P w0 ss c fr S (ve n Q)):=rfl
theorem Jc(n:Nat):vw P w0 ss (.exit n) fr S Q=Q (.exit n) fr S:=rfl
theorem N2:vw P w0 ss .ret fr S Q=Q .ret fr S:=rfl
def kE(fr:List DV)(F:List DV→Prop):Prop:=F fr
@[congr] theorem Zv {fr fr':List DV} {F:List DV→Prop} (h:fr=fr'):kE fr F=kE fr' F:=by cases h;rfl
theorem PU(d:DV)(fr:List DV)(F:List DV→Prop):kE (d::fr) F=F (d::fr):=rfl
theorem EV(r:XX)(fr:List DV)(F:List DV→Prop):kE (rc r fr) F=F (rc r fr):=rfl
attribute [go_sem ↓] PU EV
theorem II(n:Nat)(l:List Oper):vw P w0 ss (.region n l.toArray false) fr S Q=fq (ss.contains n) (@AL P w0 fr S ⟨((.region n l.toArray false),Q)⟩) (yo P w0 l.toArray (fun fr S=>kE fr fun fr=>Q .normal fr S) l fr S):=by simp[vw,fq,kE]
theorem IM(n:Nat)(l:List Oper):vw P w0 ss (.region n l.toArray true) fr S Q=fq (ss.contains n) (@AL P w0 fr S ⟨((.region n l.toArray true),Q)⟩) (px P w0 S l.toArray (fun fr S=>kE fr fun fr=>Q .normal fr S) l fr):=by simp[vw,fq,kE]
section
variable {ops:Array Oper} {K:List DV→St→Prop} {rest:List Oper} {dst:Option Tmp} {op:Op} {ty:TypeId} {pos:String} {aft:Array Edge}
theorem L5:px P w0 S ops K [] fr=K fr S:=rfl
theorem HQ:px P w0 S ops K (⟨dst,op,ty,pos,aft,none⟩::rest) fr=fq (rk op) (aL P w0 op fr S fun d=>px P w0 S ops K rest (pt fr dst d)) (yo P w0 ops K (⟨dst,op,ty,pos,aft,none⟩::rest) fr S):=rfl
theorem HH(j:Nat)(want:Bool):px P w0 S ops K (⟨dst,op,ty,pos,aft,some (j,want)⟩::rest) fr=fq (rk op) (gK ((ops[j]?).bind (·.dst)) fr want (fun fr=>aL P w0 op fr S fun d=>px P w0 S ops K rest (pt fr dst d)) (fun fr=>px P w0 S ops K rest (pt fr dst ud))) (yo P w0 ops K (⟨dst,op,ty,pos,aft,some (j,want)⟩::rest) fr S):=by
 rw[←uf];rfl
end
def Gj(l:List Oper)(F:List Oper→Prop):Prop:=F l
@[congr] theorem Zo {l l':List Oper} {F:List Oper→Prop} (h:l=l'):Gj l F=Gj l' F:=by cases h;rfl
theorem Qc(l:List Oper)(F:List Oper→Prop):Gj l F=F l:=rfl
theorem He(n:Nat)(l1 l2:List Oper)(dr:Bool):vw P w0 ss (.region n (l1.append l2).toArray dr) fr S Q=Gj (l1.append l2) (fun l=>vw P w0 ss (.region n l.toArray dr) fr S Q):=rfl
theorem IB(c:Code):vw P w0 ss (.loop c) fr S Q= @AL P w0 fr S ⟨((.loop c),Q)⟩:=rfl
@[congr] theorem acm {c:Code} {fr':List DV} {S':St} (h1:fr=fr') (h2:S=S'):vw P w0 ss c fr S Q=vw P w0 ss c fr' S' Q:=by cases h1;cases h2;rfl
@[congr] theorem aar {ops:Array Oper} {K:List DV→St→Prop} {l:List Oper} {fr':List DV} {S':St} (h1:fr=fr') (h2:S=S'):px P w0 S ops K l fr=px P w0 S' ops K l fr':=by cases h1;cases h2;rfl
@[congr] theorem abq {c:Code} {fr':List DV} {S':St} (h1:fr=fr') (h2:S=S'):gF P w0 c fr S Q=gF P w0 c fr' S' Q:=by cases h1;cases h2;rfl
end
attribute [go_sem] Qc List.contains_nil List.contains_cons
attribute [go_sem ↓] L5 HQ HH Iy Me Hy CZ Jc N2 II IM IB
attribute [go_sem ↓ high] He
section
variable {md:Region.Mode} {ops:Array Oper}
def Mz(md:Region.Mode)(ops:Array Oper):Nat→List Oper→Bool
 |_,[]=>true
 |k,o::l=>o.after.toList.all (fun e=>!Region.binds md e||decide (e.on<k))&&l.all (fun oj=>oj.after.toList.any (fun e=>Region.binds md e&&e.on==k)||o.apart ops oj)&&Mz md ops (k+1) l
theorem uw:∀(l:List Oper) (k:Nat) (listed:Array Bool),(∀j,l[j]? =ops[k+j]?)→listed.size=ops.size→(∀i,i<k→listed[i]? =some true)→(∀i,k≤i→i<ops.size→listed[i]? =some false)→Mz md ops k l=true→Region.lexFrom md ops l.length k listed=true
 |[],k,listed,hl,hs,h1,h2,_=>by
  simp only[acL,Region.lexFrom]
  have:Region.ready md ops listed=[]:=List.eq_nil_iff_forall_not_mem.2 fun i hi=>by
   obtain⟨hun,o,ho,_⟩:=mem_ready.1 hi;rw[eS]at hun;rcases adR i k with h|h
   ·rw[h1 i h]at hun;cases hun
   ·have:=hl (i-k);rw[show k+(i-k)=i by omega,ho]at this;simp at this
  rw[this];rfl
 |o::l,k,listed,hl,hs,h1,h2,hG=>by
  have h0:ops[k]? =some o:=by simpa using(hl 0).symm
  have hk:k<ops.size:=(abF.1 h0).1;simp only[Mz,abG]at hG;obtain⟨⟨ha,hb⟩,hc⟩:=hG;simp only[abx,Region.lexFrom,abG]
  have hr:k∈Region.ready md ops listed:=mem_ready.2 ⟨eS.2 (h2 k (abI _) hk),o,h0,fun e he hbind=>by
   have:=adY.1 ha e (Array.mem_toList_iff.2 he);rw[hbind]at this;simp at this;exact eD.2 (h1 _ this)⟩
  refine⟨⟨by simpa using hr,?_⟩,?_⟩
  ·unfold Region.free;rw[h0];simp only[adY,aeF];intro j hj;rcases Nat.lt_trichotomy j k with h|h|h
   ·have:listed.getD j true=true:=by rw[adW,h1 j h];rfl
    simp[this]
   ·simp[h]
   ·have hj2:=hl (j-k);rw[show k+(j-k)=j by omega,show j-k=(j-k-1)+1 by omega,afl]at hj2;rw[←hj2]
    cases hq:l[j-k-1]? with
    |none=>simp
    |some oj=>
     have:=adY.1 hb oj (aap hq);simp only[ael]at this ⊢;refine .inr ?_;rcases this with h|h
     ·refine .inl ?_;obtain⟨e,he,h⟩:=List.any_eq_true.1 h;exact afQ.2 ⟨e,Array.mem_toList_iff.1 he,h⟩
     ·exact .inr h
  ·refine uw l (k+1) _ (fun j=>?_) (by simpa using hs) (fun i hi=>?_) (fun i hi hi2=>?_) hc
   ·have:=hl (j+1);simpa[aex,aeO 1 j]using this
   ·rw[ad1];by_cases h:k=i
    ·subst h;rw[if_pos rfl,if_pos (by omega)]
    ·rw[if_neg h];exact h1 i (by omega)
   ·rw[ad1,if_neg (by omega)];exact h2 i (by omega) hi2
theorem DR{l:List Oper}(hs:Region.noSelect l.toArray=true)(h:Mz md l.toArray 0 l=true):Region.lexB md l.toArray=true:=by
 unfold Region.lexB;rw[hs,afy];have:=uw (md:=md) (ops:=l.toArray) l 0 (Array.replicate l.toArray.size false) (fun j=>by simp) (by simp) (fun i hi=>absurd hi (by omega)) (fun i _ hi=>by rw[afI,if_pos hi]) h;simpa using this
end
def sj(ss:List Nat):Code→Bool
 | .seq x y=>sj ss x&&sj ss y
 | .cond _ x y=>sj ss x&&sj ss y
 | .block n c=>ss.contains (n+1000)||sj ss c
 | .region n ops false=>ss.contains n||ops.toList.all (fun o=>iG o.op)
 | .region n ops true=>ss.contains n||(ops.toList.all (fun o=>iG o.op)&&Region.noSelect (ops.toList.take (o0 ops.toList)).toArray&&Mz .any (ops.toList.take (o0 ops.toList)).toArray 0 (ops.toList.take (o0 ops.toList))&&th .any ops (o0 ops.toList))
 |_=>true
theorem df{ss:List Nat}(hm:P.follows .mixedOrders=true):∀(c:Code) {fr:List DV} {S:St} {Q:Exit→List DV→St→Prop},sj ss c=true→vw P w0 ss c fr S Q→gF P w0 c fr S Q
 | .skip,fr,S,Q,_,h=>Li h
 | .seq x y,fr,S,Q,ho,h=>by
  simp only[sj,abG]at ho;exact Qs ((df hm x ho.1 h).mono fun e fr S hq=>by cases e <;>first|exact df hm y ho.2 hq|exact hq)
 | .cond c x y,fr,S,Q,ho,h=>by
  simp only[sj,abG]at ho;exact MH (DL (fun h=>df hm x ho.1 h) (fun h=>df hm y ho.2 h) h)
 | .block n c,fr,S,Q,ho,h=>by
  unfold vw fq at h;unfold sj at ho;split at h
  ·exact h
  ·rename_i hn;rw[hn,afO]at ho;exact IW (df hm c ho h)
 | .exit n,fr,S,Q,_,h=>M0 h
 | .ret,fr,S,Q,_,h=>PY h
 | .region n ops false,fr,S,Q,ho,h=>by
  unfold vw at h;unfold fq at h;unfold sj at ho;split at h
  ·exact h
  rename_i hn;rw[hn,afO]at ho;simp only at h;have:=oI _ ho h;have:=vE (id:=n) (l:=ops.toList) this;simpa using this
 | .region n ops true,fr,S,Q,ho,h=>by
  unfold vw at h;unfold fq at h;unfold sj at ho;split at h
  ·exact h
  rename_i hn;rw[hn,afO]at ho;simp only[abG]at ho;simp only at h;have:=Hs (id:=n) (l:=ops.toList) (fr:=fr) (S:=S) (Q:=Q) hm (DR ho.1.1.2 ho.1.2) ho.2 ho.1.1.1 h;simpa using this
 | .loop c,fr,S,Q,_,h=>h
 | .rangeFunc f ps a b,fr,S,Q,_,h=>h
 | .scope c,fr,S,Q,_,h=>h
 | .label l,fr,S,Q,_,h=>h
 | .goto l,fr,S,Q,_,h=>h
 | .refuse w,fr,S,Q,_,h=>h
theorem mU(ss:List Nat){f:FuncId}{fn:Func}{c:Code}{rs:List ResultVar}{args:List DV}{S:St}{K:DV→St→Prop}(hm:P.follows .mixedOrders=true)(hf:P.funcs[f]? =some fn)(hb:fn.body=some c)(hrs:fn.results=rs.toArray)(hc:sj ss c=true)
 (h:vw P w0 ss c (fU (args++List.replicate (fn.ntmps-args.length) ud)) S fun e fr S'=>(e= .normal∨e= .ret)∧wi P fr S' rs fun d=>K d S'):ab P w0 f args S K:=
 vX hf hb hrs (df hm c hc h)
end
end Aml
