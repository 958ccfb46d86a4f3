/-
  Facts on the types and functions of the translation, printed by program (wip/tools/types.py). By an AI agent.
-/
import Derived.Test.YtkibkahknibgfaaA15
import Derived.Test.YtkibkahknibgfaaProg
import Derived.KernelRfl
namespace Go.Proofs.Ytkibkahknibgfaa
open Aml
@[go_sem] theorem ty.k2 : tk Try.prog 2 = .int .i64 := by kernel_rfl
@[go_sem] theorem ty.z2 : zD Try.prog 2 = .v (.int .i64 0) := by kernel_rfl
@[go_sem] theorem ty.c2 : Try.prog.cellsOf 2 = 1 := by kernel_rfl
@[go_sem] theorem ty.i2 : (Try.prog.info? 2).isSome = true := by kernel_rfl
@[go_sem] theorem ty.k3 : tk Try.prog 3 = .int .i64 := by kernel_rfl
@[go_sem] theorem ty.z3 : zD Try.prog 3 = .v (.int .i64 0) := by kernel_rfl
@[go_sem] theorem ty.c3 : Try.prog.cellsOf 3 = 1 := by kernel_rfl
@[go_sem] theorem ty.i3 : (Try.prog.info? 3).isSome = true := by kernel_rfl
@[go_sem] theorem ty.k4 : tk Try.prog 4 = .one := by kernel_rfl
@[go_sem] theorem ty.z4 : zD Try.prog 4 = .v (.bool false) := by kernel_rfl
@[go_sem] theorem ty.c4 : Try.prog.cellsOf 4 = 1 := by kernel_rfl
@[go_sem] theorem ty.i4 : (Try.prog.info? 4).isSome = true := by kernel_rfl
@[go_sem] theorem ty.k5 : tk Try.prog 5 = .int .u8 := by kernel_rfl
@[go_sem] theorem ty.z5 : zD Try.prog 5 = .v (.int .u8 0) := by kernel_rfl
@[go_sem] theorem ty.c5 : Try.prog.cellsOf 5 = 1 := by kernel_rfl
@[go_sem] theorem ty.i5 : (Try.prog.info? 5).isSome = true := by kernel_rfl
@[go_sem] theorem ty.k6 : tk Try.prog 6 = .int .u8 := by kernel_rfl
@[go_sem] theorem ty.z6 : zD Try.prog 6 = .v (.int .u8 0) := by kernel_rfl
@[go_sem] theorem ty.c6 : Try.prog.cellsOf 6 = 1 := by kernel_rfl
@[go_sem] theorem ty.i6 : (Try.prog.info? 6).isSome = true := by kernel_rfl
@[go_sem] theorem ty.k7 : tk Try.prog 7 = .st [(0, 1, false), (1, 1, false), (2, 1, false), (3, 1, false)] 4 := by kernel_rfl
@[go_sem] theorem ty.z7 : zD Try.prog 7 = .agg [.v (.int .i64 0), .v (.int .i64 0), .v (.bool false), .v (.int .u8 0)] := by kernel_rfl
@[go_sem] theorem ty.c7 : Try.prog.cellsOf 7 = 4 := by kernel_rfl
@[go_sem] theorem ty.i7 : (Try.prog.info? 7).isSome = true := by kernel_rfl
@[go_sem] theorem ty.k8 : tk Try.prog 8 = .st [(0, 1, false), (1, 1, false), (2, 1, false), (3, 1, false)] 4 := by kernel_rfl
@[go_sem] theorem ty.z8 : zD Try.prog 8 = .agg [.v (.int .i64 0), .v (.int .i64 0), .v (.bool false), .v (.int .u8 0)] := by kernel_rfl
@[go_sem] theorem ty.c8 : Try.prog.cellsOf 8 = 4 := by kernel_rfl
@[go_sem] theorem ty.i8 : (Try.prog.info? 8).isSome = true := by kernel_rfl
@[go_sem] theorem ty.k9 : tk Try.prog 9 = .str := by kernel_rfl
@[go_sem] theorem ty.z9 : zD Try.prog 9 = .v (.string ByteArray.empty) := by kernel_rfl
@[go_sem] theorem ty.c9 : Try.prog.cellsOf 9 = 1 := by kernel_rfl
@[go_sem] theorem ty.i9 : (Try.prog.info? 9).isSome = true := by kernel_rfl
@[go_sem] theorem ty.k10 : tk Try.prog 10 = .str := by kernel_rfl
@[go_sem] theorem ty.z10 : zD Try.prog 10 = .v (.string ByteArray.empty) := by kernel_rfl
@[go_sem] theorem ty.c10 : Try.prog.cellsOf 10 = 1 := by kernel_rfl
@[go_sem] theorem ty.i10 : (Try.prog.info? 10).isSome = true := by kernel_rfl
@[go_sem] theorem ty.k11 : tk Try.prog 11 = .str := by kernel_rfl
@[go_sem] theorem ty.z11 : zD Try.prog 11 = .v (.string ByteArray.empty) := by kernel_rfl
@[go_sem] theorem ty.c11 : Try.prog.cellsOf 11 = 1 := by kernel_rfl
@[go_sem] theorem ty.i11 : (Try.prog.info? 11).isSome = true := by kernel_rfl
@[go_sem] theorem ty.k12 : tk Try.prog 12 = .int .u64 := by kernel_rfl
@[go_sem] theorem ty.z12 : zD Try.prog 12 = .v (.int .u64 0) := by kernel_rfl
@[go_sem] theorem ty.c12 : Try.prog.cellsOf 12 = 1 := by kernel_rfl
@[go_sem] theorem ty.i12 : (Try.prog.info? 12).isSome = true := by kernel_rfl
@[go_sem] theorem ty.k13 : tk Try.prog 13 = .st [(0, 1, false), (1, 1, false)] 2 := by kernel_rfl
@[go_sem] theorem ty.z13 : zD Try.prog 13 = .agg [.v (.string ByteArray.empty), .v (.int .u64 0)] := by kernel_rfl
@[go_sem] theorem ty.c13 : Try.prog.cellsOf 13 = 2 := by kernel_rfl
@[go_sem] theorem ty.i13 : (Try.prog.info? 13).isSome = true := by kernel_rfl
@[go_sem] theorem ty.k14 : tk Try.prog 14 = .st [(0, 1, false), (1, 1, false)] 2 := by kernel_rfl
@[go_sem] theorem ty.z14 : zD Try.prog 14 = .agg [.v (.string ByteArray.empty), .v (.int .u64 0)] := by kernel_rfl
@[go_sem] theorem ty.c14 : Try.prog.cellsOf 14 = 2 := by kernel_rfl
@[go_sem] theorem ty.i14 : (Try.prog.info? 14).isSome = true := by kernel_rfl
@[go_sem] theorem ty.k15 : tk Try.prog 15 = .ptr 191 := by kernel_rfl
@[go_sem] theorem ty.z15 : zD Try.prog 15 = .v (.pointer none) := by kernel_rfl
@[go_sem] theorem ty.c15 : Try.prog.cellsOf 15 = 1 := by kernel_rfl
@[go_sem] theorem ty.i15 : (Try.prog.info? 15).isSome = true := by kernel_rfl
@[go_sem] theorem ty.k16 : tk Try.prog 16 = .ptr 194 := by kernel_rfl
@[go_sem] theorem ty.z16 : zD Try.prog 16 = .v (.pointer none) := by kernel_rfl
@[go_sem] theorem ty.c16 : Try.prog.cellsOf 16 = 1 := by kernel_rfl
@[go_sem] theorem ty.i16 : (Try.prog.info? 16).isSome = true := by kernel_rfl
@[go_sem] theorem ty.k17 : tk Try.prog 17 = .ptr 203 := by kernel_rfl
@[go_sem] theorem ty.z17 : zD Try.prog 17 = .v (.pointer none) := by kernel_rfl
@[go_sem] theorem ty.c17 : Try.prog.cellsOf 17 = 1 := by kernel_rfl
@[go_sem] theorem ty.i17 : (Try.prog.info? 17).isSome = true := by kernel_rfl
@[go_sem] theorem ty.k18 : tk Try.prog 18 = .st [(0, 1, false)] 1 := by kernel_rfl
@[go_sem] theorem ty.z18 : zD Try.prog 18 = .agg [.v (.pointer none)] := by kernel_rfl
@[go_sem] theorem ty.c18 : Try.prog.cellsOf 18 = 1 := by kernel_rfl
@[go_sem] theorem ty.i18 : (Try.prog.info? 18).isSome = true := by kernel_rfl
@[go_sem] theorem ty.k19 : tk Try.prog 19 = .st [(0, 1, false)] 1 := by kernel_rfl
@[go_sem] theorem ty.z19 : zD Try.prog 19 = .agg [.v (.pointer none)] := by kernel_rfl
@[go_sem] theorem ty.c19 : Try.prog.cellsOf 19 = 1 := by kernel_rfl
@[go_sem] theorem ty.i19 : (Try.prog.info? 19).isSome = true := by kernel_rfl
@[go_sem] theorem ty.k20 : tk Try.prog 20 = .ifc [] := by kernel_rfl
@[go_sem] theorem ty.z20 : zD Try.prog 20 = .v .nilIface := by kernel_rfl
@[go_sem] theorem ty.c20 : Try.prog.cellsOf 20 = 1 := by kernel_rfl
@[go_sem] theorem ty.i20 : (Try.prog.info? 20).isSome = true := by kernel_rfl
@[go_sem] theorem ty.k21 : tk Try.prog 21 = .int .i32 := by kernel_rfl
@[go_sem] theorem ty.z21 : zD Try.prog 21 = .v (.int .i32 0) := by kernel_rfl
@[go_sem] theorem ty.c21 : Try.prog.cellsOf 21 = 1 := by kernel_rfl
@[go_sem] theorem ty.i21 : (Try.prog.info? 21).isSome = true := by kernel_rfl
@[go_sem] theorem ty.k22 : tk Try.prog 22 = .sl 29 2 16 true := by kernel_rfl
@[go_sem] theorem ty.e22 : elT Try.prog 22 = 29 := by kernel_rfl
@[go_sem] theorem ty.z22 : zD Try.prog 22 = .sl 0 true [] := by kernel_rfl
@[go_sem] theorem ty.c22 : Try.prog.cellsOf 22 = 1 := by kernel_rfl
@[go_sem] theorem ty.i22 : (Try.prog.info? 22).isSome = true := by kernel_rfl
@[go_sem] theorem ty.k24 : tk Try.prog 24 = .ptr 108 := by kernel_rfl
@[go_sem] theorem ty.z24 : zD Try.prog 24 = .v (.pointer none) := by kernel_rfl
@[go_sem] theorem ty.c24 : Try.prog.cellsOf 24 = 1 := by kernel_rfl
@[go_sem] theorem ty.i24 : (Try.prog.info? 24).isSome = true := by kernel_rfl
@[go_sem] theorem ty.k26 : tk Try.prog 26 = .sl 27 1 8 true := by kernel_rfl
@[go_sem] theorem ty.e26 : elT Try.prog 26 = 27 := by kernel_rfl
@[go_sem] theorem ty.z26 : zD Try.prog 26 = .sl 0 true [] := by kernel_rfl
@[go_sem] theorem ty.c26 : Try.prog.cellsOf 26 = 1 := by kernel_rfl
@[go_sem] theorem ty.i26 : (Try.prog.info? 26).isSome = true := by kernel_rfl
@[go_sem] theorem ty.k27 : tk Try.prog 27 = .int .u64 := by kernel_rfl
@[go_sem] theorem ty.z27 : zD Try.prog 27 = .v (.int .u64 0) := by kernel_rfl
@[go_sem] theorem ty.c27 : Try.prog.cellsOf 27 = 1 := by kernel_rfl
@[go_sem] theorem ty.i27 : (Try.prog.info? 27).isSome = true := by kernel_rfl
@[go_sem] theorem ty.k28 : tk Try.prog 28 = .st [(0, 1, false), (1, 1, false)] 2 := by kernel_rfl
@[go_sem] theorem ty.z28 : zD Try.prog 28 = .agg [.v (.int .i64 0), .v (.int .u64 0)] := by kernel_rfl
@[go_sem] theorem ty.c28 : Try.prog.cellsOf 28 = 2 := by kernel_rfl
@[go_sem] theorem ty.i28 : (Try.prog.info? 28).isSome = true := by kernel_rfl
@[go_sem] theorem ty.k29 : tk Try.prog 29 = .st [(0, 1, false), (1, 1, false)] 2 := by kernel_rfl
@[go_sem] theorem ty.z29 : zD Try.prog 29 = .agg [.v (.int .i64 0), .v (.int .u64 0)] := by kernel_rfl
@[go_sem] theorem ty.c29 : Try.prog.cellsOf 29 = 2 := by kernel_rfl
@[go_sem] theorem ty.i29 : (Try.prog.info? 29).isSome = true := by kernel_rfl
@[go_sem] theorem ty.k44 : tk Try.prog 44 = .sl 115 3 32 true := by kernel_rfl
@[go_sem] theorem ty.e44 : elT Try.prog 44 = 115 := by kernel_rfl
@[go_sem] theorem ty.z44 : zD Try.prog 44 = .sl 0 true [] := by kernel_rfl
@[go_sem] theorem ty.c44 : Try.prog.cellsOf 44 = 1 := by kernel_rfl
@[go_sem] theorem ty.i44 : (Try.prog.info? 44).isSome = true := by kernel_rfl
@[go_sem] theorem ty.k45 : tk Try.prog 45 = .sl 72 4 80 true := by kernel_rfl
@[go_sem] theorem ty.e45 : elT Try.prog 45 = 72 := by kernel_rfl
@[go_sem] theorem ty.z45 : zD Try.prog 45 = .sl 0 true [] := by kernel_rfl
@[go_sem] theorem ty.c45 : Try.prog.cellsOf 45 = 1 := by kernel_rfl
@[go_sem] theorem ty.i45 : (Try.prog.info? 45).isSome = true := by kernel_rfl
@[go_sem] theorem ty.k46 : tk Try.prog 46 = .st [(0, 1, false), (1, 1, false), (2, 1, false)] 3 := by kernel_rfl
@[go_sem] theorem ty.z46 : zD Try.prog 46 = .agg [.v (.int .i64 0), .v (.bool false), .sl 0 true []] := by kernel_rfl
@[go_sem] theorem ty.c46 : Try.prog.cellsOf 46 = 3 := by kernel_rfl
@[go_sem] theorem ty.i46 : (Try.prog.info? 46).isSome = true := by kernel_rfl
@[go_sem] theorem ty.k47 : tk Try.prog 47 = .st [(0, 1, false), (1, 1, false), (2, 1, false)] 3 := by kernel_rfl
@[go_sem] theorem ty.z47 : zD Try.prog 47 = .agg [.v (.int .i64 0), .v (.bool false), .sl 0 true []] := by kernel_rfl
@[go_sem] theorem ty.c47 : Try.prog.cellsOf 47 = 3 := by kernel_rfl
@[go_sem] theorem ty.i47 : (Try.prog.info? 47).isSome = true := by kernel_rfl
@[go_sem] theorem ty.k50 : tk Try.prog 50 = .sl 9 1 16 true := by kernel_rfl
@[go_sem] theorem ty.e50 : elT Try.prog 50 = 9 := by kernel_rfl
@[go_sem] theorem ty.z50 : zD Try.prog 50 = .sl 0 true [] := by kernel_rfl
@[go_sem] theorem ty.c50 : Try.prog.cellsOf 50 = 1 := by kernel_rfl
@[go_sem] theorem ty.i50 : (Try.prog.info? 50).isSome = true := by kernel_rfl
@[go_sem] theorem ty.k51 : tk Try.prog 51 = .sl 118 2 40 true := by kernel_rfl
@[go_sem] theorem ty.e51 : elT Try.prog 51 = 118 := by kernel_rfl
@[go_sem] theorem ty.z51 : zD Try.prog 51 = .sl 0 true [] := by kernel_rfl
@[go_sem] theorem ty.c51 : Try.prog.cellsOf 51 = 1 := by kernel_rfl
@[go_sem] theorem ty.i51 : (Try.prog.info? 51).isSome = true := by kernel_rfl
@[go_sem] theorem ty.k52 : tk Try.prog 52 = .sl 54 5 88 true := by kernel_rfl
@[go_sem] theorem ty.e52 : elT Try.prog 52 = 54 := by kernel_rfl
@[go_sem] theorem ty.z52 : zD Try.prog 52 = .sl 0 true [] := by kernel_rfl
@[go_sem] theorem ty.c52 : Try.prog.cellsOf 52 = 1 := by kernel_rfl
@[go_sem] theorem ty.i52 : (Try.prog.info? 52).isSome = true := by kernel_rfl
@[go_sem] theorem ty.k53 : tk Try.prog 53 = .st [(0, 1, false), (1, 1, false), (2, 1, false), (3, 1, false), (4, 1, false)] 5 := by kernel_rfl
@[go_sem] theorem ty.z53 : zD Try.prog 53 = .agg [.v (.int .i64 0), .v (.bool false), .sl 0 true [], .sl 0 true [], .sl 0 true []] := by kernel_rfl
@[go_sem] theorem ty.c53 : Try.prog.cellsOf 53 = 5 := by kernel_rfl
@[go_sem] theorem ty.i53 : (Try.prog.info? 53).isSome = true := by kernel_rfl
@[go_sem] theorem ty.k54 : tk Try.prog 54 = .st [(0, 1, false), (1, 1, false), (2, 1, false), (3, 1, false), (4, 1, false)] 5 := by kernel_rfl
@[go_sem] theorem ty.z54 : zD Try.prog 54 = .agg [.v (.int .i64 0), .v (.bool false), .sl 0 true [], .sl 0 true [], .sl 0 true []] := by kernel_rfl
@[go_sem] theorem ty.c54 : Try.prog.cellsOf 54 = 5 := by kernel_rfl
@[go_sem] theorem ty.i54 : (Try.prog.info? 54).isSome = true := by kernel_rfl
@[go_sem] theorem ty.k59 : tk Try.prog 59 = .sl 3 1 8 true := by kernel_rfl
@[go_sem] theorem ty.e59 : elT Try.prog 59 = 3 := by kernel_rfl
@[go_sem] theorem ty.z59 : zD Try.prog 59 = .sl 0 true [] := by kernel_rfl
@[go_sem] theorem ty.c59 : Try.prog.cellsOf 59 = 1 := by kernel_rfl
@[go_sem] theorem ty.i59 : (Try.prog.info? 59).isSome = true := by kernel_rfl
@[go_sem] theorem ty.k68 : tk Try.prog 68 = .st [(0, 1, false), (1, 1, false)] 2 := by kernel_rfl
@[go_sem] theorem ty.z68 : zD Try.prog 68 = .agg [.v (.string ByteArray.empty), .sl 0 true []] := by kernel_rfl
@[go_sem] theorem ty.c68 : Try.prog.cellsOf 68 = 2 := by kernel_rfl
@[go_sem] theorem ty.i68 : (Try.prog.info? 68).isSome = true := by kernel_rfl
@[go_sem] theorem ty.k69 : tk Try.prog 69 = .st [(0, 1, false), (1, 1, false)] 2 := by kernel_rfl
@[go_sem] theorem ty.z69 : zD Try.prog 69 = .agg [.v (.string ByteArray.empty), .sl 0 true []] := by kernel_rfl
@[go_sem] theorem ty.c69 : Try.prog.cellsOf 69 = 2 := by kernel_rfl
@[go_sem] theorem ty.i69 : (Try.prog.info? 69).isSome = true := by kernel_rfl
@[go_sem] theorem ty.k70 : tk Try.prog 70 = .sl 47 3 40 true := by kernel_rfl
@[go_sem] theorem ty.e70 : elT Try.prog 70 = 47 := by kernel_rfl
@[go_sem] theorem ty.z70 : zD Try.prog 70 = .sl 0 true [] := by kernel_rfl
@[go_sem] theorem ty.c70 : Try.prog.cellsOf 70 = 1 := by kernel_rfl
@[go_sem] theorem ty.i70 : (Try.prog.info? 70).isSome = true := by kernel_rfl
@[go_sem] theorem ty.k71 : tk Try.prog 71 = .st [(0, 1, false), (1, 2, true), (3, 1, false)] 4 := by kernel_rfl
@[go_sem] theorem ty.z71 : zD Try.prog 71 = .agg [.v (.string ByteArray.empty), .v (.string ByteArray.empty), .sl 0 true [], .sl 0 true []] := by kernel_rfl
@[go_sem] theorem ty.c71 : Try.prog.cellsOf 71 = 4 := by kernel_rfl
@[go_sem] theorem ty.i71 : (Try.prog.info? 71).isSome = true := by kernel_rfl
@[go_sem] theorem ty.k72 : tk Try.prog 72 = .st [(0, 1, false), (1, 2, true), (3, 1, false)] 4 := by kernel_rfl
@[go_sem] theorem ty.z72 : zD Try.prog 72 = .agg [.v (.string ByteArray.empty), .v (.string ByteArray.empty), .sl 0 true [], .sl 0 true []] := by kernel_rfl
@[go_sem] theorem ty.c72 : Try.prog.cellsOf 72 = 4 := by kernel_rfl
@[go_sem] theorem ty.i72 : (Try.prog.info? 72).isSome = true := by kernel_rfl
@[go_sem] theorem ty.k73 : tk Try.prog 73 = .sl 5 1 1 true := by kernel_rfl
@[go_sem] theorem ty.e73 : elT Try.prog 73 = 5 := by kernel_rfl
@[go_sem] theorem ty.z73 : zD Try.prog 73 = .sl 0 true [] := by kernel_rfl
@[go_sem] theorem ty.c73 : Try.prog.cellsOf 73 = 1 := by kernel_rfl
@[go_sem] theorem ty.i73 : (Try.prog.info? 73).isSome = true := by kernel_rfl
@[go_sem] theorem ty.k77 : tk Try.prog 77 = .sl 133 2 32 true := by kernel_rfl
@[go_sem] theorem ty.e77 : elT Try.prog 77 = 133 := by kernel_rfl
@[go_sem] theorem ty.z77 : zD Try.prog 77 = .sl 0 true [] := by kernel_rfl
@[go_sem] theorem ty.c77 : Try.prog.cellsOf 77 = 1 := by kernel_rfl
@[go_sem] theorem ty.i77 : (Try.prog.info? 77).isSome = true := by kernel_rfl
@[go_sem] theorem ty.k78 : tk Try.prog 78 = .st [(0, 1, false), (1, 1, false), (2, 1, false)] 3 := by kernel_rfl
@[go_sem] theorem ty.z78 : zD Try.prog 78 = .agg [.v (.int .i64 0), .sl 0 true [], .sl 0 true []] := by kernel_rfl
@[go_sem] theorem ty.c78 : Try.prog.cellsOf 78 = 3 := by kernel_rfl
@[go_sem] theorem ty.i78 : (Try.prog.info? 78).isSome = true := by kernel_rfl
@[go_sem] theorem ty.k79 : tk Try.prog 79 = .st [(0, 1, false), (1, 1, false), (2, 1, false)] 3 := by kernel_rfl
@[go_sem] theorem ty.z79 : zD Try.prog 79 = .agg [.v (.int .i64 0), .sl 0 true [], .sl 0 true []] := by kernel_rfl
@[go_sem] theorem ty.c79 : Try.prog.cellsOf 79 = 3 := by kernel_rfl
@[go_sem] theorem ty.i79 : (Try.prog.info? 79).isSome = true := by kernel_rfl
@[go_sem] theorem ty.k81 : tk Try.prog 81 = .sl 134 2 32 true := by kernel_rfl
@[go_sem] theorem ty.e81 : elT Try.prog 81 = 134 := by kernel_rfl
@[go_sem] theorem ty.z81 : zD Try.prog 81 = .sl 0 true [] := by kernel_rfl
@[go_sem] theorem ty.c81 : Try.prog.cellsOf 81 = 1 := by kernel_rfl
@[go_sem] theorem ty.i81 : (Try.prog.info? 81).isSome = true := by kernel_rfl
@[go_sem] theorem ty.k82 : tk Try.prog 82 = .st [(0, 1, false), (1, 1, false), (2, 1, false)] 3 := by kernel_rfl
@[go_sem] theorem ty.z82 : zD Try.prog 82 = .agg [.v (.int .i64 0), .sl 0 true [], .sl 0 true []] := by kernel_rfl
@[go_sem] theorem ty.c82 : Try.prog.cellsOf 82 = 3 := by kernel_rfl
@[go_sem] theorem ty.i82 : (Try.prog.info? 82).isSome = true := by kernel_rfl
@[go_sem] theorem ty.k83 : tk Try.prog 83 = .st [(0, 1, false), (1, 1, false), (2, 1, false)] 3 := by kernel_rfl
@[go_sem] theorem ty.z83 : zD Try.prog 83 = .agg [.v (.int .i64 0), .sl 0 true [], .sl 0 true []] := by kernel_rfl
@[go_sem] theorem ty.c83 : Try.prog.cellsOf 83 = 3 := by kernel_rfl
@[go_sem] theorem ty.i83 : (Try.prog.info? 83).isSome = true := by kernel_rfl
@[go_sem] theorem ty.k93 : tk Try.prog 93 = .sl 96 3 24 true := by kernel_rfl
@[go_sem] theorem ty.e93 : elT Try.prog 93 = 96 := by kernel_rfl
@[go_sem] theorem ty.z93 : zD Try.prog 93 = .sl 0 true [] := by kernel_rfl
@[go_sem] theorem ty.c93 : Try.prog.cellsOf 93 = 1 := by kernel_rfl
@[go_sem] theorem ty.i93 : (Try.prog.info? 93).isSome = true := by kernel_rfl
@[go_sem] theorem ty.k94 : tk Try.prog 94 = .sl 4 1 1 true := by kernel_rfl
@[go_sem] theorem ty.e94 : elT Try.prog 94 = 4 := by kernel_rfl
@[go_sem] theorem ty.z94 : zD Try.prog 94 = .sl 0 true [] := by kernel_rfl
@[go_sem] theorem ty.c94 : Try.prog.cellsOf 94 = 1 := by kernel_rfl
@[go_sem] theorem ty.i94 : (Try.prog.info? 94).isSome = true := by kernel_rfl
@[go_sem] theorem ty.k95 : tk Try.prog 95 = .st [(0, 1, false), (1, 1, false), (2, 1, false)] 3 := by kernel_rfl
@[go_sem] theorem ty.z95 : zD Try.prog 95 = .agg [.v (.int .i64 0), .v (.int .i64 0), .v (.int .u64 0)] := by kernel_rfl
@[go_sem] theorem ty.c95 : Try.prog.cellsOf 95 = 3 := by kernel_rfl
@[go_sem] theorem ty.i95 : (Try.prog.info? 95).isSome = true := by kernel_rfl
@[go_sem] theorem ty.k96 : tk Try.prog 96 = .st [(0, 1, false), (1, 1, false), (2, 1, false)] 3 := by kernel_rfl
@[go_sem] theorem ty.z96 : zD Try.prog 96 = .agg [.v (.int .i64 0), .v (.int .i64 0), .v (.int .u64 0)] := by kernel_rfl
@[go_sem] theorem ty.c96 : Try.prog.cellsOf 96 = 3 := by kernel_rfl
@[go_sem] theorem ty.i96 : (Try.prog.info? 96).isSome = true := by kernel_rfl
@[go_sem] theorem ty.k102 : tk Try.prog 102 = .int .u16 := by kernel_rfl
@[go_sem] theorem ty.z102 : zD Try.prog 102 = .v (.int .u16 0) := by kernel_rfl
@[go_sem] theorem ty.c102 : Try.prog.cellsOf 102 = 1 := by kernel_rfl
@[go_sem] theorem ty.i102 : (Try.prog.info? 102).isSome = true := by kernel_rfl
@[go_sem] theorem ty.k106 : tk Try.prog 106 = .map 27 3 := by kernel_rfl
@[go_sem] theorem ty.z106 : zD Try.prog 106 = .v (.map none) := by kernel_rfl
@[go_sem] theorem ty.c106 : Try.prog.cellsOf 106 = 1 := by kernel_rfl
@[go_sem] theorem ty.i106 : (Try.prog.info? 106).isSome = true := by kernel_rfl
@[go_sem] theorem ty.k107 : tk Try.prog 107 = .st [(0, 1, false)] 1 := by kernel_rfl
@[go_sem] theorem ty.z107 : zD Try.prog 107 = .agg [.v (.map none)] := by kernel_rfl
@[go_sem] theorem ty.c107 : Try.prog.cellsOf 107 = 1 := by kernel_rfl
@[go_sem] theorem ty.i107 : (Try.prog.info? 107).isSome = true := by kernel_rfl
@[go_sem] theorem ty.k108 : tk Try.prog 108 = .st [(0, 1, false)] 1 := by kernel_rfl
@[go_sem] theorem ty.z108 : zD Try.prog 108 = .agg [.v (.map none)] := by kernel_rfl
@[go_sem] theorem ty.c108 : Try.prog.cellsOf 108 = 1 := by kernel_rfl
@[go_sem] theorem ty.i108 : (Try.prog.info? 108).isSome = true := by kernel_rfl
@[go_sem] theorem ty.k114 : tk Try.prog 114 = .st [(0, 1, false), (1, 1, false), (2, 1, false)] 3 := by kernel_rfl
@[go_sem] theorem ty.z114 : zD Try.prog 114 = .agg [.v (.string ByteArray.empty), .v (.int .i64 0), .v (.bool false)] := by kernel_rfl
@[go_sem] theorem ty.c114 : Try.prog.cellsOf 114 = 3 := by kernel_rfl
@[go_sem] theorem ty.i114 : (Try.prog.info? 114).isSome = true := by kernel_rfl
@[go_sem] theorem ty.k115 : tk Try.prog 115 = .st [(0, 1, false), (1, 1, false), (2, 1, false)] 3 := by kernel_rfl
@[go_sem] theorem ty.z115 : zD Try.prog 115 = .agg [.v (.string ByteArray.empty), .v (.int .i64 0), .v (.bool false)] := by kernel_rfl
@[go_sem] theorem ty.c115 : Try.prog.cellsOf 115 = 3 := by kernel_rfl
@[go_sem] theorem ty.i115 : (Try.prog.info? 115).isSome = true := by kernel_rfl
@[go_sem] theorem ty.k118 : tk Try.prog 118 = .st [(0, 1, false), (1, 1, false)] 2 := by kernel_rfl
@[go_sem] theorem ty.z118 : zD Try.prog 118 = .agg [.v (.string ByteArray.empty), .sl 0 true []] := by kernel_rfl
@[go_sem] theorem ty.c118 : Try.prog.cellsOf 118 = 2 := by kernel_rfl
@[go_sem] theorem ty.i118 : (Try.prog.info? 118).isSome = true := by kernel_rfl
@[go_sem] theorem ty.k132 : tk Try.prog 132 = .st [(0, 1, false), (1, 1, false)] 2 := by kernel_rfl
@[go_sem] theorem ty.z132 : zD Try.prog 132 = .agg [.v (.int .u64 0), .sl 0 true []] := by kernel_rfl
@[go_sem] theorem ty.c132 : Try.prog.cellsOf 132 = 2 := by kernel_rfl
@[go_sem] theorem ty.i132 : (Try.prog.info? 132).isSome = true := by kernel_rfl
@[go_sem] theorem ty.k133 : tk Try.prog 133 = .st [(0, 1, false), (1, 1, false)] 2 := by kernel_rfl
@[go_sem] theorem ty.z133 : zD Try.prog 133 = .agg [.v (.int .u64 0), .sl 0 true []] := by kernel_rfl
@[go_sem] theorem ty.c133 : Try.prog.cellsOf 133 = 2 := by kernel_rfl
@[go_sem] theorem ty.i133 : (Try.prog.info? 133).isSome = true := by kernel_rfl
@[go_sem] theorem ty.k134 : tk Try.prog 134 = .st [(0, 1, false), (1, 1, false)] 2 := by kernel_rfl
@[go_sem] theorem ty.z134 : zD Try.prog 134 = .agg [.v (.int .u64 0), .sl 0 true []] := by kernel_rfl
@[go_sem] theorem ty.c134 : Try.prog.cellsOf 134 = 2 := by kernel_rfl
@[go_sem] theorem ty.i134 : (Try.prog.info? 134).isSome = true := by kernel_rfl
@[go_sem] theorem ty.k138 : tk Try.prog 138 = .sl 59 1 24 true := by kernel_rfl
@[go_sem] theorem ty.e138 : elT Try.prog 138 = 59 := by kernel_rfl
@[go_sem] theorem ty.z138 : zD Try.prog 138 = .sl 0 true [] := by kernel_rfl
@[go_sem] theorem ty.c138 : Try.prog.cellsOf 138 = 1 := by kernel_rfl
@[go_sem] theorem ty.i138 : (Try.prog.info? 138).isSome = true := by kernel_rfl
@[go_sem] theorem ty.k147 : tk Try.prog 147 = .int .u64 := by kernel_rfl
@[go_sem] theorem ty.z147 : zD Try.prog 147 = .v (.int .u64 0) := by kernel_rfl
@[go_sem] theorem ty.c147 : Try.prog.cellsOf 147 = 1 := by kernel_rfl
@[go_sem] theorem ty.i147 : (Try.prog.info? 147).isSome = true := by kernel_rfl
@[go_sem] theorem ty.k158 : tk Try.prog 158 = .int .i64 := by kernel_rfl
@[go_sem] theorem ty.z158 : zD Try.prog 158 = .v (.int .i64 0) := by kernel_rfl
@[go_sem] theorem ty.c158 : Try.prog.cellsOf 158 = 1 := by kernel_rfl
@[go_sem] theorem ty.i158 : (Try.prog.info? 158).isSome = true := by kernel_rfl
@[go_sem] theorem ty.k165 : tk Try.prog 165 = .int .u32 := by kernel_rfl
@[go_sem] theorem ty.z165 : zD Try.prog 165 = .v (.int .u32 0) := by kernel_rfl
@[go_sem] theorem ty.c165 : Try.prog.cellsOf 165 = 1 := by kernel_rfl
@[go_sem] theorem ty.i165 : (Try.prog.info? 165).isSome = true := by kernel_rfl
@[go_sem] theorem ty.k177 : tk Try.prog 177 = .int .u64 := by kernel_rfl
@[go_sem] theorem ty.z177 : zD Try.prog 177 = .v (.int .u64 0) := by kernel_rfl
@[go_sem] theorem ty.c177 : Try.prog.cellsOf 177 = 1 := by kernel_rfl
@[go_sem] theorem ty.i177 : (Try.prog.info? 177).isSome = true := by kernel_rfl
@[go_sem] theorem ty.k181 : tk Try.prog 181 = .ptr 3 := by kernel_rfl
@[go_sem] theorem ty.z181 : zD Try.prog 181 = .v (.pointer none) := by kernel_rfl
@[go_sem] theorem ty.c181 : Try.prog.cellsOf 181 = 1 := by kernel_rfl
@[go_sem] theorem ty.i181 : (Try.prog.info? 181).isSome = true := by kernel_rfl
@[go_sem] theorem ty.k185 : tk Try.prog 185 = .ptr 177 := by kernel_rfl
@[go_sem] theorem ty.z185 : zD Try.prog 185 = .v (.pointer none) := by kernel_rfl
@[go_sem] theorem ty.c185 : Try.prog.cellsOf 185 = 1 := by kernel_rfl
@[go_sem] theorem ty.i185 : (Try.prog.info? 185).isSome = true := by kernel_rfl
@[go_sem] theorem ty.k190 : tk Try.prog 190 = .st [(0, 1, false), (1, 1, false), (2, 1, false), (3, 1, false)] 4 := by kernel_rfl
@[go_sem] theorem ty.z190 : zD Try.prog 190 = .agg [.v (.pointer none), .v (.pointer none), .v (.pointer none), .v (.string ByteArray.empty)] := by kernel_rfl
@[go_sem] theorem ty.c190 : Try.prog.cellsOf 190 = 4 := by kernel_rfl
@[go_sem] theorem ty.i190 : (Try.prog.info? 190).isSome = true := by kernel_rfl
@[go_sem] theorem ty.k191 : tk Try.prog 191 = .st [(0, 1, false), (1, 1, false), (2, 1, false), (3, 1, false)] 4 := by kernel_rfl
@[go_sem] theorem ty.z191 : zD Try.prog 191 = .agg [.v (.pointer none), .v (.pointer none), .v (.pointer none), .v (.string ByteArray.empty)] := by kernel_rfl
@[go_sem] theorem ty.c191 : Try.prog.cellsOf 191 = 4 := by kernel_rfl
@[go_sem] theorem ty.i191 : (Try.prog.info? 191).isSome = true := by kernel_rfl
@[go_sem] theorem ty.k192 : tk Try.prog 192 = .ar 0 16 1 false 0 := by kernel_rfl
@[go_sem] theorem ty.z192 : zD Try.prog 192 = .agg [] := by kernel_rfl
@[go_sem] theorem ty.c192 : Try.prog.cellsOf 192 = 0 := by kernel_rfl
@[go_sem] theorem ty.i192 : (Try.prog.info? 192).isSome = true := by kernel_rfl
@[go_sem] theorem ty.k193 : tk Try.prog 193 = .st [(0, 0, true)] 0 := by kernel_rfl
@[go_sem] theorem ty.z193 : zD Try.prog 193 = .agg [] := by kernel_rfl
@[go_sem] theorem ty.c193 : Try.prog.cellsOf 193 = 0 := by kernel_rfl
@[go_sem] theorem ty.i193 : (Try.prog.info? 193).isSome = true := by kernel_rfl
@[go_sem] theorem ty.k194 : tk Try.prog 194 = .st [(0, 0, true)] 0 := by kernel_rfl
@[go_sem] theorem ty.z194 : zD Try.prog 194 = .agg [] := by kernel_rfl
@[go_sem] theorem ty.c194 : Try.prog.cellsOf 194 = 0 := by kernel_rfl
@[go_sem] theorem ty.i194 : (Try.prog.info? 194).isSome = true := by kernel_rfl
@[go_sem] theorem ty.k196 : tk Try.prog 196 = .int .u8 := by kernel_rfl
@[go_sem] theorem ty.z196 : zD Try.prog 196 = .v (.int .u8 0) := by kernel_rfl
@[go_sem] theorem ty.c196 : Try.prog.cellsOf 196 = 1 := by kernel_rfl
@[go_sem] theorem ty.i196 : (Try.prog.info? 196).isSome = true := by kernel_rfl
@[go_sem] theorem ty.k197 : tk Try.prog 197 = .int .u8 := by kernel_rfl
@[go_sem] theorem ty.z197 : zD Try.prog 197 = .v (.int .u8 0) := by kernel_rfl
@[go_sem] theorem ty.c197 : Try.prog.cellsOf 197 = 1 := by kernel_rfl
@[go_sem] theorem ty.i197 : (Try.prog.info? 197).isSome = true := by kernel_rfl
@[go_sem] theorem ty.k199 : tk Try.prog 199 = .ptr 5 := by kernel_rfl
@[go_sem] theorem ty.z199 : zD Try.prog 199 = .v (.pointer none) := by kernel_rfl
@[go_sem] theorem ty.c199 : Try.prog.cellsOf 199 = 1 := by kernel_rfl
@[go_sem] theorem ty.i199 : (Try.prog.info? 199).isSome = true := by kernel_rfl
@[go_sem] theorem ty.k200 : tk Try.prog 200 = .int .i32 := by kernel_rfl
@[go_sem] theorem ty.z200 : zD Try.prog 200 = .v (.int .i32 0) := by kernel_rfl
@[go_sem] theorem ty.c200 : Try.prog.cellsOf 200 = 1 := by kernel_rfl
@[go_sem] theorem ty.i200 : (Try.prog.info? 200).isSome = true := by kernel_rfl
@[go_sem] theorem ty.k201 : tk Try.prog 201 = .int .i32 := by kernel_rfl
@[go_sem] theorem ty.z201 : zD Try.prog 201 = .v (.int .i32 0) := by kernel_rfl
@[go_sem] theorem ty.c201 : Try.prog.cellsOf 201 = 1 := by kernel_rfl
@[go_sem] theorem ty.i201 : (Try.prog.info? 201).isSome = true := by kernel_rfl
@[go_sem] theorem ty.k202 : tk Try.prog 202 = .st [(0, 1, false), (1, 1, false), (2, 1, false), (3, 1, false), (4, 1, false), (5, 1, false), (6, 1, false), (7, 1, false), (8, 1, false), (9, 1, false), (10, 1, false)] 11 := by kernel_rfl
@[go_sem] theorem ty.z202 : zD Try.prog 202 = .agg [.v (.int .u64 0), .v (.int .u64 0), .v (.int .u32 0), .v (.int .u8 0), .v (.int .u8 0), .v (.int .u8 0), .v (.int .u8 0), .v .nilFunc, .v (.pointer none), .v (.int .i32 0), .v (.int .i32 0)] := by kernel_rfl
@[go_sem] theorem ty.c202 : Try.prog.cellsOf 202 = 11 := by kernel_rfl
@[go_sem] theorem ty.i202 : (Try.prog.info? 202).isSome = true := by kernel_rfl
@[go_sem] theorem ty.k203 : tk Try.prog 203 = .st [(0, 1, false), (1, 1, false), (2, 1, false), (3, 1, false), (4, 1, false), (5, 1, false), (6, 1, false), (7, 1, false), (8, 1, false), (9, 1, false), (10, 1, false)] 11 := by kernel_rfl
@[go_sem] theorem ty.z203 : zD Try.prog 203 = .agg [.v (.int .u64 0), .v (.int .u64 0), .v (.int .u32 0), .v (.int .u8 0), .v (.int .u8 0), .v (.int .u8 0), .v (.int .u8 0), .v .nilFunc, .v (.pointer none), .v (.int .i32 0), .v (.int .i32 0)] := by kernel_rfl
@[go_sem] theorem ty.c203 : Try.prog.cellsOf 203 = 11 := by kernel_rfl
@[go_sem] theorem ty.i203 : (Try.prog.info? 203).isSome = true := by kernel_rfl
@[go_sem] theorem ty.k206 : tk Try.prog 206 = .st [(0, 1, false), (1, 1, false)] 2 := by kernel_rfl
@[go_sem] theorem ty.z206 : zD Try.prog 206 = .agg [.v (.string ByteArray.empty), .v (.string ByteArray.empty)] := by kernel_rfl
@[go_sem] theorem ty.c206 : Try.prog.cellsOf 206 = 2 := by kernel_rfl
@[go_sem] theorem ty.i206 : (Try.prog.info? 206).isSome = true := by kernel_rfl
@[go_sem] theorem ty.k207 : tk Try.prog 207 = .st [(0, 1, false), (1, 1, false)] 2 := by kernel_rfl
@[go_sem] theorem ty.z207 : zD Try.prog 207 = .agg [.v (.string ByteArray.empty), .v (.string ByteArray.empty)] := by kernel_rfl
@[go_sem] theorem ty.c207 : Try.prog.cellsOf 207 = 2 := by kernel_rfl
@[go_sem] theorem ty.i207 : (Try.prog.info? 207).isSome = true := by kernel_rfl
@[go_sem] theorem ty.f0 : okF Try.prog 0 = false := by kernel_rfl
@[go_sem] theorem ty.f1 : okF Try.prog 1 = false := by kernel_rfl
@[go_sem] theorem ty.f2 : okF Try.prog 2 = true := by kernel_rfl
@[go_sem] theorem ty.f3 : okF Try.prog 3 = true := by kernel_rfl
@[go_sem] theorem ty.f4 : okF Try.prog 4 = true := by kernel_rfl
@[go_sem] theorem ty.f5 : okF Try.prog 5 = true := by kernel_rfl
@[go_sem] theorem ty.f6 : okF Try.prog 6 = true := by kernel_rfl
@[go_sem] theorem ty.f7 : okF Try.prog 7 = true := by kernel_rfl
@[go_sem] theorem ty.f8 : okF Try.prog 8 = true := by kernel_rfl
@[go_sem] theorem ty.f9 : okF Try.prog 9 = true := by kernel_rfl
@[go_sem] theorem ty.f10 : okF Try.prog 10 = true := by kernel_rfl
@[go_sem] theorem ty.f11 : okF Try.prog 11 = true := by kernel_rfl
@[go_sem] theorem ty.f12 : okF Try.prog 12 = true := by kernel_rfl
@[go_sem] theorem ty.f13 : okF Try.prog 13 = true := by kernel_rfl
@[go_sem] theorem ty.f14 : okF Try.prog 14 = true := by kernel_rfl
@[go_sem] theorem ty.f15 : okF Try.prog 15 = true := by kernel_rfl
@[go_sem] theorem ty.f16 : okF Try.prog 16 = true := by kernel_rfl
@[go_sem] theorem ty.f17 : okF Try.prog 17 = true := by kernel_rfl
@[go_sem] theorem ty.f18 : okF Try.prog 18 = true := by kernel_rfl
@[go_sem] theorem ty.f19 : okF Try.prog 19 = true := by kernel_rfl
@[go_sem] theorem ty.f20 : okF Try.prog 20 = true := by kernel_rfl
@[go_sem] theorem ty.f21 : okF Try.prog 21 = true := by kernel_rfl
@[go_sem] theorem ty.f22 : okF Try.prog 22 = true := by kernel_rfl
@[go_sem] theorem ty.f23 : okF Try.prog 23 = true := by kernel_rfl
@[go_sem] theorem ty.f24 : okF Try.prog 24 = true := by kernel_rfl
@[go_sem] theorem ty.f25 : okF Try.prog 25 = true := by kernel_rfl
@[go_sem] theorem ty.f26 : okF Try.prog 26 = true := by kernel_rfl
@[go_sem] theorem ty.f27 : okF Try.prog 27 = true := by kernel_rfl
@[go_sem] theorem ty.f28 : okF Try.prog 28 = true := by kernel_rfl
@[go_sem] theorem ty.f29 : okF Try.prog 29 = true := by kernel_rfl
@[go_sem] theorem ty.f30 : okF Try.prog 30 = true := by kernel_rfl
@[go_sem] theorem ty.f31 : okF Try.prog 31 = true := by kernel_rfl
@[go_sem] theorem ty.f32 : okF Try.prog 32 = true := by kernel_rfl
@[go_sem] theorem ty.f33 : okF Try.prog 33 = true := by kernel_rfl
@[go_sem] theorem ty.f34 : okF Try.prog 34 = true := by kernel_rfl
@[go_sem] theorem ty.f35 : okF Try.prog 35 = true := by kernel_rfl
@[go_sem] theorem ty.f36 : okF Try.prog 36 = true := by kernel_rfl
@[go_sem] theorem ty.f37 : okF Try.prog 37 = true := by kernel_rfl
@[go_sem] theorem ty.f38 : okF Try.prog 38 = true := by kernel_rfl
@[go_sem] theorem ty.f39 : okF Try.prog 39 = true := by kernel_rfl
@[go_sem] theorem ty.f40 : okF Try.prog 40 = true := by kernel_rfl
@[go_sem] theorem ty.f41 : okF Try.prog 41 = true := by kernel_rfl
@[go_sem] theorem ty.f42 : okF Try.prog 42 = true := by kernel_rfl
@[go_sem] theorem ty.f43 : okF Try.prog 43 = true := by kernel_rfl
@[go_sem] theorem ty.f44 : okF Try.prog 44 = true := by kernel_rfl
@[go_sem] theorem ty.f45 : okF Try.prog 45 = true := by kernel_rfl
@[go_sem] theorem ty.f46 : okF Try.prog 46 = true := by kernel_rfl
@[go_sem] theorem ty.f47 : okF Try.prog 47 = true := by kernel_rfl
@[go_sem] theorem ty.f48 : okF Try.prog 48 = true := by kernel_rfl
@[go_sem] theorem ty.f49 : okF Try.prog 49 = true := by kernel_rfl
@[go_sem] theorem ty.f50 : okF Try.prog 50 = true := by kernel_rfl
@[go_sem] theorem ty.f51 : okF Try.prog 51 = true := by kernel_rfl
@[go_sem] theorem ty.f52 : okF Try.prog 52 = true := by kernel_rfl
@[go_sem] theorem ty.f53 : okF Try.prog 53 = true := by kernel_rfl
@[go_sem] theorem ty.f54 : okF Try.prog 54 = true := by kernel_rfl
@[go_sem] theorem ty.f55 : okF Try.prog 55 = true := by kernel_rfl
@[go_sem] theorem ty.f56 : okF Try.prog 56 = true := by kernel_rfl
@[go_sem] theorem ty.f57 : okF Try.prog 57 = true := by kernel_rfl
@[go_sem] theorem ty.f58 : okF Try.prog 58 = true := by kernel_rfl
@[go_sem] theorem ty.f59 : okF Try.prog 59 = true := by kernel_rfl
@[go_sem] theorem ty.f60 : okF Try.prog 60 = true := by kernel_rfl
@[go_sem] theorem ty.f61 : okF Try.prog 61 = true := by kernel_rfl
@[go_sem] theorem ty.f62 : okF Try.prog 62 = true := by kernel_rfl
@[go_sem] theorem ty.f63 : okF Try.prog 63 = true := by kernel_rfl
@[go_sem] theorem ty.f64 : okF Try.prog 64 = true := by kernel_rfl
@[go_sem] theorem ty.f65 : okF Try.prog 65 = true := by kernel_rfl
@[go_sem] theorem ty.f66 : okF Try.prog 66 = true := by kernel_rfl
@[go_sem] theorem ty.f67 : okF Try.prog 67 = true := by kernel_rfl
@[go_sem] theorem ty.f68 : okF Try.prog 68 = true := by kernel_rfl
@[go_sem] theorem ty.f69 : okF Try.prog 69 = true := by kernel_rfl
@[go_sem] theorem ty.f70 : okF Try.prog 70 = true := by kernel_rfl
@[go_sem] theorem ty.f71 : okF Try.prog 71 = true := by kernel_rfl
@[go_sem] theorem ty.f72 : okF Try.prog 72 = true := by kernel_rfl
@[go_sem] theorem ty.f73 : okF Try.prog 73 = true := by kernel_rfl
@[go_sem] theorem ty.f74 : okF Try.prog 74 = true := by kernel_rfl
@[go_sem] theorem ty.f75 : okF Try.prog 75 = true := by kernel_rfl
@[go_sem] theorem ty.f76 : okF Try.prog 76 = true := by kernel_rfl
@[go_sem] theorem ty.f77 : okF Try.prog 77 = true := by kernel_rfl
@[go_sem] theorem ty.f78 : okF Try.prog 78 = true := by kernel_rfl
@[go_sem] theorem ty.f79 : okF Try.prog 79 = true := by kernel_rfl
@[go_sem] theorem ty.f80 : okF Try.prog 80 = true := by kernel_rfl
@[go_sem] theorem ty.f81 : okF Try.prog 81 = true := by kernel_rfl
@[go_sem] theorem ty.f82 : okF Try.prog 82 = true := by kernel_rfl
@[go_sem] theorem ty.f83 : okF Try.prog 83 = true := by kernel_rfl
@[go_sem] theorem ty.f84 : okF Try.prog 84 = true := by kernel_rfl
@[go_sem] theorem ty.f85 : okF Try.prog 85 = true := by kernel_rfl
@[go_sem] theorem ty.f86 : okF Try.prog 86 = true := by kernel_rfl
@[go_sem] theorem ty.f87 : okF Try.prog 87 = true := by kernel_rfl
@[go_sem] theorem ty.f88 : okF Try.prog 88 = true := by kernel_rfl
@[go_sem] theorem ty.f89 : okF Try.prog 89 = true := by kernel_rfl
@[go_sem] theorem ty.f90 : okF Try.prog 90 = true := by kernel_rfl
@[go_sem] theorem ty.f91 : okF Try.prog 91 = true := by kernel_rfl
@[go_sem] theorem ty.f92 : okF Try.prog 92 = true := by kernel_rfl
@[go_sem] theorem ty.f93 : okF Try.prog 93 = true := by kernel_rfl
@[go_sem] theorem ty.f94 : okF Try.prog 94 = true := by kernel_rfl
@[go_sem] theorem ty.f95 : okF Try.prog 95 = true := by kernel_rfl
@[go_sem] theorem ty.f96 : okF Try.prog 96 = true := by kernel_rfl
@[go_sem] theorem ty.f97 : okF Try.prog 97 = true := by kernel_rfl
@[go_sem] theorem ty.f98 : okF Try.prog 98 = true := by kernel_rfl
@[go_sem] theorem ty.f99 : okF Try.prog 99 = true := by kernel_rfl
@[go_sem] theorem ty.f100 : okF Try.prog 100 = true := by kernel_rfl
@[go_sem] theorem ty.f101 : okF Try.prog 101 = true := by kernel_rfl
@[go_sem] theorem ty.f102 : okF Try.prog 102 = true := by kernel_rfl
@[go_sem] theorem ty.f103 : okF Try.prog 103 = true := by kernel_rfl
@[go_sem] theorem ty.f104 : okF Try.prog 104 = true := by kernel_rfl
@[go_sem] theorem ty.f105 : okF Try.prog 105 = true := by kernel_rfl
@[go_sem] theorem ty.f106 : okF Try.prog 106 = true := by kernel_rfl
@[go_sem] theorem ty.f107 : okF Try.prog 107 = true := by kernel_rfl
@[go_sem] theorem ty.f108 : okF Try.prog 108 = true := by kernel_rfl
@[go_sem] theorem ty.f109 : okF Try.prog 109 = true := by kernel_rfl
@[go_sem] theorem ty.f110 : okF Try.prog 110 = true := by kernel_rfl
@[go_sem] theorem ty.f111 : okF Try.prog 111 = true := by kernel_rfl
@[go_sem] theorem ty.f112 : okF Try.prog 112 = true := by kernel_rfl
@[go_sem] theorem ty.f113 : okF Try.prog 113 = true := by kernel_rfl
@[go_sem] theorem ty.f114 : okF Try.prog 114 = true := by kernel_rfl
@[go_sem] theorem ty.f115 : okF Try.prog 115 = true := by kernel_rfl
@[go_sem] theorem ty.f116 : okF Try.prog 116 = true := by kernel_rfl
@[go_sem] theorem ty.f117 : okF Try.prog 117 = true := by kernel_rfl
@[go_sem] theorem ty.f118 : okF Try.prog 118 = true := by kernel_rfl
@[go_sem] theorem ty.f119 : okF Try.prog 119 = true := by kernel_rfl
@[go_sem] theorem ty.f120 : okF Try.prog 120 = true := by kernel_rfl
@[go_sem] theorem ty.f121 : okF Try.prog 121 = true := by kernel_rfl
@[go_sem] theorem ty.f122 : okF Try.prog 122 = true := by kernel_rfl
@[go_sem] theorem ty.f123 : okF Try.prog 123 = true := by kernel_rfl
@[go_sem] theorem ty.f124 : okF Try.prog 124 = true := by kernel_rfl
@[go_sem] theorem ty.f125 : okF Try.prog 125 = true := by kernel_rfl
@[go_sem] theorem ty.f126 : okF Try.prog 126 = true := by kernel_rfl
@[go_sem] theorem ty.f127 : okF Try.prog 127 = true := by kernel_rfl
@[go_sem] theorem ty.f128 : okF Try.prog 128 = true := by kernel_rfl
@[go_sem] theorem ty.f129 : okF Try.prog 129 = true := by kernel_rfl
@[go_sem] theorem ty.f130 : okF Try.prog 130 = true := by kernel_rfl
@[go_sem] theorem ty.f131 : okF Try.prog 131 = true := by kernel_rfl
@[go_sem] theorem ty.f132 : okF Try.prog 132 = true := by kernel_rfl
@[go_sem] theorem ty.f133 : okF Try.prog 133 = true := by kernel_rfl
@[go_sem] theorem ty.f134 : okF Try.prog 134 = true := by kernel_rfl
@[go_sem] theorem ty.f135 : okF Try.prog 135 = true := by kernel_rfl
@[go_sem] theorem ty.f136 : okF Try.prog 136 = true := by kernel_rfl
@[go_sem] theorem ty.f137 : okF Try.prog 137 = true := by kernel_rfl
@[go_sem] theorem ty.f138 : okF Try.prog 138 = true := by kernel_rfl
@[go_sem] theorem ty.f139 : okF Try.prog 139 = false := by kernel_rfl
@[go_sem] theorem ty.f140 : okF Try.prog 140 = false := by kernel_rfl
@[go_sem] theorem ty.f141 : okF Try.prog 141 = false := by kernel_rfl
@[go_sem] theorem ty.f142 : okF Try.prog 142 = false := by kernel_rfl
@[go_sem] theorem ty.f143 : okF Try.prog 143 = false := by kernel_rfl
@[go_sem] theorem ty.f144 : okF Try.prog 144 = false := by kernel_rfl
@[go_sem] theorem ty.f145 : okF Try.prog 145 = false := by kernel_rfl
@[go_sem] theorem ty.f146 : okF Try.prog 146 = false := by kernel_rfl
@[go_sem] theorem ty.f147 : okF Try.prog 147 = false := by kernel_rfl
@[go_sem] theorem ty.f148 : okF Try.prog 148 = false := by kernel_rfl
@[go_sem] theorem ty.f149 : okF Try.prog 149 = false := by kernel_rfl
@[go_sem] theorem ty.f150 : okF Try.prog 150 = false := by kernel_rfl
@[go_sem] theorem ty.f151 : okF Try.prog 151 = false := by kernel_rfl
@[go_sem] theorem ty.f152 : okF Try.prog 152 = false := by kernel_rfl
@[go_sem] theorem ty.f153 : okF Try.prog 153 = false := by kernel_rfl
@[go_sem] theorem ty.f154 : okF Try.prog 154 = false := by kernel_rfl
@[go_sem] theorem ty.f155 : okF Try.prog 155 = false := by kernel_rfl
theorem mx : Try.prog.follows .mixedOrders = true := by kernel_rfl
end Go.Proofs.Ytkibkahknibgfaa
