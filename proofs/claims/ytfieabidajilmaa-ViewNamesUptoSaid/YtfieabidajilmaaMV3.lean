/-
  Facts on the types and functions of the translation, printed by program (wip/tools/types.py); Loops by a state; forgetting slots; growing slices out of nil; The equations by which the reckoning goes: each for one form of value; Statements whose order Go leaves open: where each operation hands back one abstract value and leaves the store, every order serves; Reckoning over statements whose order is open. By an AI agent.
-/
import Derived.Test.YtfieabidajilmaaMV2
import Derived.Test.YtfieabidajilmaaProg
import Derived.KernelRfl
import Derived.Still
namespace Go.Proofs.Ytfieabidajilmaa
open Aml
@[go_sem] theorem ty.k1 : tk Try.prog 1 = .fn := by kernel_rfl
@[go_sem] theorem ty.z1 : zD Try.prog 1 = .v .nilFunc := by kernel_rfl
@[go_sem] theorem ty.c1 : Try.prog.cellsOf 1 = 1 := by kernel_rfl
@[go_sem] theorem ty.i1 : (Try.prog.info? 1).isSome = true := by kernel_rfl
@[go_sem] theorem ty.k2 : tk Try.prog 2 = .int .i64 := by kernel_rfl
@[go_sem] theorem ty.z2 : zD Try.prog 2 = .v (.int .i64 0) := by kernel_rfl
@[go_sem] theorem ty.c2 : Try.prog.cellsOf 2 = 1 := by kernel_rfl
@[go_sem] theorem ty.i2 : (Try.prog.info? 2).isSome = true := by kernel_rfl
@[go_sem] theorem ty.k3 : tk Try.prog 3 = .int .i64 := by kernel_rfl
@[go_sem] theorem ty.z3 : zD Try.prog 3 = .v (.int .i64 0) := by kernel_rfl
@[go_sem] theorem ty.c3 : Try.prog.cellsOf 3 = 1 := by kernel_rfl
@[go_sem] theorem ty.i3 : (Try.prog.info? 3).isSome = true := by kernel_rfl
@[go_sem] theorem ty.k4 : tk Try.prog 4 = .one := by kernel_rfl
@[go_sem] theorem ty.z4 : zD Try.prog 4 = .v (.bool false) := by kernel_rfl
@[go_sem] theorem ty.c4 : Try.prog.cellsOf 4 = 1 := by kernel_rfl
@[go_sem] theorem ty.i4 : (Try.prog.info? 4).isSome = true := by kernel_rfl
@[go_sem] theorem ty.k5 : tk Try.prog 5 = .int .u8 := by kernel_rfl
@[go_sem] theorem ty.z5 : zD Try.prog 5 = .v (.int .u8 0) := by kernel_rfl
@[go_sem] theorem ty.c5 : Try.prog.cellsOf 5 = 1 := by kernel_rfl
@[go_sem] theorem ty.i5 : (Try.prog.info? 5).isSome = true := by kernel_rfl
@[go_sem] theorem ty.k6 : tk Try.prog 6 = .int .u8 := by kernel_rfl
@[go_sem] theorem ty.z6 : zD Try.prog 6 = .v (.int .u8 0) := by kernel_rfl
@[go_sem] theorem ty.c6 : Try.prog.cellsOf 6 = 1 := by kernel_rfl
@[go_sem] theorem ty.i6 : (Try.prog.info? 6).isSome = true := by kernel_rfl
@[go_sem] theorem ty.k7 : tk Try.prog 7 = .st [(0, 1, false), (1, 1, false), (2, 1, false), (3, 1, false)] 4 := by kernel_rfl
@[go_sem] theorem ty.q7 : eqK Try.prog 7 = some [.int .i64, .int .i64, .bool, .int .u8] := by kernel_rfl
@[go_sem] theorem ty.z7 : zD Try.prog 7 = .agg [.v (.int .i64 0), .v (.int .i64 0), .v (.bool false), .v (.int .u8 0)] := by kernel_rfl
@[go_sem] theorem ty.c7 : Try.prog.cellsOf 7 = 4 := by kernel_rfl
@[go_sem] theorem ty.i7 : (Try.prog.info? 7).isSome = true := by kernel_rfl
@[go_sem] theorem ty.k8 : tk Try.prog 8 = .st [(0, 1, false), (1, 1, false), (2, 1, false), (3, 1, false)] 4 := by kernel_rfl
@[go_sem] theorem ty.q8 : eqK Try.prog 8 = some [.int .i64, .int .i64, .bool, .int .u8] := by kernel_rfl
@[go_sem] theorem ty.z8 : zD Try.prog 8 = .agg [.v (.int .i64 0), .v (.int .i64 0), .v (.bool false), .v (.int .u8 0)] := by kernel_rfl
@[go_sem] theorem ty.c8 : Try.prog.cellsOf 8 = 4 := by kernel_rfl
@[go_sem] theorem ty.i8 : (Try.prog.info? 8).isSome = true := by kernel_rfl
@[go_sem] theorem ty.k9 : tk Try.prog 9 = .str := by kernel_rfl
@[go_sem] theorem ty.z9 : zD Try.prog 9 = .v (.string ByteArray.empty) := by kernel_rfl
@[go_sem] theorem ty.c9 : Try.prog.cellsOf 9 = 1 := by kernel_rfl
@[go_sem] theorem ty.i9 : (Try.prog.info? 9).isSome = true := by kernel_rfl
@[go_sem] theorem ty.k10 : tk Try.prog 10 = .str := by kernel_rfl
@[go_sem] theorem ty.z10 : zD Try.prog 10 = .v (.string ByteArray.empty) := by kernel_rfl
@[go_sem] theorem ty.c10 : Try.prog.cellsOf 10 = 1 := by kernel_rfl
@[go_sem] theorem ty.i10 : (Try.prog.info? 10).isSome = true := by kernel_rfl
@[go_sem] theorem ty.k11 : tk Try.prog 11 = .str := by kernel_rfl
@[go_sem] theorem ty.z11 : zD Try.prog 11 = .v (.string ByteArray.empty) := by kernel_rfl
@[go_sem] theorem ty.c11 : Try.prog.cellsOf 11 = 1 := by kernel_rfl
@[go_sem] theorem ty.i11 : (Try.prog.info? 11).isSome = true := by kernel_rfl
@[go_sem] theorem ty.k12 : tk Try.prog 12 = .int .u64 := by kernel_rfl
@[go_sem] theorem ty.z12 : zD Try.prog 12 = .v (.int .u64 0) := by kernel_rfl
@[go_sem] theorem ty.c12 : Try.prog.cellsOf 12 = 1 := by kernel_rfl
@[go_sem] theorem ty.i12 : (Try.prog.info? 12).isSome = true := by kernel_rfl
@[go_sem] theorem ty.k13 : tk Try.prog 13 = .st [(0, 1, false), (1, 1, false)] 2 := by kernel_rfl
@[go_sem] theorem ty.z13 : zD Try.prog 13 = .agg [.v (.string ByteArray.empty), .v (.int .u64 0)] := by kernel_rfl
@[go_sem] theorem ty.c13 : Try.prog.cellsOf 13 = 2 := by kernel_rfl
@[go_sem] theorem ty.i13 : (Try.prog.info? 13).isSome = true := by kernel_rfl
@[go_sem] theorem ty.k14 : tk Try.prog 14 = .st [(0, 1, false), (1, 1, false)] 2 := by kernel_rfl
@[go_sem] theorem ty.z14 : zD Try.prog 14 = .agg [.v (.string ByteArray.empty), .v (.int .u64 0)] := by kernel_rfl
@[go_sem] theorem ty.c14 : Try.prog.cellsOf 14 = 2 := by kernel_rfl
@[go_sem] theorem ty.i14 : (Try.prog.info? 14).isSome = true := by kernel_rfl
@[go_sem] theorem ty.k15 : tk Try.prog 15 = .ptr 239 := by kernel_rfl
@[go_sem] theorem ty.z15 : zD Try.prog 15 = .v (.pointer none) := by kernel_rfl
@[go_sem] theorem ty.c15 : Try.prog.cellsOf 15 = 1 := by kernel_rfl
@[go_sem] theorem ty.i15 : (Try.prog.info? 15).isSome = true := by kernel_rfl
@[go_sem] theorem ty.k16 : tk Try.prog 16 = .ptr 242 := by kernel_rfl
@[go_sem] theorem ty.z16 : zD Try.prog 16 = .v (.pointer none) := by kernel_rfl
@[go_sem] theorem ty.c16 : Try.prog.cellsOf 16 = 1 := by kernel_rfl
@[go_sem] theorem ty.i16 : (Try.prog.info? 16).isSome = true := by kernel_rfl
@[go_sem] theorem ty.k17 : tk Try.prog 17 = .ptr 250 := by kernel_rfl
@[go_sem] theorem ty.z17 : zD Try.prog 17 = .v (.pointer none) := by kernel_rfl
@[go_sem] theorem ty.c17 : Try.prog.cellsOf 17 = 1 := by kernel_rfl
@[go_sem] theorem ty.i17 : (Try.prog.info? 17).isSome = true := by kernel_rfl
@[go_sem] theorem ty.k18 : tk Try.prog 18 = .st [(0, 1, false)] 1 := by kernel_rfl
@[go_sem] theorem ty.z18 : zD Try.prog 18 = .agg [.v (.pointer none)] := by kernel_rfl
@[go_sem] theorem ty.c18 : Try.prog.cellsOf 18 = 1 := by kernel_rfl
@[go_sem] theorem ty.i18 : (Try.prog.info? 18).isSome = true := by kernel_rfl
@[go_sem] theorem ty.k19 : tk Try.prog 19 = .st [(0, 1, false)] 1 := by kernel_rfl
@[go_sem] theorem ty.z19 : zD Try.prog 19 = .agg [.v (.pointer none)] := by kernel_rfl
@[go_sem] theorem ty.c19 : Try.prog.cellsOf 19 = 1 := by kernel_rfl
@[go_sem] theorem ty.i19 : (Try.prog.info? 19).isSome = true := by kernel_rfl
@[go_sem] theorem ty.k20 : tk Try.prog 20 = .ifc [] := by kernel_rfl
@[go_sem] theorem ty.z20 : zD Try.prog 20 = .v .nilIface := by kernel_rfl
@[go_sem] theorem ty.c20 : Try.prog.cellsOf 20 = 1 := by kernel_rfl
@[go_sem] theorem ty.i20 : (Try.prog.info? 20).isSome = true := by kernel_rfl
@[go_sem] theorem ty.k21 : tk Try.prog 21 = .int .i32 := by kernel_rfl
@[go_sem] theorem ty.z21 : zD Try.prog 21 = .v (.int .i32 0) := by kernel_rfl
@[go_sem] theorem ty.c21 : Try.prog.cellsOf 21 = 1 := by kernel_rfl
@[go_sem] theorem ty.i21 : (Try.prog.info? 21).isSome = true := by kernel_rfl
@[go_sem] theorem ty.k22 : tk Try.prog 22 = .sl 35 5 56 true := by kernel_rfl
@[go_sem] theorem ty.e22 : elT Try.prog 22 = 35 := by kernel_rfl
@[go_sem] theorem ty.z22 : zD Try.prog 22 = .sl 0 true [] := by kernel_rfl
@[go_sem] theorem ty.c22 : Try.prog.cellsOf 22 = 1 := by kernel_rfl
@[go_sem] theorem ty.i22 : (Try.prog.info? 22).isSome = true := by kernel_rfl
@[go_sem] theorem ty.k23 : tk Try.prog 23 = .fn := by kernel_rfl
@[go_sem] theorem ty.z23 : zD Try.prog 23 = .v .nilFunc := by kernel_rfl
@[go_sem] theorem ty.c23 : Try.prog.cellsOf 23 = 1 := by kernel_rfl
@[go_sem] theorem ty.i23 : (Try.prog.info? 23).isSome = true := by kernel_rfl
@[go_sem] theorem ty.k24 : tk Try.prog 24 = .fn := by kernel_rfl
@[go_sem] theorem ty.z24 : zD Try.prog 24 = .v .nilFunc := by kernel_rfl
@[go_sem] theorem ty.c24 : Try.prog.cellsOf 24 = 1 := by kernel_rfl
@[go_sem] theorem ty.i24 : (Try.prog.info? 24).isSome = true := by kernel_rfl
@[go_sem] theorem ty.k25 : tk Try.prog 25 = .sl 9 1 16 true := by kernel_rfl
@[go_sem] theorem ty.e25 : elT Try.prog 25 = 9 := by kernel_rfl
@[go_sem] theorem ty.z25 : zD Try.prog 25 = .sl 0 true [] := by kernel_rfl
@[go_sem] theorem ty.c25 : Try.prog.cellsOf 25 = 1 := by kernel_rfl
@[go_sem] theorem ty.i25 : (Try.prog.info? 25).isSome = true := by kernel_rfl
@[go_sem] theorem ty.k26 : tk Try.prog 26 = .sl 122 2 40 true := by kernel_rfl
@[go_sem] theorem ty.e26 : elT Try.prog 26 = 122 := by kernel_rfl
@[go_sem] theorem ty.z26 : zD Try.prog 26 = .sl 0 true [] := by kernel_rfl
@[go_sem] theorem ty.c26 : Try.prog.cellsOf 26 = 1 := by kernel_rfl
@[go_sem] theorem ty.i26 : (Try.prog.info? 26).isSome = true := by kernel_rfl
@[go_sem] theorem ty.k27 : tk Try.prog 27 = .sl 29 5 88 true := by kernel_rfl
@[go_sem] theorem ty.e27 : elT Try.prog 27 = 29 := by kernel_rfl
@[go_sem] theorem ty.z27 : zD Try.prog 27 = .sl 0 true [] := by kernel_rfl
@[go_sem] theorem ty.c27 : Try.prog.cellsOf 27 = 1 := by kernel_rfl
@[go_sem] theorem ty.i27 : (Try.prog.info? 27).isSome = true := by kernel_rfl
@[go_sem] theorem ty.k28 : tk Try.prog 28 = .st [(0, 1, false), (1, 1, false), (2, 1, false), (3, 1, false), (4, 1, false)] 5 := by kernel_rfl
@[go_sem] theorem ty.z28 : zD Try.prog 28 = .agg [.v (.int .i64 0), .v (.bool false), .sl 0 true [], .sl 0 true [], .sl 0 true []] := by kernel_rfl
@[go_sem] theorem ty.c28 : Try.prog.cellsOf 28 = 5 := by kernel_rfl
@[go_sem] theorem ty.i28 : (Try.prog.info? 28).isSome = true := by kernel_rfl
@[go_sem] theorem ty.k29 : tk Try.prog 29 = .st [(0, 1, false), (1, 1, false), (2, 1, false), (3, 1, false), (4, 1, false)] 5 := by kernel_rfl
@[go_sem] theorem ty.z29 : zD Try.prog 29 = .agg [.v (.int .i64 0), .v (.bool false), .sl 0 true [], .sl 0 true [], .sl 0 true []] := by kernel_rfl
@[go_sem] theorem ty.c29 : Try.prog.cellsOf 29 = 5 := by kernel_rfl
@[go_sem] theorem ty.i29 : (Try.prog.info? 29).isSome = true := by kernel_rfl
@[go_sem] theorem ty.k30 : tk Try.prog 30 = .sl 69 6 104 true := by kernel_rfl
@[go_sem] theorem ty.e30 : elT Try.prog 30 = 69 := by kernel_rfl
@[go_sem] theorem ty.z30 : zD Try.prog 30 = .sl 0 true [] := by kernel_rfl
@[go_sem] theorem ty.c30 : Try.prog.cellsOf 30 = 1 := by kernel_rfl
@[go_sem] theorem ty.i30 : (Try.prog.info? 30).isSome = true := by kernel_rfl
@[go_sem] theorem ty.k31 : tk Try.prog 31 = .st [(0, 5, true), (5, 1, false)] 6 := by kernel_rfl
@[go_sem] theorem ty.z31 : zD Try.prog 31 = .agg [.v (.int .i64 0), .v (.bool false), .sl 0 true [], .sl 0 true [], .sl 0 true [], .sl 0 true []] := by kernel_rfl
@[go_sem] theorem ty.c31 : Try.prog.cellsOf 31 = 6 := by kernel_rfl
@[go_sem] theorem ty.i31 : (Try.prog.info? 31).isSome = true := by kernel_rfl
@[go_sem] theorem ty.k32 : tk Try.prog 32 = .st [(0, 5, true), (5, 1, false)] 6 := by kernel_rfl
@[go_sem] theorem ty.z32 : zD Try.prog 32 = .agg [.v (.int .i64 0), .v (.bool false), .sl 0 true [], .sl 0 true [], .sl 0 true [], .sl 0 true []] := by kernel_rfl
@[go_sem] theorem ty.c32 : Try.prog.cellsOf 32 = 6 := by kernel_rfl
@[go_sem] theorem ty.i32 : (Try.prog.info? 32).isSome = true := by kernel_rfl
@[go_sem] theorem ty.k33 : tk Try.prog 33 = .fn := by kernel_rfl
@[go_sem] theorem ty.z33 : zD Try.prog 33 = .v .nilFunc := by kernel_rfl
@[go_sem] theorem ty.c33 : Try.prog.cellsOf 33 = 1 := by kernel_rfl
@[go_sem] theorem ty.i33 : (Try.prog.info? 33).isSome = true := by kernel_rfl
@[go_sem] theorem ty.k34 : tk Try.prog 34 = .st [(0, 1, false), (1, 1, false), (2, 1, false), (3, 1, false), (4, 1, false)] 5 := by kernel_rfl
@[go_sem] theorem ty.q34 : eqK Try.prog 34 = some [.int .i64, .str, .str, .int .u8, .int .i64] := by kernel_rfl
@[go_sem] theorem ty.z34 : zD Try.prog 34 = .agg [.v (.int .i64 0), .v (.string ByteArray.empty), .v (.string ByteArray.empty), .v (.int .u8 0), .v (.int .i64 0)] := by kernel_rfl
@[go_sem] theorem ty.c34 : Try.prog.cellsOf 34 = 5 := by kernel_rfl
@[go_sem] theorem ty.i34 : (Try.prog.info? 34).isSome = true := by kernel_rfl
@[go_sem] theorem ty.k35 : tk Try.prog 35 = .st [(0, 1, false), (1, 1, false), (2, 1, false), (3, 1, false), (4, 1, false)] 5 := by kernel_rfl
@[go_sem] theorem ty.q35 : eqK Try.prog 35 = some [.int .i64, .str, .str, .int .u8, .int .i64] := by kernel_rfl
@[go_sem] theorem ty.z35 : zD Try.prog 35 = .agg [.v (.int .i64 0), .v (.string ByteArray.empty), .v (.string ByteArray.empty), .v (.int .u8 0), .v (.int .i64 0)] := by kernel_rfl
@[go_sem] theorem ty.c35 : Try.prog.cellsOf 35 = 5 := by kernel_rfl
@[go_sem] theorem ty.i35 : (Try.prog.info? 35).isSome = true := by kernel_rfl
@[go_sem] theorem ty.k36 : tk Try.prog 36 = .int .i64 := by kernel_rfl
@[go_sem] theorem ty.z36 : zD Try.prog 36 = .v (.int .i64 0) := by kernel_rfl
@[go_sem] theorem ty.c36 : Try.prog.cellsOf 36 = 1 := by kernel_rfl
@[go_sem] theorem ty.i36 : (Try.prog.info? 36).isSome = true := by kernel_rfl
@[go_sem] theorem ty.k38 : tk Try.prog 38 = .fn := by kernel_rfl
@[go_sem] theorem ty.z38 : zD Try.prog 38 = .v .nilFunc := by kernel_rfl
@[go_sem] theorem ty.c38 : Try.prog.cellsOf 38 = 1 := by kernel_rfl
@[go_sem] theorem ty.i38 : (Try.prog.info? 38).isSome = true := by kernel_rfl
@[go_sem] theorem ty.k39 : tk Try.prog 39 = .fn := by kernel_rfl
@[go_sem] theorem ty.z39 : zD Try.prog 39 = .v .nilFunc := by kernel_rfl
@[go_sem] theorem ty.c39 : Try.prog.cellsOf 39 = 1 := by kernel_rfl
@[go_sem] theorem ty.i39 : (Try.prog.info? 39).isSome = true := by kernel_rfl
@[go_sem] theorem ty.k40 : tk Try.prog 40 = .fn := by kernel_rfl
@[go_sem] theorem ty.z40 : zD Try.prog 40 = .v .nilFunc := by kernel_rfl
@[go_sem] theorem ty.c40 : Try.prog.cellsOf 40 = 1 := by kernel_rfl
@[go_sem] theorem ty.i40 : (Try.prog.info? 40).isSome = true := by kernel_rfl
@[go_sem] theorem ty.k41 : tk Try.prog 41 = .fn := by kernel_rfl
@[go_sem] theorem ty.z41 : zD Try.prog 41 = .v .nilFunc := by kernel_rfl
@[go_sem] theorem ty.c41 : Try.prog.cellsOf 41 = 1 := by kernel_rfl
@[go_sem] theorem ty.i41 : (Try.prog.info? 41).isSome = true := by kernel_rfl
@[go_sem] theorem ty.k42 : tk Try.prog 42 = .sl 46 2 32 true := by kernel_rfl
@[go_sem] theorem ty.e42 : elT Try.prog 42 = 46 := by kernel_rfl
@[go_sem] theorem ty.z42 : zD Try.prog 42 = .sl 0 true [] := by kernel_rfl
@[go_sem] theorem ty.c42 : Try.prog.cellsOf 42 = 1 := by kernel_rfl
@[go_sem] theorem ty.i42 : (Try.prog.info? 42).isSome = true := by kernel_rfl
@[go_sem] theorem ty.k44 : tk Try.prog 44 = .fn := by kernel_rfl
@[go_sem] theorem ty.z44 : zD Try.prog 44 = .v .nilFunc := by kernel_rfl
@[go_sem] theorem ty.c44 : Try.prog.cellsOf 44 = 1 := by kernel_rfl
@[go_sem] theorem ty.i44 : (Try.prog.info? 44).isSome = true := by kernel_rfl
@[go_sem] theorem ty.k45 : tk Try.prog 45 = .st [(0, 1, false), (1, 1, false)] 2 := by kernel_rfl
@[go_sem] theorem ty.q45 : eqK Try.prog 45 = some [.str, .str] := by kernel_rfl
@[go_sem] theorem ty.z45 : zD Try.prog 45 = .agg [.v (.string ByteArray.empty), .v (.string ByteArray.empty)] := by kernel_rfl
@[go_sem] theorem ty.c45 : Try.prog.cellsOf 45 = 2 := by kernel_rfl
@[go_sem] theorem ty.i45 : (Try.prog.info? 45).isSome = true := by kernel_rfl
@[go_sem] theorem ty.k46 : tk Try.prog 46 = .st [(0, 1, false), (1, 1, false)] 2 := by kernel_rfl
@[go_sem] theorem ty.q46 : eqK Try.prog 46 = some [.str, .str] := by kernel_rfl
@[go_sem] theorem ty.z46 : zD Try.prog 46 = .agg [.v (.string ByteArray.empty), .v (.string ByteArray.empty)] := by kernel_rfl
@[go_sem] theorem ty.c46 : Try.prog.cellsOf 46 = 2 := by kernel_rfl
@[go_sem] theorem ty.i46 : (Try.prog.info? 46).isSome = true := by kernel_rfl
@[go_sem] theorem ty.k47 : tk Try.prog 47 = .fn := by kernel_rfl
@[go_sem] theorem ty.z47 : zD Try.prog 47 = .v .nilFunc := by kernel_rfl
@[go_sem] theorem ty.c47 : Try.prog.cellsOf 47 = 1 := by kernel_rfl
@[go_sem] theorem ty.i47 : (Try.prog.info? 47).isSome = true := by kernel_rfl
@[go_sem] theorem ty.k48 : tk Try.prog 48 = .sl 67 4 80 true := by kernel_rfl
@[go_sem] theorem ty.e48 : elT Try.prog 48 = 67 := by kernel_rfl
@[go_sem] theorem ty.z48 : zD Try.prog 48 = .sl 0 true [] := by kernel_rfl
@[go_sem] theorem ty.c48 : Try.prog.cellsOf 48 = 1 := by kernel_rfl
@[go_sem] theorem ty.i48 : (Try.prog.info? 48).isSome = true := by kernel_rfl
@[go_sem] theorem ty.k49 : tk Try.prog 49 = .st [(0, 1, false), (1, 1, false), (2, 1, false)] 3 := by kernel_rfl
@[go_sem] theorem ty.z49 : zD Try.prog 49 = .agg [.v (.int .i64 0), .v (.bool false), .sl 0 true []] := by kernel_rfl
@[go_sem] theorem ty.c49 : Try.prog.cellsOf 49 = 3 := by kernel_rfl
@[go_sem] theorem ty.i49 : (Try.prog.info? 49).isSome = true := by kernel_rfl
@[go_sem] theorem ty.k50 : tk Try.prog 50 = .st [(0, 1, false), (1, 1, false), (2, 1, false)] 3 := by kernel_rfl
@[go_sem] theorem ty.z50 : zD Try.prog 50 = .agg [.v (.int .i64 0), .v (.bool false), .sl 0 true []] := by kernel_rfl
@[go_sem] theorem ty.c50 : Try.prog.cellsOf 50 = 3 := by kernel_rfl
@[go_sem] theorem ty.i50 : (Try.prog.info? 50).isSome = true := by kernel_rfl
@[go_sem] theorem ty.k51 : tk Try.prog 51 = .sl 118 4 56 true := by kernel_rfl
@[go_sem] theorem ty.e51 : elT Try.prog 51 = 118 := by kernel_rfl
@[go_sem] theorem ty.z51 : zD Try.prog 51 = .sl 0 true [] := by kernel_rfl
@[go_sem] theorem ty.c51 : Try.prog.cellsOf 51 = 1 := by kernel_rfl
@[go_sem] theorem ty.i51 : (Try.prog.info? 51).isSome = true := by kernel_rfl
@[go_sem] theorem ty.k52 : tk Try.prog 52 = .st [(0, 3, true), (3, 1, false)] 4 := by kernel_rfl
@[go_sem] theorem ty.z52 : zD Try.prog 52 = .agg [.v (.int .i64 0), .v (.bool false), .sl 0 true [], .sl 0 true []] := by kernel_rfl
@[go_sem] theorem ty.c52 : Try.prog.cellsOf 52 = 4 := by kernel_rfl
@[go_sem] theorem ty.i52 : (Try.prog.info? 52).isSome = true := by kernel_rfl
@[go_sem] theorem ty.k53 : tk Try.prog 53 = .st [(0, 3, true), (3, 1, false)] 4 := by kernel_rfl
@[go_sem] theorem ty.z53 : zD Try.prog 53 = .agg [.v (.int .i64 0), .v (.bool false), .sl 0 true [], .sl 0 true []] := by kernel_rfl
@[go_sem] theorem ty.c53 : Try.prog.cellsOf 53 = 4 := by kernel_rfl
@[go_sem] theorem ty.i53 : (Try.prog.info? 53).isSome = true := by kernel_rfl
@[go_sem] theorem ty.k54 : tk Try.prog 54 = .fn := by kernel_rfl
@[go_sem] theorem ty.z54 : zD Try.prog 54 = .v .nilFunc := by kernel_rfl
@[go_sem] theorem ty.c54 : Try.prog.cellsOf 54 = 1 := by kernel_rfl
@[go_sem] theorem ty.i54 : (Try.prog.info? 54).isSome = true := by kernel_rfl
@[go_sem] theorem ty.k55 : tk Try.prog 55 = .fn := by kernel_rfl
@[go_sem] theorem ty.z55 : zD Try.prog 55 = .v .nilFunc := by kernel_rfl
@[go_sem] theorem ty.c55 : Try.prog.cellsOf 55 = 1 := by kernel_rfl
@[go_sem] theorem ty.i55 : (Try.prog.info? 55).isSome = true := by kernel_rfl
@[go_sem] theorem ty.k56 : tk Try.prog 56 = .fn := by kernel_rfl
@[go_sem] theorem ty.z56 : zD Try.prog 56 = .v .nilFunc := by kernel_rfl
@[go_sem] theorem ty.c56 : Try.prog.cellsOf 56 = 1 := by kernel_rfl
@[go_sem] theorem ty.i56 : (Try.prog.info? 56).isSome = true := by kernel_rfl
@[go_sem] theorem ty.k58 : tk Try.prog 58 = .fn := by kernel_rfl
@[go_sem] theorem ty.z58 : zD Try.prog 58 = .v .nilFunc := by kernel_rfl
@[go_sem] theorem ty.c58 : Try.prog.cellsOf 58 = 1 := by kernel_rfl
@[go_sem] theorem ty.i58 : (Try.prog.info? 58).isSome = true := by kernel_rfl
@[go_sem] theorem ty.k59 : tk Try.prog 59 = .fn := by kernel_rfl
@[go_sem] theorem ty.z59 : zD Try.prog 59 = .v .nilFunc := by kernel_rfl
@[go_sem] theorem ty.c59 : Try.prog.cellsOf 59 = 1 := by kernel_rfl
@[go_sem] theorem ty.i59 : (Try.prog.info? 59).isSome = true := by kernel_rfl
@[go_sem] theorem ty.k60 : tk Try.prog 60 = .fn := by kernel_rfl
@[go_sem] theorem ty.z60 : zD Try.prog 60 = .v .nilFunc := by kernel_rfl
@[go_sem] theorem ty.c60 : Try.prog.cellsOf 60 = 1 := by kernel_rfl
@[go_sem] theorem ty.i60 : (Try.prog.info? 60).isSome = true := by kernel_rfl
@[go_sem] theorem ty.k61 : tk Try.prog 61 = .fn := by kernel_rfl
@[go_sem] theorem ty.z61 : zD Try.prog 61 = .v .nilFunc := by kernel_rfl
@[go_sem] theorem ty.c61 : Try.prog.cellsOf 61 = 1 := by kernel_rfl
@[go_sem] theorem ty.i61 : (Try.prog.info? 61).isSome = true := by kernel_rfl
@[go_sem] theorem ty.k62 : tk Try.prog 62 = .sl 3 1 8 true := by kernel_rfl
@[go_sem] theorem ty.e62 : elT Try.prog 62 = 3 := by kernel_rfl
@[go_sem] theorem ty.z62 : zD Try.prog 62 = .sl 0 true [] := by kernel_rfl
@[go_sem] theorem ty.c62 : Try.prog.cellsOf 62 = 1 := by kernel_rfl
@[go_sem] theorem ty.i62 : (Try.prog.info? 62).isSome = true := by kernel_rfl
@[go_sem] theorem ty.k63 : tk Try.prog 63 = .st [(0, 1, false), (1, 1, false)] 2 := by kernel_rfl
@[go_sem] theorem ty.z63 : zD Try.prog 63 = .agg [.v (.string ByteArray.empty), .sl 0 true []] := by kernel_rfl
@[go_sem] theorem ty.c63 : Try.prog.cellsOf 63 = 2 := by kernel_rfl
@[go_sem] theorem ty.i63 : (Try.prog.info? 63).isSome = true := by kernel_rfl
@[go_sem] theorem ty.k64 : tk Try.prog 64 = .st [(0, 1, false), (1, 1, false)] 2 := by kernel_rfl
@[go_sem] theorem ty.z64 : zD Try.prog 64 = .agg [.v (.string ByteArray.empty), .sl 0 true []] := by kernel_rfl
@[go_sem] theorem ty.c64 : Try.prog.cellsOf 64 = 2 := by kernel_rfl
@[go_sem] theorem ty.i64 : (Try.prog.info? 64).isSome = true := by kernel_rfl
@[go_sem] theorem ty.k65 : tk Try.prog 65 = .sl 50 3 40 true := by kernel_rfl
@[go_sem] theorem ty.e65 : elT Try.prog 65 = 50 := by kernel_rfl
@[go_sem] theorem ty.z65 : zD Try.prog 65 = .sl 0 true [] := by kernel_rfl
@[go_sem] theorem ty.c65 : Try.prog.cellsOf 65 = 1 := by kernel_rfl
@[go_sem] theorem ty.i65 : (Try.prog.info? 65).isSome = true := by kernel_rfl
@[go_sem] theorem ty.k66 : tk Try.prog 66 = .st [(0, 1, false), (1, 2, true), (3, 1, false)] 4 := by kernel_rfl
@[go_sem] theorem ty.z66 : zD Try.prog 66 = .agg [.v (.string ByteArray.empty), .v (.string ByteArray.empty), .sl 0 true [], .sl 0 true []] := by kernel_rfl
@[go_sem] theorem ty.c66 : Try.prog.cellsOf 66 = 4 := by kernel_rfl
@[go_sem] theorem ty.i66 : (Try.prog.info? 66).isSome = true := by kernel_rfl
@[go_sem] theorem ty.k67 : tk Try.prog 67 = .st [(0, 1, false), (1, 2, true), (3, 1, false)] 4 := by kernel_rfl
@[go_sem] theorem ty.z67 : zD Try.prog 67 = .agg [.v (.string ByteArray.empty), .v (.string ByteArray.empty), .sl 0 true [], .sl 0 true []] := by kernel_rfl
@[go_sem] theorem ty.c67 : Try.prog.cellsOf 67 = 4 := by kernel_rfl
@[go_sem] theorem ty.i67 : (Try.prog.info? 67).isSome = true := by kernel_rfl
@[go_sem] theorem ty.k68 : tk Try.prog 68 = .st [(0, 1, false), (1, 5, true)] 6 := by kernel_rfl
@[go_sem] theorem ty.z68 : zD Try.prog 68 = .agg [.v (.string ByteArray.empty), .v (.int .i64 0), .v (.bool false), .sl 0 true [], .sl 0 true [], .sl 0 true []] := by kernel_rfl
@[go_sem] theorem ty.c68 : Try.prog.cellsOf 68 = 6 := by kernel_rfl
@[go_sem] theorem ty.i68 : (Try.prog.info? 68).isSome = true := by kernel_rfl
@[go_sem] theorem ty.k69 : tk Try.prog 69 = .st [(0, 1, false), (1, 5, true)] 6 := by kernel_rfl
@[go_sem] theorem ty.z69 : zD Try.prog 69 = .agg [.v (.string ByteArray.empty), .v (.int .i64 0), .v (.bool false), .sl 0 true [], .sl 0 true [], .sl 0 true []] := by kernel_rfl
@[go_sem] theorem ty.c69 : Try.prog.cellsOf 69 = 6 := by kernel_rfl
@[go_sem] theorem ty.i69 : (Try.prog.info? 69).isSome = true := by kernel_rfl
@[go_sem] theorem ty.k70 : tk Try.prog 70 = .sl 75 4 32 true := by kernel_rfl
@[go_sem] theorem ty.e70 : elT Try.prog 70 = 75 := by kernel_rfl
@[go_sem] theorem ty.z70 : zD Try.prog 70 = .sl 0 true [] := by kernel_rfl
@[go_sem] theorem ty.c70 : Try.prog.cellsOf 70 = 1 := by kernel_rfl
@[go_sem] theorem ty.i70 : (Try.prog.info? 70).isSome = true := by kernel_rfl
@[go_sem] theorem ty.k71 : tk Try.prog 71 = .ptr 129 := by kernel_rfl
@[go_sem] theorem ty.z71 : zD Try.prog 71 = .v (.pointer none) := by kernel_rfl
@[go_sem] theorem ty.c71 : Try.prog.cellsOf 71 = 1 := by kernel_rfl
@[go_sem] theorem ty.i71 : (Try.prog.info? 71).isSome = true := by kernel_rfl
@[go_sem] theorem ty.k72 : tk Try.prog 72 = .fn := by kernel_rfl
@[go_sem] theorem ty.z72 : zD Try.prog 72 = .v .nilFunc := by kernel_rfl
@[go_sem] theorem ty.c72 : Try.prog.cellsOf 72 = 1 := by kernel_rfl
@[go_sem] theorem ty.i72 : (Try.prog.info? 72).isSome = true := by kernel_rfl
@[go_sem] theorem ty.k73 : tk Try.prog 73 = .sl 96 5 56 true := by kernel_rfl
@[go_sem] theorem ty.e73 : elT Try.prog 73 = 96 := by kernel_rfl
@[go_sem] theorem ty.z73 : zD Try.prog 73 = .sl 0 true [] := by kernel_rfl
@[go_sem] theorem ty.c73 : Try.prog.cellsOf 73 = 1 := by kernel_rfl
@[go_sem] theorem ty.i73 : (Try.prog.info? 73).isSome = true := by kernel_rfl
@[go_sem] theorem ty.k74 : tk Try.prog 74 = .st [(0, 1, false), (1, 1, false), (2, 1, false), (3, 1, false)] 4 := by kernel_rfl
@[go_sem] theorem ty.q74 : eqK Try.prog 74 = some [.int .i64, .int .i64, .int .i64, .int .i64] := by kernel_rfl
@[go_sem] theorem ty.z74 : zD Try.prog 74 = .agg [.v (.int .i64 0), .v (.int .i64 0), .v (.int .i64 0), .v (.int .i64 0)] := by kernel_rfl
@[go_sem] theorem ty.c74 : Try.prog.cellsOf 74 = 4 := by kernel_rfl
@[go_sem] theorem ty.i74 : (Try.prog.info? 74).isSome = true := by kernel_rfl
@[go_sem] theorem ty.k75 : tk Try.prog 75 = .st [(0, 1, false), (1, 1, false), (2, 1, false), (3, 1, false)] 4 := by kernel_rfl
@[go_sem] theorem ty.q75 : eqK Try.prog 75 = some [.int .i64, .int .i64, .int .i64, .int .i64] := by kernel_rfl
@[go_sem] theorem ty.z75 : zD Try.prog 75 = .agg [.v (.int .i64 0), .v (.int .i64 0), .v (.int .i64 0), .v (.int .i64 0)] := by kernel_rfl
@[go_sem] theorem ty.c75 : Try.prog.cellsOf 75 = 4 := by kernel_rfl
@[go_sem] theorem ty.i75 : (Try.prog.info? 75).isSome = true := by kernel_rfl
@[go_sem] theorem ty.k76 : tk Try.prog 76 = .st [(0, 1, false), (1, 1, false)] 2 := by kernel_rfl
@[go_sem] theorem ty.q76 : eqK Try.prog 76 = some [.int .i64, .int .i64] := by kernel_rfl
@[go_sem] theorem ty.z76 : zD Try.prog 76 = .agg [.v (.int .i64 0), .v (.int .i64 0)] := by kernel_rfl
@[go_sem] theorem ty.c76 : Try.prog.cellsOf 76 = 2 := by kernel_rfl
@[go_sem] theorem ty.i76 : (Try.prog.info? 76).isSome = true := by kernel_rfl
@[go_sem] theorem ty.k77 : tk Try.prog 77 = .st [(0, 1, false), (1, 1, false)] 2 := by kernel_rfl
@[go_sem] theorem ty.q77 : eqK Try.prog 77 = some [.int .i64, .int .i64] := by kernel_rfl
@[go_sem] theorem ty.z77 : zD Try.prog 77 = .agg [.v (.int .i64 0), .v (.int .i64 0)] := by kernel_rfl
@[go_sem] theorem ty.c77 : Try.prog.cellsOf 77 = 2 := by kernel_rfl
@[go_sem] theorem ty.i77 : (Try.prog.info? 77).isSome = true := by kernel_rfl
@[go_sem] theorem ty.k79 : tk Try.prog 79 = .fn := by kernel_rfl
@[go_sem] theorem ty.z79 : zD Try.prog 79 = .v .nilFunc := by kernel_rfl
@[go_sem] theorem ty.c79 : Try.prog.cellsOf 79 = 1 := by kernel_rfl
@[go_sem] theorem ty.i79 : (Try.prog.info? 79).isSome = true := by kernel_rfl
@[go_sem] theorem ty.k80 : tk Try.prog 80 = .fn := by kernel_rfl
@[go_sem] theorem ty.z80 : zD Try.prog 80 = .v .nilFunc := by kernel_rfl
@[go_sem] theorem ty.c80 : Try.prog.cellsOf 80 = 1 := by kernel_rfl
@[go_sem] theorem ty.i80 : (Try.prog.info? 80).isSome = true := by kernel_rfl
@[go_sem] theorem ty.k82 : tk Try.prog 82 = .fn := by kernel_rfl
@[go_sem] theorem ty.z82 : zD Try.prog 82 = .v .nilFunc := by kernel_rfl
@[go_sem] theorem ty.c82 : Try.prog.cellsOf 82 = 1 := by kernel_rfl
@[go_sem] theorem ty.i82 : (Try.prog.info? 82).isSome = true := by kernel_rfl
@[go_sem] theorem ty.k83 : tk Try.prog 83 = .fn := by kernel_rfl
@[go_sem] theorem ty.z83 : zD Try.prog 83 = .v .nilFunc := by kernel_rfl
@[go_sem] theorem ty.c83 : Try.prog.cellsOf 83 = 1 := by kernel_rfl
@[go_sem] theorem ty.i83 : (Try.prog.info? 83).isSome = true := by kernel_rfl
@[go_sem] theorem ty.k84 : tk Try.prog 84 = .fn := by kernel_rfl
@[go_sem] theorem ty.z84 : zD Try.prog 84 = .v .nilFunc := by kernel_rfl
@[go_sem] theorem ty.c84 : Try.prog.cellsOf 84 = 1 := by kernel_rfl
@[go_sem] theorem ty.i84 : (Try.prog.info? 84).isSome = true := by kernel_rfl
@[go_sem] theorem ty.k85 : tk Try.prog 85 = .fn := by kernel_rfl
@[go_sem] theorem ty.z85 : zD Try.prog 85 = .v .nilFunc := by kernel_rfl
@[go_sem] theorem ty.c85 : Try.prog.cellsOf 85 = 1 := by kernel_rfl
@[go_sem] theorem ty.i85 : (Try.prog.info? 85).isSome = true := by kernel_rfl
@[go_sem] theorem ty.k86 : tk Try.prog 86 = .fn := by kernel_rfl
@[go_sem] theorem ty.z86 : zD Try.prog 86 = .v .nilFunc := by kernel_rfl
@[go_sem] theorem ty.c86 : Try.prog.cellsOf 86 = 1 := by kernel_rfl
@[go_sem] theorem ty.i86 : (Try.prog.info? 86).isSome = true := by kernel_rfl
@[go_sem] theorem ty.k87 : tk Try.prog 87 = .fn := by kernel_rfl
@[go_sem] theorem ty.z87 : zD Try.prog 87 = .v .nilFunc := by kernel_rfl
@[go_sem] theorem ty.c87 : Try.prog.cellsOf 87 = 1 := by kernel_rfl
@[go_sem] theorem ty.i87 : (Try.prog.info? 87).isSome = true := by kernel_rfl
@[go_sem] theorem ty.k88 : tk Try.prog 88 = .sl 77 2 16 true := by kernel_rfl
@[go_sem] theorem ty.e88 : elT Try.prog 88 = 77 := by kernel_rfl
@[go_sem] theorem ty.z88 : zD Try.prog 88 = .sl 0 true [] := by kernel_rfl
@[go_sem] theorem ty.c88 : Try.prog.cellsOf 88 = 1 := by kernel_rfl
@[go_sem] theorem ty.i88 : (Try.prog.info? 88).isSome = true := by kernel_rfl
@[go_sem] theorem ty.k89 : tk Try.prog 89 = .fn := by kernel_rfl
@[go_sem] theorem ty.z89 : zD Try.prog 89 = .v .nilFunc := by kernel_rfl
@[go_sem] theorem ty.c89 : Try.prog.cellsOf 89 = 1 := by kernel_rfl
@[go_sem] theorem ty.i89 : (Try.prog.info? 89).isSome = true := by kernel_rfl
@[go_sem] theorem ty.k90 : tk Try.prog 90 = .fn := by kernel_rfl
@[go_sem] theorem ty.z90 : zD Try.prog 90 = .v .nilFunc := by kernel_rfl
@[go_sem] theorem ty.c90 : Try.prog.cellsOf 90 = 1 := by kernel_rfl
@[go_sem] theorem ty.i90 : (Try.prog.info? 90).isSome = true := by kernel_rfl
@[go_sem] theorem ty.k91 : tk Try.prog 91 = .fn := by kernel_rfl
@[go_sem] theorem ty.z91 : zD Try.prog 91 = .v .nilFunc := by kernel_rfl
@[go_sem] theorem ty.c91 : Try.prog.cellsOf 91 = 1 := by kernel_rfl
@[go_sem] theorem ty.i91 : (Try.prog.info? 91).isSome = true := by kernel_rfl
@[go_sem] theorem ty.k92 : tk Try.prog 92 = .fn := by kernel_rfl
@[go_sem] theorem ty.z92 : zD Try.prog 92 = .v .nilFunc := by kernel_rfl
@[go_sem] theorem ty.c92 : Try.prog.cellsOf 92 = 1 := by kernel_rfl
@[go_sem] theorem ty.i92 : (Try.prog.info? 92).isSome = true := by kernel_rfl
@[go_sem] theorem ty.k93 : tk Try.prog 93 = .fn := by kernel_rfl
@[go_sem] theorem ty.z93 : zD Try.prog 93 = .v .nilFunc := by kernel_rfl
@[go_sem] theorem ty.c93 : Try.prog.cellsOf 93 = 1 := by kernel_rfl
@[go_sem] theorem ty.i93 : (Try.prog.info? 93).isSome = true := by kernel_rfl
@[go_sem] theorem ty.k94 : tk Try.prog 94 = .fn := by kernel_rfl
@[go_sem] theorem ty.z94 : zD Try.prog 94 = .v .nilFunc := by kernel_rfl
@[go_sem] theorem ty.c94 : Try.prog.cellsOf 94 = 1 := by kernel_rfl
@[go_sem] theorem ty.i94 : (Try.prog.info? 94).isSome = true := by kernel_rfl
@[go_sem] theorem ty.k95 : tk Try.prog 95 = .st [(0, 1, false), (1, 1, false), (2, 1, false), (3, 1, false), (4, 1, false)] 5 := by kernel_rfl
@[go_sem] theorem ty.z95 : zD Try.prog 95 = .agg [.v (.int .i64 0), .v (.int .i64 0), .sl 0 true [], .v (.int .i64 0), .v (.bool false)] := by kernel_rfl
@[go_sem] theorem ty.c95 : Try.prog.cellsOf 95 = 5 := by kernel_rfl
@[go_sem] theorem ty.i95 : (Try.prog.info? 95).isSome = true := by kernel_rfl
@[go_sem] theorem ty.k96 : tk Try.prog 96 = .st [(0, 1, false), (1, 1, false), (2, 1, false), (3, 1, false), (4, 1, false)] 5 := by kernel_rfl
@[go_sem] theorem ty.z96 : zD Try.prog 96 = .agg [.v (.int .i64 0), .v (.int .i64 0), .sl 0 true [], .v (.int .i64 0), .v (.bool false)] := by kernel_rfl
@[go_sem] theorem ty.c96 : Try.prog.cellsOf 96 = 5 := by kernel_rfl
@[go_sem] theorem ty.i96 : (Try.prog.info? 96).isSome = true := by kernel_rfl
@[go_sem] theorem ty.k97 : tk Try.prog 97 = .fn := by kernel_rfl
@[go_sem] theorem ty.z97 : zD Try.prog 97 = .v .nilFunc := by kernel_rfl
@[go_sem] theorem ty.c97 : Try.prog.cellsOf 97 = 1 := by kernel_rfl
@[go_sem] theorem ty.i97 : (Try.prog.info? 97).isSome = true := by kernel_rfl
@[go_sem] theorem ty.k98 : tk Try.prog 98 = .fn := by kernel_rfl
@[go_sem] theorem ty.z98 : zD Try.prog 98 = .v .nilFunc := by kernel_rfl
@[go_sem] theorem ty.c98 : Try.prog.cellsOf 98 = 1 := by kernel_rfl
@[go_sem] theorem ty.i98 : (Try.prog.info? 98).isSome = true := by kernel_rfl
@[go_sem] theorem ty.k99 : tk Try.prog 99 = .fn := by kernel_rfl
@[go_sem] theorem ty.z99 : zD Try.prog 99 = .v .nilFunc := by kernel_rfl
@[go_sem] theorem ty.c99 : Try.prog.cellsOf 99 = 1 := by kernel_rfl
@[go_sem] theorem ty.i99 : (Try.prog.info? 99).isSome = true := by kernel_rfl
@[go_sem] theorem ty.k101 : tk Try.prog 101 = .fn := by kernel_rfl
@[go_sem] theorem ty.z101 : zD Try.prog 101 = .v .nilFunc := by kernel_rfl
@[go_sem] theorem ty.c101 : Try.prog.cellsOf 101 = 1 := by kernel_rfl
@[go_sem] theorem ty.i101 : (Try.prog.info? 101).isSome = true := by kernel_rfl
@[go_sem] theorem ty.k102 : tk Try.prog 102 = .fn := by kernel_rfl
@[go_sem] theorem ty.z102 : zD Try.prog 102 = .v .nilFunc := by kernel_rfl
@[go_sem] theorem ty.c102 : Try.prog.cellsOf 102 = 1 := by kernel_rfl
@[go_sem] theorem ty.i102 : (Try.prog.info? 102).isSome = true := by kernel_rfl
@[go_sem] theorem ty.k103 : tk Try.prog 103 = .fn := by kernel_rfl
@[go_sem] theorem ty.z103 : zD Try.prog 103 = .v .nilFunc := by kernel_rfl
@[go_sem] theorem ty.c103 : Try.prog.cellsOf 103 = 1 := by kernel_rfl
@[go_sem] theorem ty.i103 : (Try.prog.info? 103).isSome = true := by kernel_rfl
@[go_sem] theorem ty.k104 : tk Try.prog 104 = .fn := by kernel_rfl
@[go_sem] theorem ty.z104 : zD Try.prog 104 = .v .nilFunc := by kernel_rfl
@[go_sem] theorem ty.c104 : Try.prog.cellsOf 104 = 1 := by kernel_rfl
@[go_sem] theorem ty.i104 : (Try.prog.info? 104).isSome = true := by kernel_rfl
@[go_sem] theorem ty.k105 : tk Try.prog 105 = .fn := by kernel_rfl
@[go_sem] theorem ty.z105 : zD Try.prog 105 = .v .nilFunc := by kernel_rfl
@[go_sem] theorem ty.c105 : Try.prog.cellsOf 105 = 1 := by kernel_rfl
@[go_sem] theorem ty.i105 : (Try.prog.info? 105).isSome = true := by kernel_rfl
@[go_sem] theorem ty.k106 : tk Try.prog 106 = .fn := by kernel_rfl
@[go_sem] theorem ty.z106 : zD Try.prog 106 = .v .nilFunc := by kernel_rfl
@[go_sem] theorem ty.c106 : Try.prog.cellsOf 106 = 1 := by kernel_rfl
@[go_sem] theorem ty.i106 : (Try.prog.info? 106).isSome = true := by kernel_rfl
@[go_sem] theorem ty.k108 : tk Try.prog 108 = .fn := by kernel_rfl
@[go_sem] theorem ty.z108 : zD Try.prog 108 = .v .nilFunc := by kernel_rfl
@[go_sem] theorem ty.c108 : Try.prog.cellsOf 108 = 1 := by kernel_rfl
@[go_sem] theorem ty.i108 : (Try.prog.info? 108).isSome = true := by kernel_rfl
@[go_sem] theorem ty.k109 : tk Try.prog 109 = .fn := by kernel_rfl
@[go_sem] theorem ty.z109 : zD Try.prog 109 = .v .nilFunc := by kernel_rfl
@[go_sem] theorem ty.c109 : Try.prog.cellsOf 109 = 1 := by kernel_rfl
@[go_sem] theorem ty.i109 : (Try.prog.info? 109).isSome = true := by kernel_rfl
@[go_sem] theorem ty.k110 : tk Try.prog 110 = .fn := by kernel_rfl
@[go_sem] theorem ty.z110 : zD Try.prog 110 = .v .nilFunc := by kernel_rfl
@[go_sem] theorem ty.c110 : Try.prog.cellsOf 110 = 1 := by kernel_rfl
@[go_sem] theorem ty.i110 : (Try.prog.info? 110).isSome = true := by kernel_rfl
@[go_sem] theorem ty.k111 : tk Try.prog 111 = .fn := by kernel_rfl
@[go_sem] theorem ty.z111 : zD Try.prog 111 = .v .nilFunc := by kernel_rfl
@[go_sem] theorem ty.c111 : Try.prog.cellsOf 111 = 1 := by kernel_rfl
@[go_sem] theorem ty.i111 : (Try.prog.info? 111).isSome = true := by kernel_rfl
@[go_sem] theorem ty.k112 : tk Try.prog 112 = .sl 5 1 1 true := by kernel_rfl
@[go_sem] theorem ty.e112 : elT Try.prog 112 = 5 := by kernel_rfl
@[go_sem] theorem ty.z112 : zD Try.prog 112 = .sl 0 true [] := by kernel_rfl
@[go_sem] theorem ty.c112 : Try.prog.cellsOf 112 = 1 := by kernel_rfl
@[go_sem] theorem ty.i112 : (Try.prog.info? 112).isSome = true := by kernel_rfl
@[go_sem] theorem ty.k113 : tk Try.prog 113 = .ptr 165 := by kernel_rfl
@[go_sem] theorem ty.z113 : zD Try.prog 113 = .v (.pointer none) := by kernel_rfl
@[go_sem] theorem ty.c113 : Try.prog.cellsOf 113 = 1 := by kernel_rfl
@[go_sem] theorem ty.i113 : (Try.prog.info? 113).isSome = true := by kernel_rfl
@[go_sem] theorem ty.k114 : tk Try.prog 114 = .fn := by kernel_rfl
@[go_sem] theorem ty.z114 : zD Try.prog 114 = .v .nilFunc := by kernel_rfl
@[go_sem] theorem ty.c114 : Try.prog.cellsOf 114 = 1 := by kernel_rfl
@[go_sem] theorem ty.i114 : (Try.prog.info? 114).isSome = true := by kernel_rfl
@[go_sem] theorem ty.k116 : tk Try.prog 116 = .fn := by kernel_rfl
@[go_sem] theorem ty.z116 : zD Try.prog 116 = .v .nilFunc := by kernel_rfl
@[go_sem] theorem ty.c116 : Try.prog.cellsOf 116 = 1 := by kernel_rfl
@[go_sem] theorem ty.i116 : (Try.prog.info? 116).isSome = true := by kernel_rfl
@[go_sem] theorem ty.k117 : tk Try.prog 117 = .st [(0, 1, false), (1, 3, true)] 4 := by kernel_rfl
@[go_sem] theorem ty.z117 : zD Try.prog 117 = .agg [.v (.string ByteArray.empty), .v (.int .i64 0), .v (.bool false), .sl 0 true []] := by kernel_rfl
@[go_sem] theorem ty.c117 : Try.prog.cellsOf 117 = 4 := by kernel_rfl
@[go_sem] theorem ty.i117 : (Try.prog.info? 117).isSome = true := by kernel_rfl
@[go_sem] theorem ty.k118 : tk Try.prog 118 = .st [(0, 1, false), (1, 3, true)] 4 := by kernel_rfl
@[go_sem] theorem ty.z118 : zD Try.prog 118 = .agg [.v (.string ByteArray.empty), .v (.int .i64 0), .v (.bool false), .sl 0 true []] := by kernel_rfl
@[go_sem] theorem ty.c118 : Try.prog.cellsOf 118 = 4 := by kernel_rfl
@[go_sem] theorem ty.i118 : (Try.prog.info? 118).isSome = true := by kernel_rfl
@[go_sem] theorem ty.k119 : tk Try.prog 119 = .fn := by kernel_rfl
@[go_sem] theorem ty.z119 : zD Try.prog 119 = .v .nilFunc := by kernel_rfl
@[go_sem] theorem ty.c119 : Try.prog.cellsOf 119 = 1 := by kernel_rfl
@[go_sem] theorem ty.i119 : (Try.prog.info? 119).isSome = true := by kernel_rfl
@[go_sem] theorem ty.k121 : tk Try.prog 121 = .fn := by kernel_rfl
@[go_sem] theorem ty.z121 : zD Try.prog 121 = .v .nilFunc := by kernel_rfl
@[go_sem] theorem ty.c121 : Try.prog.cellsOf 121 = 1 := by kernel_rfl
@[go_sem] theorem ty.i121 : (Try.prog.info? 121).isSome = true := by kernel_rfl
@[go_sem] theorem ty.k122 : tk Try.prog 122 = .st [(0, 1, false), (1, 1, false)] 2 := by kernel_rfl
@[go_sem] theorem ty.z122 : zD Try.prog 122 = .agg [.v (.string ByteArray.empty), .sl 0 true []] := by kernel_rfl
@[go_sem] theorem ty.c122 : Try.prog.cellsOf 122 = 2 := by kernel_rfl
@[go_sem] theorem ty.i122 : (Try.prog.info? 122).isSome = true := by kernel_rfl
@[go_sem] theorem ty.k123 : tk Try.prog 123 = .fn := by kernel_rfl
@[go_sem] theorem ty.z123 : zD Try.prog 123 = .v .nilFunc := by kernel_rfl
@[go_sem] theorem ty.c123 : Try.prog.cellsOf 123 = 1 := by kernel_rfl
@[go_sem] theorem ty.i123 : (Try.prog.info? 123).isSome = true := by kernel_rfl
@[go_sem] theorem ty.k124 : tk Try.prog 124 = .st [(0, 1, false), (1, 1, false)] 2 := by kernel_rfl
@[go_sem] theorem ty.q124 : eqK Try.prog 124 = some [.str, .str] := by kernel_rfl
@[go_sem] theorem ty.z124 : zD Try.prog 124 = .agg [.v (.string ByteArray.empty), .v (.string ByteArray.empty)] := by kernel_rfl
@[go_sem] theorem ty.c124 : Try.prog.cellsOf 124 = 2 := by kernel_rfl
@[go_sem] theorem ty.i124 : (Try.prog.info? 124).isSome = true := by kernel_rfl
@[go_sem] theorem ty.k125 : tk Try.prog 125 = .st [(0, 1, false), (1, 1, false)] 2 := by kernel_rfl
@[go_sem] theorem ty.q125 : eqK Try.prog 125 = some [.str, .str] := by kernel_rfl
@[go_sem] theorem ty.z125 : zD Try.prog 125 = .agg [.v (.string ByteArray.empty), .v (.string ByteArray.empty)] := by kernel_rfl
@[go_sem] theorem ty.c125 : Try.prog.cellsOf 125 = 2 := by kernel_rfl
@[go_sem] theorem ty.i125 : (Try.prog.info? 125).isSome = true := by kernel_rfl
@[go_sem] theorem ty.k126 : tk Try.prog 126 = .map 3 3 := by kernel_rfl
@[go_sem] theorem ty.z126 : zD Try.prog 126 = .v (.map none) := by kernel_rfl
@[go_sem] theorem ty.c126 : Try.prog.cellsOf 126 = 1 := by kernel_rfl
@[go_sem] theorem ty.i126 : (Try.prog.info? 126).isSome = true := by kernel_rfl
@[go_sem] theorem ty.k127 : tk Try.prog 127 = .map 77 130 := by kernel_rfl
@[go_sem] theorem ty.z127 : zD Try.prog 127 = .v (.map none) := by kernel_rfl
@[go_sem] theorem ty.c127 : Try.prog.cellsOf 127 = 1 := by kernel_rfl
@[go_sem] theorem ty.i127 : (Try.prog.info? 127).isSome = true := by kernel_rfl
@[go_sem] theorem ty.k128 : tk Try.prog 128 = .st [(0, 1, false), (1, 1, false)] 2 := by kernel_rfl
@[go_sem] theorem ty.z128 : zD Try.prog 128 = .agg [.v (.map none), .v (.map none)] := by kernel_rfl
@[go_sem] theorem ty.c128 : Try.prog.cellsOf 128 = 2 := by kernel_rfl
@[go_sem] theorem ty.i128 : (Try.prog.info? 128).isSome = true := by kernel_rfl
@[go_sem] theorem ty.k129 : tk Try.prog 129 = .st [(0, 1, false), (1, 1, false)] 2 := by kernel_rfl
@[go_sem] theorem ty.z129 : zD Try.prog 129 = .agg [.v (.map none), .v (.map none)] := by kernel_rfl
@[go_sem] theorem ty.c129 : Try.prog.cellsOf 129 = 2 := by kernel_rfl
@[go_sem] theorem ty.i129 : (Try.prog.info? 129).isSome = true := by kernel_rfl
@[go_sem] theorem ty.k130 : tk Try.prog 130 = .ptr 132 := by kernel_rfl
@[go_sem] theorem ty.z130 : zD Try.prog 130 = .v (.pointer none) := by kernel_rfl
@[go_sem] theorem ty.c130 : Try.prog.cellsOf 130 = 1 := by kernel_rfl
@[go_sem] theorem ty.i130 : (Try.prog.info? 130).isSome = true := by kernel_rfl
@[go_sem] theorem ty.k131 : tk Try.prog 131 = .st [(0, 1, false), (1, 1, false)] 2 := by kernel_rfl
@[go_sem] theorem ty.z131 : zD Try.prog 131 = .agg [.v (.int .i64 0), .v (.map none)] := by kernel_rfl
@[go_sem] theorem ty.c131 : Try.prog.cellsOf 131 = 2 := by kernel_rfl
@[go_sem] theorem ty.i131 : (Try.prog.info? 131).isSome = true := by kernel_rfl
@[go_sem] theorem ty.k132 : tk Try.prog 132 = .st [(0, 1, false), (1, 1, false)] 2 := by kernel_rfl
@[go_sem] theorem ty.z132 : zD Try.prog 132 = .agg [.v (.int .i64 0), .v (.map none)] := by kernel_rfl
@[go_sem] theorem ty.c132 : Try.prog.cellsOf 132 = 2 := by kernel_rfl
@[go_sem] theorem ty.i132 : (Try.prog.info? 132).isSome = true := by kernel_rfl
@[go_sem] theorem ty.k133 : tk Try.prog 133 = .fn := by kernel_rfl
@[go_sem] theorem ty.z133 : zD Try.prog 133 = .v .nilFunc := by kernel_rfl
@[go_sem] theorem ty.c133 : Try.prog.cellsOf 133 = 1 := by kernel_rfl
@[go_sem] theorem ty.i133 : (Try.prog.info? 133).isSome = true := by kernel_rfl
@[go_sem] theorem ty.k134 : tk Try.prog 134 = .fn := by kernel_rfl
@[go_sem] theorem ty.z134 : zD Try.prog 134 = .v .nilFunc := by kernel_rfl
@[go_sem] theorem ty.c134 : Try.prog.cellsOf 134 = 1 := by kernel_rfl
@[go_sem] theorem ty.i134 : (Try.prog.info? 134).isSome = true := by kernel_rfl
@[go_sem] theorem ty.k135 : tk Try.prog 135 = .fn := by kernel_rfl
@[go_sem] theorem ty.z135 : zD Try.prog 135 = .v .nilFunc := by kernel_rfl
@[go_sem] theorem ty.c135 : Try.prog.cellsOf 135 = 1 := by kernel_rfl
@[go_sem] theorem ty.i135 : (Try.prog.info? 135).isSome = true := by kernel_rfl
@[go_sem] theorem ty.k136 : tk Try.prog 136 = .fn := by kernel_rfl
@[go_sem] theorem ty.z136 : zD Try.prog 136 = .v .nilFunc := by kernel_rfl
@[go_sem] theorem ty.c136 : Try.prog.cellsOf 136 = 1 := by kernel_rfl
@[go_sem] theorem ty.i136 : (Try.prog.info? 136).isSome = true := by kernel_rfl
@[go_sem] theorem ty.k137 : tk Try.prog 137 = .fn := by kernel_rfl
@[go_sem] theorem ty.z137 : zD Try.prog 137 = .v .nilFunc := by kernel_rfl
@[go_sem] theorem ty.c137 : Try.prog.cellsOf 137 = 1 := by kernel_rfl
@[go_sem] theorem ty.i137 : (Try.prog.info? 137).isSome = true := by kernel_rfl
@[go_sem] theorem ty.k138 : tk Try.prog 138 = .fn := by kernel_rfl
@[go_sem] theorem ty.z138 : zD Try.prog 138 = .v .nilFunc := by kernel_rfl
@[go_sem] theorem ty.c138 : Try.prog.cellsOf 138 = 1 := by kernel_rfl
@[go_sem] theorem ty.i138 : (Try.prog.info? 138).isSome = true := by kernel_rfl
@[go_sem] theorem ty.k139 : tk Try.prog 139 = .fn := by kernel_rfl
@[go_sem] theorem ty.z139 : zD Try.prog 139 = .v .nilFunc := by kernel_rfl
@[go_sem] theorem ty.c139 : Try.prog.cellsOf 139 = 1 := by kernel_rfl
@[go_sem] theorem ty.i139 : (Try.prog.info? 139).isSome = true := by kernel_rfl
@[go_sem] theorem ty.k140 : tk Try.prog 140 = .fn := by kernel_rfl
@[go_sem] theorem ty.z140 : zD Try.prog 140 = .v .nilFunc := by kernel_rfl
@[go_sem] theorem ty.c140 : Try.prog.cellsOf 140 = 1 := by kernel_rfl
@[go_sem] theorem ty.i140 : (Try.prog.info? 140).isSome = true := by kernel_rfl
@[go_sem] theorem ty.k141 : tk Try.prog 141 = .fn := by kernel_rfl
@[go_sem] theorem ty.z141 : zD Try.prog 141 = .v .nilFunc := by kernel_rfl
@[go_sem] theorem ty.c141 : Try.prog.cellsOf 141 = 1 := by kernel_rfl
@[go_sem] theorem ty.i141 : (Try.prog.info? 141).isSome = true := by kernel_rfl
@[go_sem] theorem ty.k142 : tk Try.prog 142 = .fn := by kernel_rfl
@[go_sem] theorem ty.z142 : zD Try.prog 142 = .v .nilFunc := by kernel_rfl
@[go_sem] theorem ty.c142 : Try.prog.cellsOf 142 = 1 := by kernel_rfl
@[go_sem] theorem ty.i142 : (Try.prog.info? 142).isSome = true := by kernel_rfl
@[go_sem] theorem ty.k143 : tk Try.prog 143 = .fn := by kernel_rfl
@[go_sem] theorem ty.z143 : zD Try.prog 143 = .v .nilFunc := by kernel_rfl
@[go_sem] theorem ty.c143 : Try.prog.cellsOf 143 = 1 := by kernel_rfl
@[go_sem] theorem ty.i143 : (Try.prog.info? 143).isSome = true := by kernel_rfl
@[go_sem] theorem ty.k144 : tk Try.prog 144 = .fn := by kernel_rfl
@[go_sem] theorem ty.z144 : zD Try.prog 144 = .v .nilFunc := by kernel_rfl
@[go_sem] theorem ty.c144 : Try.prog.cellsOf 144 = 1 := by kernel_rfl
@[go_sem] theorem ty.i144 : (Try.prog.info? 144).isSome = true := by kernel_rfl
@[go_sem] theorem ty.k145 : tk Try.prog 145 = .fn := by kernel_rfl
@[go_sem] theorem ty.z145 : zD Try.prog 145 = .v .nilFunc := by kernel_rfl
@[go_sem] theorem ty.c145 : Try.prog.cellsOf 145 = 1 := by kernel_rfl
@[go_sem] theorem ty.i145 : (Try.prog.info? 145).isSome = true := by kernel_rfl
@[go_sem] theorem ty.k146 : tk Try.prog 146 = .fn := by kernel_rfl
@[go_sem] theorem ty.z146 : zD Try.prog 146 = .v .nilFunc := by kernel_rfl
@[go_sem] theorem ty.c146 : Try.prog.cellsOf 146 = 1 := by kernel_rfl
@[go_sem] theorem ty.i146 : (Try.prog.info? 146).isSome = true := by kernel_rfl
@[go_sem] theorem ty.k147 : tk Try.prog 147 = .fn := by kernel_rfl
@[go_sem] theorem ty.z147 : zD Try.prog 147 = .v .nilFunc := by kernel_rfl
@[go_sem] theorem ty.c147 : Try.prog.cellsOf 147 = 1 := by kernel_rfl
@[go_sem] theorem ty.i147 : (Try.prog.info? 147).isSome = true := by kernel_rfl
@[go_sem] theorem ty.k148 : tk Try.prog 148 = .fn := by kernel_rfl
@[go_sem] theorem ty.z148 : zD Try.prog 148 = .v .nilFunc := by kernel_rfl
@[go_sem] theorem ty.c148 : Try.prog.cellsOf 148 = 1 := by kernel_rfl
@[go_sem] theorem ty.i148 : (Try.prog.info? 148).isSome = true := by kernel_rfl
@[go_sem] theorem ty.k149 : tk Try.prog 149 = .fn := by kernel_rfl
@[go_sem] theorem ty.z149 : zD Try.prog 149 = .v .nilFunc := by kernel_rfl
@[go_sem] theorem ty.c149 : Try.prog.cellsOf 149 = 1 := by kernel_rfl
@[go_sem] theorem ty.i149 : (Try.prog.info? 149).isSome = true := by kernel_rfl
@[go_sem] theorem ty.k150 : tk Try.prog 150 = .fn := by kernel_rfl
@[go_sem] theorem ty.z150 : zD Try.prog 150 = .v .nilFunc := by kernel_rfl
@[go_sem] theorem ty.c150 : Try.prog.cellsOf 150 = 1 := by kernel_rfl
@[go_sem] theorem ty.i150 : (Try.prog.info? 150).isSome = true := by kernel_rfl
@[go_sem] theorem ty.k151 : tk Try.prog 151 = .fn := by kernel_rfl
@[go_sem] theorem ty.z151 : zD Try.prog 151 = .v .nilFunc := by kernel_rfl
@[go_sem] theorem ty.c151 : Try.prog.cellsOf 151 = 1 := by kernel_rfl
@[go_sem] theorem ty.i151 : (Try.prog.info? 151).isSome = true := by kernel_rfl
@[go_sem] theorem ty.k152 : tk Try.prog 152 = .fn := by kernel_rfl
@[go_sem] theorem ty.z152 : zD Try.prog 152 = .v .nilFunc := by kernel_rfl
@[go_sem] theorem ty.c152 : Try.prog.cellsOf 152 = 1 := by kernel_rfl
@[go_sem] theorem ty.i152 : (Try.prog.info? 152).isSome = true := by kernel_rfl
@[go_sem] theorem ty.k153 : tk Try.prog 153 = .int .u64 := by kernel_rfl
@[go_sem] theorem ty.z153 : zD Try.prog 153 = .v (.int .u64 0) := by kernel_rfl
@[go_sem] theorem ty.c153 : Try.prog.cellsOf 153 = 1 := by kernel_rfl
@[go_sem] theorem ty.i153 : (Try.prog.info? 153).isSome = true := by kernel_rfl
@[go_sem] theorem ty.k154 : tk Try.prog 154 = .fn := by kernel_rfl
@[go_sem] theorem ty.z154 : zD Try.prog 154 = .v .nilFunc := by kernel_rfl
@[go_sem] theorem ty.c154 : Try.prog.cellsOf 154 = 1 := by kernel_rfl
@[go_sem] theorem ty.i154 : (Try.prog.info? 154).isSome = true := by kernel_rfl
@[go_sem] theorem ty.k155 : tk Try.prog 155 = .fn := by kernel_rfl
@[go_sem] theorem ty.z155 : zD Try.prog 155 = .v .nilFunc := by kernel_rfl
@[go_sem] theorem ty.c155 : Try.prog.cellsOf 155 = 1 := by kernel_rfl
@[go_sem] theorem ty.i155 : (Try.prog.info? 155).isSome = true := by kernel_rfl
@[go_sem] theorem ty.k156 : tk Try.prog 156 = .fn := by kernel_rfl
@[go_sem] theorem ty.z156 : zD Try.prog 156 = .v .nilFunc := by kernel_rfl
@[go_sem] theorem ty.c156 : Try.prog.cellsOf 156 = 1 := by kernel_rfl
@[go_sem] theorem ty.i156 : (Try.prog.info? 156).isSome = true := by kernel_rfl
@[go_sem] theorem ty.k157 : tk Try.prog 157 = .fn := by kernel_rfl
@[go_sem] theorem ty.z157 : zD Try.prog 157 = .v .nilFunc := by kernel_rfl
@[go_sem] theorem ty.c157 : Try.prog.cellsOf 157 = 1 := by kernel_rfl
@[go_sem] theorem ty.i157 : (Try.prog.info? 157).isSome = true := by kernel_rfl
@[go_sem] theorem ty.k158 : tk Try.prog 158 = .fn := by kernel_rfl
@[go_sem] theorem ty.z158 : zD Try.prog 158 = .v .nilFunc := by kernel_rfl
@[go_sem] theorem ty.c158 : Try.prog.cellsOf 158 = 1 := by kernel_rfl
@[go_sem] theorem ty.i158 : (Try.prog.info? 158).isSome = true := by kernel_rfl
@[go_sem] theorem ty.k159 : tk Try.prog 159 = .fn := by kernel_rfl
@[go_sem] theorem ty.z159 : zD Try.prog 159 = .v .nilFunc := by kernel_rfl
@[go_sem] theorem ty.c159 : Try.prog.cellsOf 159 = 1 := by kernel_rfl
@[go_sem] theorem ty.i159 : (Try.prog.info? 159).isSome = true := by kernel_rfl
@[go_sem] theorem ty.k160 : tk Try.prog 160 = .fn := by kernel_rfl
@[go_sem] theorem ty.z160 : zD Try.prog 160 = .v .nilFunc := by kernel_rfl
@[go_sem] theorem ty.c160 : Try.prog.cellsOf 160 = 1 := by kernel_rfl
@[go_sem] theorem ty.i160 : (Try.prog.info? 160).isSome = true := by kernel_rfl
@[go_sem] theorem ty.k161 : tk Try.prog 161 = .fn := by kernel_rfl
@[go_sem] theorem ty.z161 : zD Try.prog 161 = .v .nilFunc := by kernel_rfl
@[go_sem] theorem ty.c161 : Try.prog.cellsOf 161 = 1 := by kernel_rfl
@[go_sem] theorem ty.i161 : (Try.prog.info? 161).isSome = true := by kernel_rfl
@[go_sem] theorem ty.k163 : tk Try.prog 163 = .sl 167 6 96 true := by kernel_rfl
@[go_sem] theorem ty.e163 : elT Try.prog 163 = 167 := by kernel_rfl
@[go_sem] theorem ty.z163 : zD Try.prog 163 = .sl 0 true [] := by kernel_rfl
@[go_sem] theorem ty.c163 : Try.prog.cellsOf 163 = 1 := by kernel_rfl
@[go_sem] theorem ty.i163 : (Try.prog.info? 163).isSome = true := by kernel_rfl
@[go_sem] theorem ty.k164 : tk Try.prog 164 = .st [(0, 1, false)] 1 := by kernel_rfl
@[go_sem] theorem ty.z164 : zD Try.prog 164 = .agg [.sl 0 true []] := by kernel_rfl
@[go_sem] theorem ty.c164 : Try.prog.cellsOf 164 = 1 := by kernel_rfl
@[go_sem] theorem ty.i164 : (Try.prog.info? 164).isSome = true := by kernel_rfl
@[go_sem] theorem ty.k165 : tk Try.prog 165 = .st [(0, 1, false)] 1 := by kernel_rfl
@[go_sem] theorem ty.z165 : zD Try.prog 165 = .agg [.sl 0 true []] := by kernel_rfl
@[go_sem] theorem ty.c165 : Try.prog.cellsOf 165 = 1 := by kernel_rfl
@[go_sem] theorem ty.i165 : (Try.prog.info? 165).isSome = true := by kernel_rfl
@[go_sem] theorem ty.k166 : tk Try.prog 166 = .st [(0, 5, true), (5, 1, false)] 6 := by kernel_rfl
@[go_sem] theorem ty.z166 : zD Try.prog 166 = .agg [.v (.int .i64 0), .v (.bool false), .sl 0 true [], .sl 0 true [], .sl 0 true [], .v (.int .i64 0)] := by kernel_rfl
@[go_sem] theorem ty.c166 : Try.prog.cellsOf 166 = 6 := by kernel_rfl
@[go_sem] theorem ty.i166 : (Try.prog.info? 166).isSome = true := by kernel_rfl
@[go_sem] theorem ty.k167 : tk Try.prog 167 = .st [(0, 5, true), (5, 1, false)] 6 := by kernel_rfl
@[go_sem] theorem ty.z167 : zD Try.prog 167 = .agg [.v (.int .i64 0), .v (.bool false), .sl 0 true [], .sl 0 true [], .sl 0 true [], .v (.int .i64 0)] := by kernel_rfl
@[go_sem] theorem ty.c167 : Try.prog.cellsOf 167 = 6 := by kernel_rfl
@[go_sem] theorem ty.i167 : (Try.prog.info? 167).isSome = true := by kernel_rfl
@[go_sem] theorem ty.k168 : tk Try.prog 168 = .fn := by kernel_rfl
@[go_sem] theorem ty.z168 : zD Try.prog 168 = .v .nilFunc := by kernel_rfl
@[go_sem] theorem ty.c168 : Try.prog.cellsOf 168 = 1 := by kernel_rfl
@[go_sem] theorem ty.i168 : (Try.prog.info? 168).isSome = true := by kernel_rfl
@[go_sem] theorem ty.k169 : tk Try.prog 169 = .fn := by kernel_rfl
@[go_sem] theorem ty.z169 : zD Try.prog 169 = .v .nilFunc := by kernel_rfl
@[go_sem] theorem ty.c169 : Try.prog.cellsOf 169 = 1 := by kernel_rfl
@[go_sem] theorem ty.i169 : (Try.prog.info? 169).isSome = true := by kernel_rfl
@[go_sem] theorem ty.k170 : tk Try.prog 170 = .ptr 167 := by kernel_rfl
@[go_sem] theorem ty.z170 : zD Try.prog 170 = .v (.pointer none) := by kernel_rfl
@[go_sem] theorem ty.c170 : Try.prog.cellsOf 170 = 1 := by kernel_rfl
@[go_sem] theorem ty.i170 : (Try.prog.info? 170).isSome = true := by kernel_rfl
@[go_sem] theorem ty.k171 : tk Try.prog 171 = .fn := by kernel_rfl
@[go_sem] theorem ty.z171 : zD Try.prog 171 = .v .nilFunc := by kernel_rfl
@[go_sem] theorem ty.c171 : Try.prog.cellsOf 171 = 1 := by kernel_rfl
@[go_sem] theorem ty.i171 : (Try.prog.info? 171).isSome = true := by kernel_rfl
@[go_sem] theorem ty.k172 : tk Try.prog 172 = .fn := by kernel_rfl
@[go_sem] theorem ty.z172 : zD Try.prog 172 = .v .nilFunc := by kernel_rfl
@[go_sem] theorem ty.c172 : Try.prog.cellsOf 172 = 1 := by kernel_rfl
@[go_sem] theorem ty.i172 : (Try.prog.info? 172).isSome = true := by kernel_rfl
@[go_sem] theorem ty.k173 : tk Try.prog 173 = .fn := by kernel_rfl
@[go_sem] theorem ty.z173 : zD Try.prog 173 = .v .nilFunc := by kernel_rfl
@[go_sem] theorem ty.c173 : Try.prog.cellsOf 173 = 1 := by kernel_rfl
@[go_sem] theorem ty.i173 : (Try.prog.info? 173).isSome = true := by kernel_rfl
@[go_sem] theorem ty.k174 : tk Try.prog 174 = .fn := by kernel_rfl
@[go_sem] theorem ty.z174 : zD Try.prog 174 = .v .nilFunc := by kernel_rfl
@[go_sem] theorem ty.c174 : Try.prog.cellsOf 174 = 1 := by kernel_rfl
@[go_sem] theorem ty.i174 : (Try.prog.info? 174).isSome = true := by kernel_rfl
@[go_sem] theorem ty.k175 : tk Try.prog 175 = .fn := by kernel_rfl
@[go_sem] theorem ty.z175 : zD Try.prog 175 = .v .nilFunc := by kernel_rfl
@[go_sem] theorem ty.c175 : Try.prog.cellsOf 175 = 1 := by kernel_rfl
@[go_sem] theorem ty.i175 : (Try.prog.info? 175).isSome = true := by kernel_rfl
@[go_sem] theorem ty.k176 : tk Try.prog 176 = .fn := by kernel_rfl
@[go_sem] theorem ty.z176 : zD Try.prog 176 = .v .nilFunc := by kernel_rfl
@[go_sem] theorem ty.c176 : Try.prog.cellsOf 176 = 1 := by kernel_rfl
@[go_sem] theorem ty.i176 : (Try.prog.info? 176).isSome = true := by kernel_rfl
@[go_sem] theorem ty.k177 : tk Try.prog 177 = .fn := by kernel_rfl
@[go_sem] theorem ty.z177 : zD Try.prog 177 = .v .nilFunc := by kernel_rfl
@[go_sem] theorem ty.c177 : Try.prog.cellsOf 177 = 1 := by kernel_rfl
@[go_sem] theorem ty.i177 : (Try.prog.info? 177).isSome = true := by kernel_rfl
@[go_sem] theorem ty.k178 : tk Try.prog 178 = .fn := by kernel_rfl
@[go_sem] theorem ty.z178 : zD Try.prog 178 = .v .nilFunc := by kernel_rfl
@[go_sem] theorem ty.c178 : Try.prog.cellsOf 178 = 1 := by kernel_rfl
@[go_sem] theorem ty.i178 : (Try.prog.info? 178).isSome = true := by kernel_rfl
@[go_sem] theorem ty.k179 : tk Try.prog 179 = .int .u64 := by kernel_rfl
@[go_sem] theorem ty.z179 : zD Try.prog 179 = .v (.int .u64 0) := by kernel_rfl
@[go_sem] theorem ty.c179 : Try.prog.cellsOf 179 = 1 := by kernel_rfl
@[go_sem] theorem ty.i179 : (Try.prog.info? 179).isSome = true := by kernel_rfl
@[go_sem] theorem ty.k180 : tk Try.prog 180 = .fn := by kernel_rfl
@[go_sem] theorem ty.z180 : zD Try.prog 180 = .v .nilFunc := by kernel_rfl
@[go_sem] theorem ty.c180 : Try.prog.cellsOf 180 = 1 := by kernel_rfl
@[go_sem] theorem ty.i180 : (Try.prog.info? 180).isSome = true := by kernel_rfl
@[go_sem] theorem ty.k181 : tk Try.prog 181 = .fn := by kernel_rfl
@[go_sem] theorem ty.z181 : zD Try.prog 181 = .v .nilFunc := by kernel_rfl
@[go_sem] theorem ty.c181 : Try.prog.cellsOf 181 = 1 := by kernel_rfl
@[go_sem] theorem ty.i181 : (Try.prog.info? 181).isSome = true := by kernel_rfl
@[go_sem] theorem ty.k182 : tk Try.prog 182 = .fn := by kernel_rfl
@[go_sem] theorem ty.z182 : zD Try.prog 182 = .v .nilFunc := by kernel_rfl
@[go_sem] theorem ty.c182 : Try.prog.cellsOf 182 = 1 := by kernel_rfl
@[go_sem] theorem ty.i182 : (Try.prog.info? 182).isSome = true := by kernel_rfl
@[go_sem] theorem ty.k183 : tk Try.prog 183 = .fn := by kernel_rfl
@[go_sem] theorem ty.z183 : zD Try.prog 183 = .v .nilFunc := by kernel_rfl
@[go_sem] theorem ty.c183 : Try.prog.cellsOf 183 = 1 := by kernel_rfl
@[go_sem] theorem ty.i183 : (Try.prog.info? 183).isSome = true := by kernel_rfl
@[go_sem] theorem ty.k184 : tk Try.prog 184 = .fn := by kernel_rfl
@[go_sem] theorem ty.z184 : zD Try.prog 184 = .v .nilFunc := by kernel_rfl
@[go_sem] theorem ty.c184 : Try.prog.cellsOf 184 = 1 := by kernel_rfl
@[go_sem] theorem ty.i184 : (Try.prog.info? 184).isSome = true := by kernel_rfl
@[go_sem] theorem ty.k185 : tk Try.prog 185 = .fn := by kernel_rfl
@[go_sem] theorem ty.z185 : zD Try.prog 185 = .v .nilFunc := by kernel_rfl
@[go_sem] theorem ty.c185 : Try.prog.cellsOf 185 = 1 := by kernel_rfl
@[go_sem] theorem ty.i185 : (Try.prog.info? 185).isSome = true := by kernel_rfl
@[go_sem] theorem ty.k186 : tk Try.prog 186 = .fn := by kernel_rfl
@[go_sem] theorem ty.z186 : zD Try.prog 186 = .v .nilFunc := by kernel_rfl
@[go_sem] theorem ty.c186 : Try.prog.cellsOf 186 = 1 := by kernel_rfl
@[go_sem] theorem ty.i186 : (Try.prog.info? 186).isSome = true := by kernel_rfl
@[go_sem] theorem ty.k187 : tk Try.prog 187 = .fn := by kernel_rfl
@[go_sem] theorem ty.z187 : zD Try.prog 187 = .v .nilFunc := by kernel_rfl
@[go_sem] theorem ty.c187 : Try.prog.cellsOf 187 = 1 := by kernel_rfl
@[go_sem] theorem ty.i187 : (Try.prog.info? 187).isSome = true := by kernel_rfl
@[go_sem] theorem ty.k188 : tk Try.prog 188 = .fn := by kernel_rfl
@[go_sem] theorem ty.z188 : zD Try.prog 188 = .v .nilFunc := by kernel_rfl
@[go_sem] theorem ty.c188 : Try.prog.cellsOf 188 = 1 := by kernel_rfl
@[go_sem] theorem ty.i188 : (Try.prog.info? 188).isSome = true := by kernel_rfl
@[go_sem] theorem ty.k189 : tk Try.prog 189 = .fn := by kernel_rfl
@[go_sem] theorem ty.z189 : zD Try.prog 189 = .v .nilFunc := by kernel_rfl
@[go_sem] theorem ty.c189 : Try.prog.cellsOf 189 = 1 := by kernel_rfl
@[go_sem] theorem ty.i189 : (Try.prog.info? 189).isSome = true := by kernel_rfl
@[go_sem] theorem ty.k190 : tk Try.prog 190 = .fn := by kernel_rfl
@[go_sem] theorem ty.z190 : zD Try.prog 190 = .v .nilFunc := by kernel_rfl
@[go_sem] theorem ty.c190 : Try.prog.cellsOf 190 = 1 := by kernel_rfl
@[go_sem] theorem ty.i190 : (Try.prog.info? 190).isSome = true := by kernel_rfl
@[go_sem] theorem ty.k191 : tk Try.prog 191 = .fn := by kernel_rfl
@[go_sem] theorem ty.z191 : zD Try.prog 191 = .v .nilFunc := by kernel_rfl
@[go_sem] theorem ty.c191 : Try.prog.cellsOf 191 = 1 := by kernel_rfl
@[go_sem] theorem ty.i191 : (Try.prog.info? 191).isSome = true := by kernel_rfl
@[go_sem] theorem ty.k192 : tk Try.prog 192 = .fn := by kernel_rfl
@[go_sem] theorem ty.z192 : zD Try.prog 192 = .v .nilFunc := by kernel_rfl
@[go_sem] theorem ty.c192 : Try.prog.cellsOf 192 = 1 := by kernel_rfl
@[go_sem] theorem ty.i192 : (Try.prog.info? 192).isSome = true := by kernel_rfl
@[go_sem] theorem ty.k193 : tk Try.prog 193 = .fn := by kernel_rfl
@[go_sem] theorem ty.z193 : zD Try.prog 193 = .v .nilFunc := by kernel_rfl
@[go_sem] theorem ty.c193 : Try.prog.cellsOf 193 = 1 := by kernel_rfl
@[go_sem] theorem ty.i193 : (Try.prog.info? 193).isSome = true := by kernel_rfl
@[go_sem] theorem ty.k194 : tk Try.prog 194 = .fn := by kernel_rfl
@[go_sem] theorem ty.z194 : zD Try.prog 194 = .v .nilFunc := by kernel_rfl
@[go_sem] theorem ty.c194 : Try.prog.cellsOf 194 = 1 := by kernel_rfl
@[go_sem] theorem ty.i194 : (Try.prog.info? 194).isSome = true := by kernel_rfl
@[go_sem] theorem ty.k195 : tk Try.prog 195 = .fn := by kernel_rfl
@[go_sem] theorem ty.z195 : zD Try.prog 195 = .v .nilFunc := by kernel_rfl
@[go_sem] theorem ty.c195 : Try.prog.cellsOf 195 = 1 := by kernel_rfl
@[go_sem] theorem ty.i195 : (Try.prog.info? 195).isSome = true := by kernel_rfl
@[go_sem] theorem ty.k196 : tk Try.prog 196 = .fn := by kernel_rfl
@[go_sem] theorem ty.z196 : zD Try.prog 196 = .v .nilFunc := by kernel_rfl
@[go_sem] theorem ty.c196 : Try.prog.cellsOf 196 = 1 := by kernel_rfl
@[go_sem] theorem ty.i196 : (Try.prog.info? 196).isSome = true := by kernel_rfl
@[go_sem] theorem ty.k197 : tk Try.prog 197 = .fn := by kernel_rfl
@[go_sem] theorem ty.z197 : zD Try.prog 197 = .v .nilFunc := by kernel_rfl
@[go_sem] theorem ty.c197 : Try.prog.cellsOf 197 = 1 := by kernel_rfl
@[go_sem] theorem ty.i197 : (Try.prog.info? 197).isSome = true := by kernel_rfl
@[go_sem] theorem ty.k198 : tk Try.prog 198 = .fn := by kernel_rfl
@[go_sem] theorem ty.z198 : zD Try.prog 198 = .v .nilFunc := by kernel_rfl
@[go_sem] theorem ty.c198 : Try.prog.cellsOf 198 = 1 := by kernel_rfl
@[go_sem] theorem ty.i198 : (Try.prog.info? 198).isSome = true := by kernel_rfl
@[go_sem] theorem ty.k199 : tk Try.prog 199 = .fn := by kernel_rfl
@[go_sem] theorem ty.z199 : zD Try.prog 199 = .v .nilFunc := by kernel_rfl
@[go_sem] theorem ty.c199 : Try.prog.cellsOf 199 = 1 := by kernel_rfl
@[go_sem] theorem ty.i199 : (Try.prog.info? 199).isSome = true := by kernel_rfl
@[go_sem] theorem ty.k200 : tk Try.prog 200 = .fn := by kernel_rfl
@[go_sem] theorem ty.z200 : zD Try.prog 200 = .v .nilFunc := by kernel_rfl
@[go_sem] theorem ty.c200 : Try.prog.cellsOf 200 = 1 := by kernel_rfl
@[go_sem] theorem ty.i200 : (Try.prog.info? 200).isSome = true := by kernel_rfl
@[go_sem] theorem ty.k202 : tk Try.prog 202 = .fn := by kernel_rfl
@[go_sem] theorem ty.z202 : zD Try.prog 202 = .v .nilFunc := by kernel_rfl
@[go_sem] theorem ty.c202 : Try.prog.cellsOf 202 = 1 := by kernel_rfl
@[go_sem] theorem ty.i202 : (Try.prog.info? 202).isSome = true := by kernel_rfl
@[go_sem] theorem ty.k203 : tk Try.prog 203 = .fn := by kernel_rfl
@[go_sem] theorem ty.z203 : zD Try.prog 203 = .v .nilFunc := by kernel_rfl
@[go_sem] theorem ty.c203 : Try.prog.cellsOf 203 = 1 := by kernel_rfl
@[go_sem] theorem ty.i203 : (Try.prog.info? 203).isSome = true := by kernel_rfl
@[go_sem] theorem ty.k204 : tk Try.prog 204 = .fn := by kernel_rfl
@[go_sem] theorem ty.z204 : zD Try.prog 204 = .v .nilFunc := by kernel_rfl
@[go_sem] theorem ty.c204 : Try.prog.cellsOf 204 = 1 := by kernel_rfl
@[go_sem] theorem ty.i204 : (Try.prog.info? 204).isSome = true := by kernel_rfl
@[go_sem] theorem ty.k205 : tk Try.prog 205 = .int .i64 := by kernel_rfl
@[go_sem] theorem ty.z205 : zD Try.prog 205 = .v (.int .i64 0) := by kernel_rfl
@[go_sem] theorem ty.c205 : Try.prog.cellsOf 205 = 1 := by kernel_rfl
@[go_sem] theorem ty.i205 : (Try.prog.info? 205).isSome = true := by kernel_rfl
@[go_sem] theorem ty.k207 : tk Try.prog 207 = .fn := by kernel_rfl
@[go_sem] theorem ty.z207 : zD Try.prog 207 = .v .nilFunc := by kernel_rfl
@[go_sem] theorem ty.c207 : Try.prog.cellsOf 207 = 1 := by kernel_rfl
@[go_sem] theorem ty.i207 : (Try.prog.info? 207).isSome = true := by kernel_rfl
@[go_sem] theorem ty.k208 : tk Try.prog 208 = .fn := by kernel_rfl
@[go_sem] theorem ty.z208 : zD Try.prog 208 = .v .nilFunc := by kernel_rfl
@[go_sem] theorem ty.c208 : Try.prog.cellsOf 208 = 1 := by kernel_rfl
@[go_sem] theorem ty.i208 : (Try.prog.info? 208).isSome = true := by kernel_rfl
@[go_sem] theorem ty.k209 : tk Try.prog 209 = .fn := by kernel_rfl
@[go_sem] theorem ty.z209 : zD Try.prog 209 = .v .nilFunc := by kernel_rfl
@[go_sem] theorem ty.c209 : Try.prog.cellsOf 209 = 1 := by kernel_rfl
@[go_sem] theorem ty.i209 : (Try.prog.info? 209).isSome = true := by kernel_rfl
@[go_sem] theorem ty.k210 : tk Try.prog 210 = .fn := by kernel_rfl
@[go_sem] theorem ty.z210 : zD Try.prog 210 = .v .nilFunc := by kernel_rfl
@[go_sem] theorem ty.c210 : Try.prog.cellsOf 210 = 1 := by kernel_rfl
@[go_sem] theorem ty.i210 : (Try.prog.info? 210).isSome = true := by kernel_rfl
@[go_sem] theorem ty.k211 : tk Try.prog 211 = .fn := by kernel_rfl
@[go_sem] theorem ty.z211 : zD Try.prog 211 = .v .nilFunc := by kernel_rfl
@[go_sem] theorem ty.c211 : Try.prog.cellsOf 211 = 1 := by kernel_rfl
@[go_sem] theorem ty.i211 : (Try.prog.info? 211).isSome = true := by kernel_rfl
@[go_sem] theorem ty.k212 : tk Try.prog 212 = .int .u32 := by kernel_rfl
@[go_sem] theorem ty.z212 : zD Try.prog 212 = .v (.int .u32 0) := by kernel_rfl
@[go_sem] theorem ty.c212 : Try.prog.cellsOf 212 = 1 := by kernel_rfl
@[go_sem] theorem ty.i212 : (Try.prog.info? 212).isSome = true := by kernel_rfl
@[go_sem] theorem ty.k213 : tk Try.prog 213 = .fn := by kernel_rfl
@[go_sem] theorem ty.z213 : zD Try.prog 213 = .v .nilFunc := by kernel_rfl
@[go_sem] theorem ty.c213 : Try.prog.cellsOf 213 = 1 := by kernel_rfl
@[go_sem] theorem ty.i213 : (Try.prog.info? 213).isSome = true := by kernel_rfl
@[go_sem] theorem ty.k214 : tk Try.prog 214 = .fn := by kernel_rfl
@[go_sem] theorem ty.z214 : zD Try.prog 214 = .v .nilFunc := by kernel_rfl
@[go_sem] theorem ty.c214 : Try.prog.cellsOf 214 = 1 := by kernel_rfl
@[go_sem] theorem ty.i214 : (Try.prog.info? 214).isSome = true := by kernel_rfl
@[go_sem] theorem ty.k215 : tk Try.prog 215 = .fn := by kernel_rfl
@[go_sem] theorem ty.z215 : zD Try.prog 215 = .v .nilFunc := by kernel_rfl
@[go_sem] theorem ty.c215 : Try.prog.cellsOf 215 = 1 := by kernel_rfl
@[go_sem] theorem ty.i215 : (Try.prog.info? 215).isSome = true := by kernel_rfl
@[go_sem] theorem ty.k216 : tk Try.prog 216 = .fn := by kernel_rfl
@[go_sem] theorem ty.z216 : zD Try.prog 216 = .v .nilFunc := by kernel_rfl
@[go_sem] theorem ty.c216 : Try.prog.cellsOf 216 = 1 := by kernel_rfl
@[go_sem] theorem ty.i216 : (Try.prog.info? 216).isSome = true := by kernel_rfl
@[go_sem] theorem ty.k217 : tk Try.prog 217 = .fn := by kernel_rfl
@[go_sem] theorem ty.z217 : zD Try.prog 217 = .v .nilFunc := by kernel_rfl
@[go_sem] theorem ty.c217 : Try.prog.cellsOf 217 = 1 := by kernel_rfl
@[go_sem] theorem ty.i217 : (Try.prog.info? 217).isSome = true := by kernel_rfl
@[go_sem] theorem ty.k218 : tk Try.prog 218 = .fn := by kernel_rfl
@[go_sem] theorem ty.z218 : zD Try.prog 218 = .v .nilFunc := by kernel_rfl
@[go_sem] theorem ty.c218 : Try.prog.cellsOf 218 = 1 := by kernel_rfl
@[go_sem] theorem ty.i218 : (Try.prog.info? 218).isSome = true := by kernel_rfl
@[go_sem] theorem ty.k219 : tk Try.prog 219 = .fn := by kernel_rfl
@[go_sem] theorem ty.z219 : zD Try.prog 219 = .v .nilFunc := by kernel_rfl
@[go_sem] theorem ty.c219 : Try.prog.cellsOf 219 = 1 := by kernel_rfl
@[go_sem] theorem ty.i219 : (Try.prog.info? 219).isSome = true := by kernel_rfl
@[go_sem] theorem ty.k220 : tk Try.prog 220 = .sl 27 1 24 true := by kernel_rfl
@[go_sem] theorem ty.e220 : elT Try.prog 220 = 27 := by kernel_rfl
@[go_sem] theorem ty.z220 : zD Try.prog 220 = .sl 0 true [] := by kernel_rfl
@[go_sem] theorem ty.c220 : Try.prog.cellsOf 220 = 1 := by kernel_rfl
@[go_sem] theorem ty.i220 : (Try.prog.info? 220).isSome = true := by kernel_rfl
@[go_sem] theorem ty.k221 : tk Try.prog 221 = .fn := by kernel_rfl
@[go_sem] theorem ty.z221 : zD Try.prog 221 = .v .nilFunc := by kernel_rfl
@[go_sem] theorem ty.c221 : Try.prog.cellsOf 221 = 1 := by kernel_rfl
@[go_sem] theorem ty.i221 : (Try.prog.info? 221).isSome = true := by kernel_rfl
@[go_sem] theorem ty.k222 : tk Try.prog 222 = .sl 25 1 24 true := by kernel_rfl
@[go_sem] theorem ty.e222 : elT Try.prog 222 = 25 := by kernel_rfl
@[go_sem] theorem ty.z222 : zD Try.prog 222 = .sl 0 true [] := by kernel_rfl
@[go_sem] theorem ty.c222 : Try.prog.cellsOf 222 = 1 := by kernel_rfl
@[go_sem] theorem ty.i222 : (Try.prog.info? 222).isSome = true := by kernel_rfl
@[go_sem] theorem ty.k223 : tk Try.prog 223 = .fn := by kernel_rfl
@[go_sem] theorem ty.z223 : zD Try.prog 223 = .v .nilFunc := by kernel_rfl
@[go_sem] theorem ty.c223 : Try.prog.cellsOf 223 = 1 := by kernel_rfl
@[go_sem] theorem ty.i223 : (Try.prog.info? 223).isSome = true := by kernel_rfl
@[go_sem] theorem ty.k224 : tk Try.prog 224 = .sl 26 1 24 true := by kernel_rfl
@[go_sem] theorem ty.e224 : elT Try.prog 224 = 26 := by kernel_rfl
@[go_sem] theorem ty.z224 : zD Try.prog 224 = .sl 0 true [] := by kernel_rfl
@[go_sem] theorem ty.c224 : Try.prog.cellsOf 224 = 1 := by kernel_rfl
@[go_sem] theorem ty.i224 : (Try.prog.info? 224).isSome = true := by kernel_rfl
@[go_sem] theorem ty.k225 : tk Try.prog 225 = .fn := by kernel_rfl
@[go_sem] theorem ty.z225 : zD Try.prog 225 = .v .nilFunc := by kernel_rfl
@[go_sem] theorem ty.c225 : Try.prog.cellsOf 225 = 1 := by kernel_rfl
@[go_sem] theorem ty.i225 : (Try.prog.info? 225).isSome = true := by kernel_rfl
@[go_sem] theorem ty.k226 : tk Try.prog 226 = .int .u64 := by kernel_rfl
@[go_sem] theorem ty.z226 : zD Try.prog 226 = .v (.int .u64 0) := by kernel_rfl
@[go_sem] theorem ty.c226 : Try.prog.cellsOf 226 = 1 := by kernel_rfl
@[go_sem] theorem ty.i226 : (Try.prog.info? 226).isSome = true := by kernel_rfl
@[go_sem] theorem ty.k227 : tk Try.prog 227 = .fn := by kernel_rfl
@[go_sem] theorem ty.z227 : zD Try.prog 227 = .v .nilFunc := by kernel_rfl
@[go_sem] theorem ty.c227 : Try.prog.cellsOf 227 = 1 := by kernel_rfl
@[go_sem] theorem ty.i227 : (Try.prog.info? 227).isSome = true := by kernel_rfl
@[go_sem] theorem ty.k228 : tk Try.prog 228 = .fn := by kernel_rfl
@[go_sem] theorem ty.z228 : zD Try.prog 228 = .v .nilFunc := by kernel_rfl
@[go_sem] theorem ty.c228 : Try.prog.cellsOf 228 = 1 := by kernel_rfl
@[go_sem] theorem ty.i228 : (Try.prog.info? 228).isSome = true := by kernel_rfl
@[go_sem] theorem ty.k229 : tk Try.prog 229 = .fn := by kernel_rfl
@[go_sem] theorem ty.z229 : zD Try.prog 229 = .v .nilFunc := by kernel_rfl
@[go_sem] theorem ty.c229 : Try.prog.cellsOf 229 = 1 := by kernel_rfl
@[go_sem] theorem ty.i229 : (Try.prog.info? 229).isSome = true := by kernel_rfl
@[go_sem] theorem ty.k230 : tk Try.prog 230 = .ptr 3 := by kernel_rfl
@[go_sem] theorem ty.z230 : zD Try.prog 230 = .v (.pointer none) := by kernel_rfl
@[go_sem] theorem ty.c230 : Try.prog.cellsOf 230 = 1 := by kernel_rfl
@[go_sem] theorem ty.i230 : (Try.prog.info? 230).isSome = true := by kernel_rfl
@[go_sem] theorem ty.k231 : tk Try.prog 231 = .fn := by kernel_rfl
@[go_sem] theorem ty.z231 : zD Try.prog 231 = .v .nilFunc := by kernel_rfl
@[go_sem] theorem ty.c231 : Try.prog.cellsOf 231 = 1 := by kernel_rfl
@[go_sem] theorem ty.i231 : (Try.prog.info? 231).isSome = true := by kernel_rfl
@[go_sem] theorem ty.k232 : tk Try.prog 232 = .fn := by kernel_rfl
@[go_sem] theorem ty.z232 : zD Try.prog 232 = .v .nilFunc := by kernel_rfl
@[go_sem] theorem ty.c232 : Try.prog.cellsOf 232 = 1 := by kernel_rfl
@[go_sem] theorem ty.i232 : (Try.prog.info? 232).isSome = true := by kernel_rfl
@[go_sem] theorem ty.k233 : tk Try.prog 233 = .fn := by kernel_rfl
@[go_sem] theorem ty.z233 : zD Try.prog 233 = .v .nilFunc := by kernel_rfl
@[go_sem] theorem ty.c233 : Try.prog.cellsOf 233 = 1 := by kernel_rfl
@[go_sem] theorem ty.i233 : (Try.prog.info? 233).isSome = true := by kernel_rfl
@[go_sem] theorem ty.k234 : tk Try.prog 234 = .ptr 226 := by kernel_rfl
@[go_sem] theorem ty.z234 : zD Try.prog 234 = .v (.pointer none) := by kernel_rfl
@[go_sem] theorem ty.c234 : Try.prog.cellsOf 234 = 1 := by kernel_rfl
@[go_sem] theorem ty.i234 : (Try.prog.info? 234).isSome = true := by kernel_rfl
@[go_sem] theorem ty.k236 : tk Try.prog 236 = .fn := by kernel_rfl
@[go_sem] theorem ty.z236 : zD Try.prog 236 = .v .nilFunc := by kernel_rfl
@[go_sem] theorem ty.c236 : Try.prog.cellsOf 236 = 1 := by kernel_rfl
@[go_sem] theorem ty.i236 : (Try.prog.info? 236).isSome = true := by kernel_rfl
@[go_sem] theorem ty.k237 : tk Try.prog 237 = .fn := by kernel_rfl
@[go_sem] theorem ty.z237 : zD Try.prog 237 = .v .nilFunc := by kernel_rfl
@[go_sem] theorem ty.c237 : Try.prog.cellsOf 237 = 1 := by kernel_rfl
@[go_sem] theorem ty.i237 : (Try.prog.info? 237).isSome = true := by kernel_rfl
@[go_sem] theorem ty.k238 : tk Try.prog 238 = .st [(0, 1, false), (1, 1, false), (2, 1, false), (3, 1, false)] 4 := by kernel_rfl
@[go_sem] theorem ty.z238 : zD Try.prog 238 = .agg [.v (.pointer none), .v (.pointer none), .v (.pointer none), .v (.string ByteArray.empty)] := by kernel_rfl
@[go_sem] theorem ty.c238 : Try.prog.cellsOf 238 = 4 := by kernel_rfl
@[go_sem] theorem ty.i238 : (Try.prog.info? 238).isSome = true := by kernel_rfl
@[go_sem] theorem ty.k239 : tk Try.prog 239 = .st [(0, 1, false), (1, 1, false), (2, 1, false), (3, 1, false)] 4 := by kernel_rfl
@[go_sem] theorem ty.z239 : zD Try.prog 239 = .agg [.v (.pointer none), .v (.pointer none), .v (.pointer none), .v (.string ByteArray.empty)] := by kernel_rfl
@[go_sem] theorem ty.c239 : Try.prog.cellsOf 239 = 4 := by kernel_rfl
@[go_sem] theorem ty.i239 : (Try.prog.info? 239).isSome = true := by kernel_rfl
@[go_sem] theorem ty.k240 : tk Try.prog 240 = .ar 0 16 1 false 0 := by kernel_rfl
@[go_sem] theorem ty.z240 : zD Try.prog 240 = .agg [] := by kernel_rfl
@[go_sem] theorem ty.c240 : Try.prog.cellsOf 240 = 0 := by kernel_rfl
@[go_sem] theorem ty.i240 : (Try.prog.info? 240).isSome = true := by kernel_rfl
@[go_sem] theorem ty.k241 : tk Try.prog 241 = .st [(0, 0, true)] 0 := by kernel_rfl
@[go_sem] theorem ty.z241 : zD Try.prog 241 = .agg [] := by kernel_rfl
@[go_sem] theorem ty.c241 : Try.prog.cellsOf 241 = 0 := by kernel_rfl
@[go_sem] theorem ty.i241 : (Try.prog.info? 241).isSome = true := by kernel_rfl
@[go_sem] theorem ty.k242 : tk Try.prog 242 = .st [(0, 0, true)] 0 := by kernel_rfl
@[go_sem] theorem ty.z242 : zD Try.prog 242 = .agg [] := by kernel_rfl
@[go_sem] theorem ty.c242 : Try.prog.cellsOf 242 = 0 := by kernel_rfl
@[go_sem] theorem ty.i242 : (Try.prog.info? 242).isSome = true := by kernel_rfl
@[go_sem] theorem ty.k243 : tk Try.prog 243 = .int .u8 := by kernel_rfl
@[go_sem] theorem ty.z243 : zD Try.prog 243 = .v (.int .u8 0) := by kernel_rfl
@[go_sem] theorem ty.c243 : Try.prog.cellsOf 243 = 1 := by kernel_rfl
@[go_sem] theorem ty.i243 : (Try.prog.info? 243).isSome = true := by kernel_rfl
@[go_sem] theorem ty.k244 : tk Try.prog 244 = .int .u8 := by kernel_rfl
@[go_sem] theorem ty.z244 : zD Try.prog 244 = .v (.int .u8 0) := by kernel_rfl
@[go_sem] theorem ty.c244 : Try.prog.cellsOf 244 = 1 := by kernel_rfl
@[go_sem] theorem ty.i244 : (Try.prog.info? 244).isSome = true := by kernel_rfl
@[go_sem] theorem ty.k245 : tk Try.prog 245 = .fn := by kernel_rfl
@[go_sem] theorem ty.z245 : zD Try.prog 245 = .v .nilFunc := by kernel_rfl
@[go_sem] theorem ty.c245 : Try.prog.cellsOf 245 = 1 := by kernel_rfl
@[go_sem] theorem ty.i245 : (Try.prog.info? 245).isSome = true := by kernel_rfl
@[go_sem] theorem ty.k246 : tk Try.prog 246 = .ptr 5 := by kernel_rfl
@[go_sem] theorem ty.z246 : zD Try.prog 246 = .v (.pointer none) := by kernel_rfl
@[go_sem] theorem ty.c246 : Try.prog.cellsOf 246 = 1 := by kernel_rfl
@[go_sem] theorem ty.i246 : (Try.prog.info? 246).isSome = true := by kernel_rfl
@[go_sem] theorem ty.k247 : tk Try.prog 247 = .int .i32 := by kernel_rfl
@[go_sem] theorem ty.z247 : zD Try.prog 247 = .v (.int .i32 0) := by kernel_rfl
@[go_sem] theorem ty.c247 : Try.prog.cellsOf 247 = 1 := by kernel_rfl
@[go_sem] theorem ty.i247 : (Try.prog.info? 247).isSome = true := by kernel_rfl
@[go_sem] theorem ty.k248 : tk Try.prog 248 = .int .i32 := by kernel_rfl
@[go_sem] theorem ty.z248 : zD Try.prog 248 = .v (.int .i32 0) := by kernel_rfl
@[go_sem] theorem ty.c248 : Try.prog.cellsOf 248 = 1 := by kernel_rfl
@[go_sem] theorem ty.i248 : (Try.prog.info? 248).isSome = true := by kernel_rfl
@[go_sem] theorem ty.k249 : tk Try.prog 249 = .st [(0, 1, false), (1, 1, false), (2, 1, false), (3, 1, false), (4, 1, false), (5, 1, false), (6, 1, false), (7, 1, false), (8, 1, false), (9, 1, false), (10, 1, false)] 11 := by kernel_rfl
@[go_sem] theorem ty.z249 : zD Try.prog 249 = .agg [.v (.int .u64 0), .v (.int .u64 0), .v (.int .u32 0), .v (.int .u8 0), .v (.int .u8 0), .v (.int .u8 0), .v (.int .u8 0), .v .nilFunc, .v (.pointer none), .v (.int .i32 0), .v (.int .i32 0)] := by kernel_rfl
@[go_sem] theorem ty.c249 : Try.prog.cellsOf 249 = 11 := by kernel_rfl
@[go_sem] theorem ty.i249 : (Try.prog.info? 249).isSome = true := by kernel_rfl
@[go_sem] theorem ty.k250 : tk Try.prog 250 = .st [(0, 1, false), (1, 1, false), (2, 1, false), (3, 1, false), (4, 1, false), (5, 1, false), (6, 1, false), (7, 1, false), (8, 1, false), (9, 1, false), (10, 1, false)] 11 := by kernel_rfl
@[go_sem] theorem ty.z250 : zD Try.prog 250 = .agg [.v (.int .u64 0), .v (.int .u64 0), .v (.int .u32 0), .v (.int .u8 0), .v (.int .u8 0), .v (.int .u8 0), .v (.int .u8 0), .v .nilFunc, .v (.pointer none), .v (.int .i32 0), .v (.int .i32 0)] := by kernel_rfl
@[go_sem] theorem ty.c250 : Try.prog.cellsOf 250 = 11 := by kernel_rfl
@[go_sem] theorem ty.i250 : (Try.prog.info? 250).isSome = true := by kernel_rfl
@[go_sem] theorem ty.f0 : okF Try.prog 0 = false := by kernel_rfl
@[go_sem] theorem ty.f1 : okF Try.prog 1 = false := by kernel_rfl
@[go_sem] theorem ty.f2 : okF Try.prog 2 = true := by kernel_rfl
@[go_sem] theorem ty.f3 : okF Try.prog 3 = true := by kernel_rfl
@[go_sem] theorem ty.f4 : okF Try.prog 4 = true := by kernel_rfl
@[go_sem] theorem ty.f5 : okF Try.prog 5 = true := by kernel_rfl
@[go_sem] theorem ty.f6 : okF Try.prog 6 = true := by kernel_rfl
@[go_sem] theorem ty.f7 : okF Try.prog 7 = true := by kernel_rfl
@[go_sem] theorem ty.f8 : okF Try.prog 8 = true := by kernel_rfl
@[go_sem] theorem ty.f9 : okF Try.prog 9 = true := by kernel_rfl
@[go_sem] theorem ty.f10 : okF Try.prog 10 = true := by kernel_rfl
@[go_sem] theorem ty.f11 : okF Try.prog 11 = true := by kernel_rfl
@[go_sem] theorem ty.f12 : okF Try.prog 12 = true := by kernel_rfl
@[go_sem] theorem ty.f13 : okF Try.prog 13 = true := by kernel_rfl
@[go_sem] theorem ty.f14 : okF Try.prog 14 = true := by kernel_rfl
@[go_sem] theorem ty.f15 : okF Try.prog 15 = true := by kernel_rfl
@[go_sem] theorem ty.f16 : okF Try.prog 16 = true := by kernel_rfl
@[go_sem] theorem ty.f17 : okF Try.prog 17 = true := by kernel_rfl
@[go_sem] theorem ty.f18 : okF Try.prog 18 = true := by kernel_rfl
@[go_sem] theorem ty.f19 : okF Try.prog 19 = true := by kernel_rfl
@[go_sem] theorem ty.f20 : okF Try.prog 20 = true := by kernel_rfl
@[go_sem] theorem ty.f21 : okF Try.prog 21 = true := by kernel_rfl
@[go_sem] theorem ty.f22 : okF Try.prog 22 = true := by kernel_rfl
@[go_sem] theorem ty.f23 : okF Try.prog 23 = true := by kernel_rfl
@[go_sem] theorem ty.f24 : okF Try.prog 24 = true := by kernel_rfl
@[go_sem] theorem ty.f25 : okF Try.prog 25 = true := by kernel_rfl
@[go_sem] theorem ty.f26 : okF Try.prog 26 = true := by kernel_rfl
@[go_sem] theorem ty.f27 : okF Try.prog 27 = true := by kernel_rfl
@[go_sem] theorem ty.f28 : okF Try.prog 28 = true := by kernel_rfl
@[go_sem] theorem ty.f29 : okF Try.prog 29 = true := by kernel_rfl
@[go_sem] theorem ty.f30 : okF Try.prog 30 = true := by kernel_rfl
@[go_sem] theorem ty.f31 : okF Try.prog 31 = true := by kernel_rfl
@[go_sem] theorem ty.f32 : okF Try.prog 32 = true := by kernel_rfl
@[go_sem] theorem ty.f33 : okF Try.prog 33 = true := by kernel_rfl
@[go_sem] theorem ty.f34 : okF Try.prog 34 = true := by kernel_rfl
@[go_sem] theorem ty.f35 : okF Try.prog 35 = true := by kernel_rfl
@[go_sem] theorem ty.f36 : okF Try.prog 36 = true := by kernel_rfl
@[go_sem] theorem ty.f37 : okF Try.prog 37 = true := by kernel_rfl
@[go_sem] theorem ty.f38 : okF Try.prog 38 = true := by kernel_rfl
@[go_sem] theorem ty.f39 : okF Try.prog 39 = true := by kernel_rfl
@[go_sem] theorem ty.f40 : okF Try.prog 40 = true := by kernel_rfl
@[go_sem] theorem ty.f41 : okF Try.prog 41 = true := by kernel_rfl
@[go_sem] theorem ty.f42 : okF Try.prog 42 = true := by kernel_rfl
@[go_sem] theorem ty.f43 : okF Try.prog 43 = true := by kernel_rfl
@[go_sem] theorem ty.f44 : okF Try.prog 44 = true := by kernel_rfl
@[go_sem] theorem ty.f45 : okF Try.prog 45 = true := by kernel_rfl
@[go_sem] theorem ty.f46 : okF Try.prog 46 = true := by kernel_rfl
@[go_sem] theorem ty.f47 : okF Try.prog 47 = true := by kernel_rfl
@[go_sem] theorem ty.f48 : okF Try.prog 48 = true := by kernel_rfl
@[go_sem] theorem ty.f49 : okF Try.prog 49 = true := by kernel_rfl
@[go_sem] theorem ty.f50 : okF Try.prog 50 = true := by kernel_rfl
@[go_sem] theorem ty.f51 : okF Try.prog 51 = true := by kernel_rfl
@[go_sem] theorem ty.f52 : okF Try.prog 52 = true := by kernel_rfl
@[go_sem] theorem ty.f53 : okF Try.prog 53 = true := by kernel_rfl
@[go_sem] theorem ty.f54 : okF Try.prog 54 = true := by kernel_rfl
@[go_sem] theorem ty.f55 : okF Try.prog 55 = true := by kernel_rfl
@[go_sem] theorem ty.f56 : okF Try.prog 56 = true := by kernel_rfl
@[go_sem] theorem ty.f57 : okF Try.prog 57 = true := by kernel_rfl
@[go_sem] theorem ty.f58 : okF Try.prog 58 = true := by kernel_rfl
@[go_sem] theorem ty.f59 : okF Try.prog 59 = true := by kernel_rfl
@[go_sem] theorem ty.f60 : okF Try.prog 60 = true := by kernel_rfl
@[go_sem] theorem ty.f61 : okF Try.prog 61 = true := by kernel_rfl
@[go_sem] theorem ty.f62 : okF Try.prog 62 = true := by kernel_rfl
@[go_sem] theorem ty.f63 : okF Try.prog 63 = true := by kernel_rfl
@[go_sem] theorem ty.f64 : okF Try.prog 64 = true := by kernel_rfl
@[go_sem] theorem ty.f65 : okF Try.prog 65 = true := by kernel_rfl
@[go_sem] theorem ty.f66 : okF Try.prog 66 = true := by kernel_rfl
@[go_sem] theorem ty.f67 : okF Try.prog 67 = true := by kernel_rfl
@[go_sem] theorem ty.f68 : okF Try.prog 68 = true := by kernel_rfl
@[go_sem] theorem ty.f69 : okF Try.prog 69 = true := by kernel_rfl
@[go_sem] theorem ty.f70 : okF Try.prog 70 = true := by kernel_rfl
@[go_sem] theorem ty.f71 : okF Try.prog 71 = false := by kernel_rfl
@[go_sem] theorem ty.f72 : okF Try.prog 72 = true := by kernel_rfl
@[go_sem] theorem ty.f73 : okF Try.prog 73 = true := by kernel_rfl
@[go_sem] theorem ty.f74 : okF Try.prog 74 = true := by kernel_rfl
@[go_sem] theorem ty.f75 : okF Try.prog 75 = true := by kernel_rfl
@[go_sem] theorem ty.f76 : okF Try.prog 76 = true := by kernel_rfl
@[go_sem] theorem ty.f77 : okF Try.prog 77 = true := by kernel_rfl
@[go_sem] theorem ty.f78 : okF Try.prog 78 = true := by kernel_rfl
@[go_sem] theorem ty.f79 : okF Try.prog 79 = true := by kernel_rfl
@[go_sem] theorem ty.f80 : okF Try.prog 80 = true := by kernel_rfl
@[go_sem] theorem ty.f81 : okF Try.prog 81 = true := by kernel_rfl
@[go_sem] theorem ty.f82 : okF Try.prog 82 = true := by kernel_rfl
@[go_sem] theorem ty.f83 : okF Try.prog 83 = true := by kernel_rfl
@[go_sem] theorem ty.f84 : okF Try.prog 84 = true := by kernel_rfl
@[go_sem] theorem ty.f85 : okF Try.prog 85 = true := by kernel_rfl
@[go_sem] theorem ty.f86 : okF Try.prog 86 = true := by kernel_rfl
@[go_sem] theorem ty.f87 : okF Try.prog 87 = true := by kernel_rfl
@[go_sem] theorem ty.f88 : okF Try.prog 88 = true := by kernel_rfl
@[go_sem] theorem ty.f89 : okF Try.prog 89 = true := by kernel_rfl
@[go_sem] theorem ty.f90 : okF Try.prog 90 = true := by kernel_rfl
@[go_sem] theorem ty.f91 : okF Try.prog 91 = true := by kernel_rfl
@[go_sem] theorem ty.f92 : okF Try.prog 92 = true := by kernel_rfl
@[go_sem] theorem ty.f93 : okF Try.prog 93 = true := by kernel_rfl
@[go_sem] theorem ty.f94 : okF Try.prog 94 = true := by kernel_rfl
@[go_sem] theorem ty.f95 : okF Try.prog 95 = true := by kernel_rfl
@[go_sem] theorem ty.f96 : okF Try.prog 96 = true := by kernel_rfl
@[go_sem] theorem ty.f97 : okF Try.prog 97 = true := by kernel_rfl
@[go_sem] theorem ty.f98 : okF Try.prog 98 = true := by kernel_rfl
@[go_sem] theorem ty.f99 : okF Try.prog 99 = true := by kernel_rfl
@[go_sem] theorem ty.f100 : okF Try.prog 100 = true := by kernel_rfl
@[go_sem] theorem ty.f101 : okF Try.prog 101 = true := by kernel_rfl
@[go_sem] theorem ty.f102 : okF Try.prog 102 = true := by kernel_rfl
@[go_sem] theorem ty.f103 : okF Try.prog 103 = true := by kernel_rfl
@[go_sem] theorem ty.f104 : okF Try.prog 104 = true := by kernel_rfl
@[go_sem] theorem ty.f105 : okF Try.prog 105 = true := by kernel_rfl
@[go_sem] theorem ty.f106 : okF Try.prog 106 = true := by kernel_rfl
@[go_sem] theorem ty.f107 : okF Try.prog 107 = true := by kernel_rfl
@[go_sem] theorem ty.f108 : okF Try.prog 108 = true := by kernel_rfl
@[go_sem] theorem ty.f109 : okF Try.prog 109 = true := by kernel_rfl
@[go_sem] theorem ty.f110 : okF Try.prog 110 = true := by kernel_rfl
@[go_sem] theorem ty.f111 : okF Try.prog 111 = true := by kernel_rfl
@[go_sem] theorem ty.f112 : okF Try.prog 112 = true := by kernel_rfl
@[go_sem] theorem ty.f113 : okF Try.prog 113 = true := by kernel_rfl
@[go_sem] theorem ty.f114 : okF Try.prog 114 = true := by kernel_rfl
@[go_sem] theorem ty.f115 : okF Try.prog 115 = true := by kernel_rfl
@[go_sem] theorem ty.f116 : okF Try.prog 116 = true := by kernel_rfl
@[go_sem] theorem ty.f117 : okF Try.prog 117 = true := by kernel_rfl
@[go_sem] theorem ty.f118 : okF Try.prog 118 = true := by kernel_rfl
@[go_sem] theorem ty.f119 : okF Try.prog 119 = false := by kernel_rfl
@[go_sem] theorem ty.f120 : okF Try.prog 120 = true := by kernel_rfl
@[go_sem] theorem ty.f121 : okF Try.prog 121 = true := by kernel_rfl
@[go_sem] theorem ty.f122 : okF Try.prog 122 = true := by kernel_rfl
@[go_sem] theorem ty.f123 : okF Try.prog 123 = true := by kernel_rfl
@[go_sem] theorem ty.f124 : okF Try.prog 124 = true := by kernel_rfl
@[go_sem] theorem ty.f125 : okF Try.prog 125 = true := by kernel_rfl
@[go_sem] theorem ty.f126 : okF Try.prog 126 = true := by kernel_rfl
@[go_sem] theorem ty.f127 : okF Try.prog 127 = true := by kernel_rfl
@[go_sem] theorem ty.f128 : okF Try.prog 128 = true := by kernel_rfl
@[go_sem] theorem ty.f129 : okF Try.prog 129 = true := by kernel_rfl
@[go_sem] theorem ty.f130 : okF Try.prog 130 = true := by kernel_rfl
@[go_sem] theorem ty.f131 : okF Try.prog 131 = true := by kernel_rfl
@[go_sem] theorem ty.f132 : okF Try.prog 132 = true := by kernel_rfl
@[go_sem] theorem ty.f133 : okF Try.prog 133 = true := by kernel_rfl
@[go_sem] theorem ty.f134 : okF Try.prog 134 = true := by kernel_rfl
@[go_sem] theorem ty.f135 : okF Try.prog 135 = true := by kernel_rfl
@[go_sem] theorem ty.f136 : okF Try.prog 136 = true := by kernel_rfl
@[go_sem] theorem ty.f137 : okF Try.prog 137 = true := by kernel_rfl
@[go_sem] theorem ty.f138 : okF Try.prog 138 = true := by kernel_rfl
@[go_sem] theorem ty.f139 : okF Try.prog 139 = true := by kernel_rfl
@[go_sem] theorem ty.f140 : okF Try.prog 140 = true := by kernel_rfl
@[go_sem] theorem ty.f141 : okF Try.prog 141 = true := by kernel_rfl
@[go_sem] theorem ty.f142 : okF Try.prog 142 = true := by kernel_rfl
@[go_sem] theorem ty.f143 : okF Try.prog 143 = true := by kernel_rfl
@[go_sem] theorem ty.f144 : okF Try.prog 144 = true := by kernel_rfl
@[go_sem] theorem ty.f145 : okF Try.prog 145 = true := by kernel_rfl
@[go_sem] theorem ty.f146 : okF Try.prog 146 = true := by kernel_rfl
@[go_sem] theorem ty.f147 : okF Try.prog 147 = true := by kernel_rfl
@[go_sem] theorem ty.f148 : okF Try.prog 148 = true := by kernel_rfl
@[go_sem] theorem ty.f149 : okF Try.prog 149 = true := by kernel_rfl
@[go_sem] theorem ty.f150 : okF Try.prog 150 = true := by kernel_rfl
@[go_sem] theorem ty.f151 : okF Try.prog 151 = true := by kernel_rfl
@[go_sem] theorem ty.f152 : okF Try.prog 152 = true := by kernel_rfl
@[go_sem] theorem ty.f153 : okF Try.prog 153 = true := by kernel_rfl
@[go_sem] theorem ty.f154 : okF Try.prog 154 = true := by kernel_rfl
@[go_sem] theorem ty.f155 : okF Try.prog 155 = true := by kernel_rfl
@[go_sem] theorem ty.f156 : okF Try.prog 156 = true := by kernel_rfl
@[go_sem] theorem ty.f157 : okF Try.prog 157 = true := by kernel_rfl
@[go_sem] theorem ty.f158 : okF Try.prog 158 = true := by kernel_rfl
@[go_sem] theorem ty.f159 : okF Try.prog 159 = true := by kernel_rfl
@[go_sem] theorem ty.f160 : okF Try.prog 160 = true := by kernel_rfl
@[go_sem] theorem ty.f161 : okF Try.prog 161 = false := by kernel_rfl
@[go_sem] theorem ty.f162 : okF Try.prog 162 = false := by kernel_rfl
@[go_sem] theorem ty.f163 : okF Try.prog 163 = false := by kernel_rfl
@[go_sem] theorem ty.f164 : okF Try.prog 164 = false := by kernel_rfl
@[go_sem] theorem ty.f165 : okF Try.prog 165 = false := by kernel_rfl
@[go_sem] theorem ty.f166 : okF Try.prog 166 = false := by kernel_rfl
@[go_sem] theorem ty.f167 : okF Try.prog 167 = false := by kernel_rfl
@[go_sem] theorem ty.f168 : okF Try.prog 168 = false := by kernel_rfl
@[go_sem] theorem ty.f169 : okF Try.prog 169 = false := by kernel_rfl
@[go_sem] theorem ty.f170 : okF Try.prog 170 = false := by kernel_rfl
@[go_sem] theorem ty.f171 : okF Try.prog 171 = false := by kernel_rfl
@[go_sem] theorem ty.f172 : okF Try.prog 172 = false := by kernel_rfl
@[go_sem] theorem ty.f173 : okF Try.prog 173 = false := by kernel_rfl
@[go_sem] theorem ty.f174 : okF Try.prog 174 = false := by kernel_rfl
@[go_sem] theorem ty.f175 : okF Try.prog 175 = false := by kernel_rfl
@[go_sem] theorem ty.f176 : okF Try.prog 176 = false := by kernel_rfl
@[go_sem] theorem ty.f177 : okF Try.prog 177 = false := by kernel_rfl
theorem mx : Try.prog.follows .mixedOrders = true := by kernel_rfl
end Go.Proofs.Ytfieabidajilmaa

namespace Aml
open Go Go.RowKit
set_option linter.unusedVariables false
set_option linter.unusedSimpArgs false

/-- Slots from i on: those that live stay, the others are forgotten. -/
def wkA : List DV → Nat → List Nat → List DV
  | [], _, _ => []
  | _ :: ds, i, [] => .any :: wkA ds (i + 1) []
  | d :: ds, i, j :: js => if i = j then d :: wkA ds (i + 1) js else .any :: wkA ds (i + 1) (j :: js)
def wk (live : List Nat) (fr : List DV) : List DV := wkA fr 0 live
def upds (fr : List DV) : List (Nat × DV) → List DV
  | [] => fr
  | (i, d) :: us => upds (fr.set i d) us

theorem repL_any {g : Gh} : ∀ {ds es : List DV} {us : List Value}, RepL g ds us → ds.length = es.length → (∀ (i : Nat) (d e : DV), ds[i]? = some d → es[i]? = some e → e = d ∨ e = .any) → RepL g es us :=
  fun {ds es us} h hl hs => ⟨by rw [← hl]; exact h.len, fun i e u h1 h2 => by
    have hi : i < ds.length := by rw [hl]; exact (List.getElem?_eq_some_iff.1 h1).1
    rcases hs i _ e (List.getElem?_eq_getElem hi) h1 with rfl | rfl
    · exact h.at_ i _ u (List.getElem?_eq_getElem hi) h2
    · exact .any u⟩
theorem wkA_spec : ∀ (ds : List DV) (k : Nat) (js : List Nat), (wkA ds k js).length = ds.length ∧ ∀ (i : Nat) (d e : DV), ds[i]? = some d → (wkA ds k js)[i]? = some e → e = d ∨ e = .any
  | [], k, js => ⟨by simp [wkA], fun i d e h => by simp at h⟩
  | d :: ds, k, [] => by
    obtain ⟨h1, h2⟩ := wkA_spec ds (k + 1) []
    refine ⟨by simp [wkA, h1], fun i d' e a b => ?_⟩
    cases i with
    | zero => simp [wkA] at b; exact .inr b.symm
    | succ i => simp [wkA] at a b; exact h2 i d' e a b
  | d :: ds, k, j :: js => by
    simp only [wkA]
    split
    · obtain ⟨h1, h2⟩ := wkA_spec ds (k + 1) js
      refine ⟨by simp [h1], fun i d' e a b => ?_⟩
      cases i with
      | zero => simp at a b; exact .inl (b.symm.trans a)
      | succ i => simp at a b; exact h2 i d' e a b
    · obtain ⟨h1, h2⟩ := wkA_spec ds (k + 1) (j :: js)
      refine ⟨by simp [h1], fun i d' e a b => ?_⟩
      cases i with
      | zero => simp at b; exact .inr b.symm
      | succ i => simp at a b; exact h2 i d' e a b
theorem repL_wk {g : Gh} {fr : List DV} {us : List Value} (live : List Nat) (h : RepL g fr us) : RepL g (wk live fr) us :=
  repL_any h (wkA_spec fr 0 live).1.symm (wkA_spec fr 0 live).2

section
variable {P : Program} {w0 : W0}

theorem awp_wk (live : List Nat) {c : Code} {fr : List DV} {S : St} {Q : Exit → List DV → St → Prop} (h : AWp P w0 c (wk live fr) S Q) : AWp P w0 c fr S Q :=
  fun g a w h1 h2 h3 => h g a w h1 (repL_wk live h2) h3

/-- A loop, by a state. -/
theorem awp_loopS {σ : Type} (live : List Nat) (vals : σ → List (Nat × DV)) (st : σ → St) (inv : σ → Prop) (meas : σ → Nat) (s0 : σ) {c : Code} {fr : List DV} {S : St} {Q : Exit → List DV → St → Prop}
    (h0 : inv s0 ∧ upds (wk live fr) (vals s0) = wk live fr ∧ st s0 = S)
    (round : ∀ s, inv s → AWp P w0 c (upds (wk live fr) (vals s)) (st s) (thenQ (fun fr' S' => ∃ s', inv s' ∧ meas s' < meas s ∧ wk live fr' = upds (wk live fr) (vals s') ∧ st s' = S') Q)) :
    AWp P w0 (.loop c) fr S Q := by
  intro g a w h1 h2 h3
  refine wpA_loop_ind (fun m a w => Dk w0 g.obj a w ∧ ∃ g' s, g.le g' ∧ Rel w0 g' (st s) w ∧ RepL g' (upds (wk live fr) (vals s)) a.tmps.toList ∧ inv s ∧ meas s = m) (m := meas s0) ⟨h3, g, s0, .refl g, by rw [h0.2.2]; exact h1, by rw [h0.2.1]; exact repL_wk live h2, h0.1, rfl⟩ ?_
  rintro m a w ⟨hd, g', s, k1, k2, k3, k4, rfl⟩
  refine wpA_mono (round s k4 g' a w k2 k3 (k1.dk hd)) ?_
  rintro e a' w' ⟨hd', g'', fr'', S'', q1, q2, q3, q4⟩
  cases e with
  | normal =>
    obtain ⟨s', hi, hm, hf, hS⟩ := q4
    exact ⟨meas s', hm, k1.kd hd', g'', s', k1.trans q1, by rw [hS]; exact q2, by rw [← hf]; exact repL_wk live q3, hi, rfl⟩
  | exit n => exact ⟨k1.kd hd', g'', fr'', S'', k1.trans q1, q2, q3, q4⟩
  | goto n => exact ⟨k1.kd hd', g'', fr'', S'', k1.trans q1, q2, q3, q4⟩
  | ret => exact ⟨k1.kd hd', g'', fr'', S'', k1.trans q1, q2, q3, q4⟩
  | panic ch => exact ⟨k1.kd hd', g'', fr'', S'', k1.trans q1, q2, q3, q4⟩
  | outgrown => exact ⟨k1.kd hd', g'', fr'', S'', k1.trans q1, q2, q3, q4⟩

/-- A nil slice in a slot becomes one that grows. -/
theorem awp_grow (i s : Nat) (hs : 0 < s) {c : Code} {fr : List DV} {S : St} {Q : Exit → List DV → St → Prop} {s0 : Nat} (hi : fr[i]? = some (.sl s0 true []))
    (h : ∀ l, nin S.acc l → AWp P w0 c (fr.set i (.acc l 0)) ⟨S.box, (l, .arr s []) :: S.acc⟩ Q) : AWp P w0 c fr S Q := by
  intro g a w h1 h2 h3
  have hlt : i < a.tmps.toList.length := by rw [← h2.len]; exact (List.getElem?_eq_some_iff.1 hi).1
  have hr := h2.at_ i _ _ hi (List.getElem?_eq_getElem hlt)
  have hr' : Rep g (.sl s true []) a.tmps.toList[i] := by obtain ⟨o', ho'⟩ := rep_full_nil hr; rw [ho']; exact .nil _ _ _ _ fun _ => rfl
  obtain ⟨l, g', hle, hne, hR, hA⟩ := h1.newAcc hs hr' (.arr s []) (.inr ⟨rfl, rfl⟩)
  have hfr := repL_same (h2.mono hle) (List.getElem?_eq_getElem hlt) hA
  exact wpA_mono (h l (nin_of hne) g' a w hR hfr (hle.dk h3)) fun _ _ _ k => k.of_le hle
end
end Aml

namespace Aml
open Go Go.RowKit
set_option linter.unusedVariables false
set_option linter.unusedSimpArgs false

/-- An element that is asked for. -/
def elK (xs : List DV) (i : Nat) (F : DV → Prop) : Prop := ∀ d, xs[i]? = some d → okE d = true ∧ F d
def exK (xs : List DV) (i : Nat) (F : DV → Prop) : Prop := ∃ d, xs[i]? = some d ∧ okE d = true ∧ F d
theorem q_el_map {α : Type} (f : α → DV) (l : List α) (i : Nat) (F : DV → Prop) : elK (List.map f l) i F = ∀ a, l[i]? = some a → okE (f a) = true ∧ F (f a) := by
  unfold elK
  refine propext ⟨fun h a ha => h _ (by rw [List.getElem?_map, ha]; rfl), fun h d hd => ?_⟩
  rw [List.getElem?_map, Option.map_eq_some_iff] at hd
  obtain ⟨a, ha, rfl⟩ := hd
  exact h a ha
theorem q_el_nil (i : Nat) (F : DV → Prop) : elK [] i F = True := by simp [elK]
theorem q_el_zero (x : DV) (xs : List DV) (F : DV → Prop) : elK (x :: xs) 0 F = (okE x = true ∧ F x) := by simp [elK]
theorem q_el_succ (x : DV) (xs : List DV) (i : Nat) (F : DV → Prop) : elK (x :: xs) (i + 1) F = elK xs i F := by simp [elK]
theorem q_ex_map {α : Type} (f : α → DV) (l : List α) (i : Nat) (F : DV → Prop) : exK (List.map f l) i F = (i < l.length ∧ ∀ a, l[i]? = some a → okE (f a) = true ∧ F (f a)) := by
  unfold exK
  refine propext ⟨fun ⟨d, hd, h⟩ => ?_, fun ⟨hi, h⟩ => ⟨f l[i], by rw [List.getElem?_map, List.getElem?_eq_getElem hi]; rfl, h _ (List.getElem?_eq_getElem hi)⟩⟩
  rw [List.getElem?_map, Option.map_eq_some_iff] at hd
  obtain ⟨a, ha, rfl⟩ := hd
  exact ⟨(List.getElem?_eq_some_iff.1 ha).1, fun b hb => by rw [ha] at hb; cases hb; exact h⟩
theorem q_ex_nil (i : Nat) (F : DV → Prop) : exK [] i F = False := by simp [exK]
theorem q_ex_zero (x : DV) (xs : List DV) (F : DV → Prop) : exK (x :: xs) 0 F = (okE x = true ∧ F x) := by simp [exK]
theorem q_ex_succ (x : DV) (xs : List DV) (i : Nat) (F : DV → Prop) : exK (x :: xs) (i + 1) F = exK xs i F := by simp [exK]
theorem q_okE_v (u : Value) : okE (.v u) = true := rfl
theorem q_okE_sl (s : Nat) (f : Bool) (xs : List DV) : okE (.sl s f xs) = true := rfl
theorem q_okE_agg (ds : List DV) : okE (.agg ds) = true := rfl
theorem q_okE_ifc (t : TypeId) (d : DV) : okE (.ifc t d) = true := rfl
theorem q_okE_acc (l n : Nat) : okE (.acc l n) = true := rfl
theorem q_okE_ip (ds : List DV) : okE (.ip ds) = true := rfl
theorem q_cd_v (u : Value) : cd (.v u) = [.v u] := rfl
theorem q_cd_sl (s : Nat) (f : Bool) (xs : List DV) : cd (.sl s f xs) = [.sl s f xs] := rfl
theorem q_cd_agg (ds : List DV) : cd (.agg ds) = ds := rfl
theorem q_cd_ifc (t : TypeId) (d : DV) : cd (.ifc t d) = [.ifc t d] := rfl
theorem q_cd_acc (l n : Nat) : cd (.acc l n) = [.acc l n] := rfl
theorem q_cd_ip (ds : List DV) : cd (.ip ds) = [.ip ds] := rfl
theorem q_lk_nil {α : Type} (n : Nat) : lk ([] : List (Nat × α)) n = none := rfl
theorem q_lk_same {α : Type} (k : Nat) (x : α) (t : List (Nat × α)) : lk ((k, x) :: t) k = some x := by simp [lk]
theorem q_lk_ne {α : Type} {k n : Nat} (h : ¬ k = n) (x : α) (t : List (Nat × α)) : lk ((k, x) :: t) n = lk t n := by simp [lk, h]
theorem q_up_same {α : Type} (k : Nat) (x y : α) (t : List (Nat × α)) : up ((k, x) :: t) k y = (k, y) :: t := by simp [up]
theorem q_up_ne {α : Type} {k n : Nat} (h : ¬ k = n) (x y : α) (t : List (Nat × α)) : up ((k, x) :: t) n y = (k, x) :: up t n y := by simp [up, h]

section
variable {P : Program} {w0 : W0} (K : DV → Prop) (K2 : DV → St → Prop) (S : St)
theorem q_ld_int (k : IntKind) (d : DV) (ds : List DV) : ldK (.int k) (d :: ds) K = K d := rfl
theorem q_ld_one (d : DV) (ds : List DV) : ldK .one (d :: ds) K = K d := rfl
theorem q_ld_fn (d : DV) (ds : List DV) : ldK .fn (d :: ds) K = K d := rfl
theorem q_ld_str (d : DV) (ds : List DV) : ldK .str (d :: ds) K = K d := rfl
theorem q_ld_sl (e s b : Nat) (i : Bool) (d : DV) (ds : List DV) : ldK (.sl e s b i) (d :: ds) K = K d := rfl
theorem q_ld_map (k e : Nat) (d : DV) (ds : List DV) : ldK (.map k e) (d :: ds) K = K d := rfl
theorem q_ld_ptr (e : Nat) (d : DV) (ds : List DV) : ldK (.ptr e) (d :: ds) K = K d := rfl
theorem q_ld_ifc (m : List String) (d : DV) (ds : List DV) : ldK (.ifc m) (d :: ds) K = K d := rfl
theorem q_ld_st (fs : List (Nat × Nat × Bool)) (n : Nat) (ds : List DV) : ldK (.st fs n) ds K = (n ≤ ds.length ∧ K (.agg (ds.take n))) := rfl
theorem q_ld_ar (l e s : Nat) (a : Bool) (n : Nat) (ds : List DV) : ldK (.ar l e s a n) ds K = (n ≤ ds.length ∧ K (.agg (ds.take n))) := rfl
theorem q_pick (t : Bool) (a b : DV) : vPick (.v (.bool t)) a b K = ((t = true → K a) ∧ (t = false → K b)) := rfl
theorem q_cond (b : Bool) (A B : Prop) : condD (.v (.bool b)) A B = ((b = true → A) ∧ (b = false → B)) := rfl
theorem q_load_ip (k : TK) (ds : List DV) : vLoad k S (.ip ds) K = ldK k ds K := rfl
theorem q_ia_sl (e s b s' : Nat) (f : Bool) (xs : List DV) (k : IntKind) (z : Int) : vIndexAddr (.sl e s b true) (.sl s' f xs) (.v (.int k z)) K = (s' = s ∧ 0 ≤ z ∧ z < xs.length ∧ elK xs z.toNat fun d => K (.ip (cd d))) := rfl
theorem q_ia_acc (e s b l n : Nat) (k : IntKind) (z : Int) : vIndexAddr (.sl e s b true) (.acc l n) (.v (.int k z)) K = (0 ≤ z ∧ z < n ∧ K (.ap l n s z.toNat 0)) := rfl
theorem q_index (s : ByteArray) (k : IntKind) (z : Int) : vIndex .str (.v (.string s)) (.v (.int k z)) K = (0 ≤ z ∧ z < s.size ∧ ∀ c, s.data.toList[z.toNat]? = some c → K (.v (.int .u8 c.toNat))) := rfl
theorem q_bin_ii (op : BinOp) (t : TK) (cx cy : Bool) (k k' : IntKind) (m n : Int) : vBin op t cx cy (.v (.int k m)) (.v (.int k' n)) K = (sameKind op k k' = true ∧ vBinI op k m n K) := rfl
theorem q_bin_ss (op : BinOp) (t : TK) (cx cy : Bool) (a b : ByteArray) : vBin op t cx cy (.v (.string a)) (.v (.string b)) K = vBinS op a b K := rfl
theorem q_bin_be (cx cy a b : Bool) : vBin .eql .one cx cy (.v (.bool a)) (.v (.bool b)) K = K (.v (.bool (a == b))) := rfl
theorem q_bin_bn (cx cy a b : Bool) : vBin .neq .one cx cy (.v (.bool a)) (.v (.bool b)) K = K (.v (.bool (!(a == b)))) := rfl
theorem q_bin_nne (m : List String) (cx cy : Bool) : vBin .eql (.ifc m) cx cy (.v .nilIface) (.v .nilIface) K = ((cx || cy) = true ∧ K (.v (.bool true))) := rfl
theorem q_bin_nnn (m : List String) (cx cy : Bool) : vBin .neq (.ifc m) cx cy (.v .nilIface) (.v .nilIface) K = ((cx || cy) = true ∧ K (.v (.bool false))) := rfl
theorem q_bin_ine (m : List String) (cx cy : Bool) (t : TypeId) (d : DV) : vBin .eql (.ifc m) cx cy (.ifc t d) (.v .nilIface) K = K (.v (.bool false)) := rfl
theorem q_bin_inn (m : List String) (cx cy : Bool) (t : TypeId) (d : DV) : vBin .neq (.ifc m) cx cy (.ifc t d) (.v .nilIface) K = K (.v (.bool true)) := rfl
theorem q_bin_ppe (e : Nat) (cx cy : Bool) : vBin .eql (.ptr e) cx cy (.v (.pointer none)) (.v (.pointer none)) K = K (.v (.bool true)) := rfl
theorem q_bin_ppn (e : Nat) (cx cy : Bool) : vBin .neq (.ptr e) cx cy (.v (.pointer none)) (.v (.pointer none)) K = K (.v (.bool false)) := rfl
theorem q_bin_pe (e : Nat) (cx cy : Bool) (a : Addr) : vBin .eql (.ptr e) cx cy (.v (.pointer (some a))) (.v (.pointer none)) K = K (.v (.bool false)) := by simp [vBin, isPtr]
theorem q_bin_pn (e : Nat) (cx cy : Bool) (a : Addr) : vBin .neq (.ptr e) cx cy (.v (.pointer (some a))) (.v (.pointer none)) K = K (.v (.bool true)) := by simp [vBin, isPtr]
theorem q_bin_ipe (e : Nat) (cx cy : Bool) (ds : List DV) : vBin .eql (.ptr e) cx cy (.ip ds) (.v (.pointer none)) K = K (.v (.bool false)) := by simp [vBin, isPtr]
theorem q_bin_ipn (e : Nat) (cx cy : Bool) (ds : List DV) : vBin .neq (.ptr e) cx cy (.ip ds) (.v (.pointer none)) K = K (.v (.bool true)) := by simp [vBin, isPtr]
theorem q_un_not (b : Bool) : vUn .not (.v (.bool b)) K = K (.v (.bool (!b))) := rfl
theorem q_un_neg (k : IntKind) (n : Int) : vUn .neg (.v (.int k n)) K = K (.v (.int k (k.wrap (0 - n)))) := rfl
theorem q_conv_i (k0 k k1 : IntKind) (n : Int) : vConv (.int k0) (.int k) (.v (.int k1 n)) K = K (.v (.int k (k.wrap n))) := rfl
theorem q_conv_s (s : ByteArray) : vConv .str .str (.v (.string s)) K = K (.v (.string s)) := rfl
theorem q_nn_ptr (a : Addr) : notNil (.v (.pointer (some a))) = true := rfl
theorem q_nn_fn (f : FuncId) (a b : Array Value) : notNil (.v (.func (.func f) a b)) = true := rfl
theorem q_nn_ip (ds : List DV) : notNil (.ip ds) = true := rfl
theorem q_nn_ap (l n s i o : Nat) : notNil (.ap l n s i o) = true := rfl
theorem q_nn_ifc (t : TypeId) (d : DV) : notNil (.ifc t d) = true := rfl
theorem q_shr1_v (u : Value) : shr1 S (.v u) K2 = K2 (.v u) S := rfl
theorem q_shr1_sl (s : Nat) (f : Bool) (xs : List DV) : shr1 S (.sl s f xs) K2 = K2 (.sl s f xs) S := rfl
theorem q_shr1_ifc (t : TypeId) (d : DV) : shr1 S (.ifc t d) K2 = K2 (.ifc t d) S := rfl
theorem q_shr1_ip (ds : List DV) : shr1 S (.ip ds) K2 = K2 (.ip ds) S := rfl
theorem q_shr1_any : shr1 S .any K2 = K2 .any S := rfl
theorem q_shr1s_nil (K3 : List DV → St → Prop) : shr1s S [] K3 = K3 [] S := rfl
theorem q_shr1s_cons (d : DV) (ds : List DV) (K3 : List DV → St → Prop) : shr1s S (d :: ds) K3 = shr1 S d fun e S => shr1s S ds fun es S => K3 (e :: es) S := rfl
theorem q_shr_v (u : Value) : shr S (.v u) K2 = K2 (.v u) S := rfl
theorem q_shr_sl (s : Nat) (f : Bool) (xs : List DV) : shr S (.sl s f xs) K2 = K2 (.sl s f xs) S := rfl
theorem q_shr_ifc (t : TypeId) (d : DV) : shr S (.ifc t d) K2 = K2 (.ifc t d) S := rfl
theorem q_shr_ip (ds : List DV) : shr S (.ip ds) K2 = K2 (.ip ds) S := rfl
theorem q_shr_any : shr S .any K2 = K2 .any S := rfl
theorem q_shr_acc (l n : Nat) : shr S (.acc l n) K2 = shr1 S (.acc l n) K2 := rfl
theorem q_shr_agg (ds : List DV) : shr S (.agg ds) K2 = shr1s S ds fun ds S => K2 (.agg ds) S := rfl
theorem q_shrs_nil (K3 : List DV → St → Prop) : shrs S [] K3 = K3 [] S := rfl
theorem q_shrs_cons (d : DV) (ds : List DV) (K3 : List DV → St → Prop) : shrs S (d :: ds) K3 = shr S d fun e S => shrs S ds fun es S => K3 (e :: es) S := rfl
theorem q_shrT_v (u : Value) : shrT S (.v u) K2 = K2 (.v u) S := rfl
theorem q_shrT_sl (s : Nat) (f : Bool) (xs : List DV) : shrT S (.sl s f xs) K2 = K2 (.sl s f xs) S := rfl
theorem q_shrT_ifc (t : TypeId) (d : DV) : shrT S (.ifc t d) K2 = K2 (.ifc t d) S := rfl
theorem q_shrT_acc (l n : Nat) : shrT S (.acc l n) K2 = shr1 S (.acc l n) K2 := rfl
theorem q_shrT_agg (ds : List DV) : shrT S (.agg ds) K2 = shr1s S ds fun ds S => K2 (.agg ds) S := rfl
theorem q_shrT_tup (ds : List DV) : shrT S (.tup ds) K2 = shrs S ds fun ds S => K2 (.tup ds) S := rfl
theorem q_bnd_none (z : Int) (K4 : Int → Prop) : bnd none z K4 = K4 z := rfl
theorem q_bnd_some (k : IntKind) (n z : Int) (K4 : Int → Prop) : bnd (some (.v (.int k n))) z K4 = K4 n := rfl
theorem q_slice_sl (e s b s' : Nat) (f : Bool) (xs : List DV) (lo hi mx : Option DV) : vSlice (.sl e s b true) (.sl s' f xs) lo hi mx K = ((s' = s ∨ xs = []) ∧ bnd lo 0 fun l => bnd hi xs.length fun h => bnd mx h fun m => 0 ≤ l ∧ l ≤ h ∧ h ≤ m ∧ m ≤ xs.length ∧
      K (.sl s (if mx.isSome then decide (m = h) else (f && (hi.isNone || xs.isEmpty))) ((xs.take h.toNat).drop l.toNat))) := rfl
theorem q_slice_str (s : ByteArray) (lo hi mx : Option DV) : vSlice .str (.v (.string s)) lo hi mx K = (mx.isNone = true ∧ bnd lo 0 fun l => bnd hi s.size fun h => 0 ≤ l ∧ l ≤ h ∧ h ≤ s.size ∧ K (.v (.string (s.extract l.toNat h.toNat)))) := rfl
theorem q_len_sl (e s b : Nat) (i : Bool) (s' : Nat) (f : Bool) (xs : List DV) : vLen (.sl e s b i) (.sl s' f xs) K = K (.v (.int .i64 xs.length)) := rfl
theorem q_len_acc (e s b : Nat) (i : Bool) (l n : Nat) : vLen (.sl e s b i) (.acc l n) K = K (.v (.int .i64 n)) := rfl
theorem q_len_str (s : ByteArray) : vLen .str (.v (.string s)) K = K (.v (.int .i64 s.size)) := rfl
theorem q_min (k k' : IntKind) (m n : Int) : vMin (.v (.int k m)) (.v (.int k' n)) K = K (.v (.int k (if n < m then n else m))) := rfl
theorem q_max (k k' : IntKind) (m n : Int) : vMax (.v (.int k m)) (.v (.int k' n)) K = K (.v (.int k (if m < n then n else m))) := rfl
theorem q_sliceX_sl (k : TK) (s : Nat) (f : Bool) (xs : List DV) (lo hi mx : Option DV) : vSliceX k S (.sl s f xs) lo hi mx K2 = vSlice k (.sl s f xs) lo hi mx (K2 · S) := rfl
theorem q_sliceX_v (k : TK) (u : Value) (lo hi mx : Option DV) : vSliceX k S (.v u) lo hi mx K2 = vSlice k (.v u) lo hi mx (K2 · S) := rfl
theorem q_sliceX_acc (k : TK) (l n : Nat) (lo hi mx : Option DV) : vSliceX k S (.acc l n) lo hi mx K2 = ((lo.isNone = true ∧ mx.isNone = true ∧ isZ n hi ∧ (∃ e s b, k = .sl e s b true) ∧ vCut0 S (.acc l n) (atZ hi) K2) ∨ vSliceS k S (.acc l n) lo hi mx K2) := rfl
theorem q_isZ (k : IntKind) (m : Nat) (n : Int) : isZ m (some (.v (.int k n))) = ((n == 0) = true ∨ (0 ≤ n ∧ n ≤ m)) := rfl
theorem q_atZ (k : IntKind) (n : Int) : atZ (some (.v (.int k n))) = n.toNat := rfl
theorem q_isZ_n (m : Nat) : isZ m none = False := rfl
theorem q_isNilC_t (t : Nat) : isNilC (.tmp t) = false := rfl
theorem q_isNilC_g (t : Nat) : isNilC (.global t) = false := rfl
theorem q_isNilC_i (k : IntKind) (n : Int) : isNilC (.const (.int k n)) = false := rfl
theorem q_isNilC_b (b : Bool) : isNilC (.const (.bool b)) = false := rfl
theorem q_isNilC_s (s : ByteArray) : isNilC (.const (.string s)) = false := rfl
theorem q_isNilC_f : isNilC (.const .nilIface) = false := rfl
theorem q_isNilC_p (a : Option Addr) : isNilC (.const (.pointer a)) = false := rfl
theorem q_isNilC_n : isNilC (.const (.slice none 0 0)) = true := rfl
theorem q_nilEq_sl (e s b s' : Nat) (i f : Bool) (xs : List DV) : vNilEq .eql (.sl e s b i) (.sl s' f xs) K = ∀ b : Bool, (xs ≠ [] → b = false) → K (.v (.bool b)) := rfl
theorem q_nilEq_sn (e s b s' : Nat) (i f : Bool) (xs : List DV) : vNilEq .neq (.sl e s b i) (.sl s' f xs) K = ∀ b : Bool, (xs ≠ [] → b = true) → K (.v (.bool b)) := rfl
theorem q_nilEq_al (e s b l n : Nat) (i : Bool) : vNilEq .eql (.sl e s b i) (.acc l n) K = ∀ b : Bool, (n ≠ 0 → b = false) → K (.v (.bool b)) := rfl
theorem q_nilEq_an (e s b l n : Nat) (i : Bool) : vNilEq .neq (.sl e s b i) (.acc l n) K = ∀ b : Bool, (n ≠ 0 → b = true) → K (.v (.bool b)) := rfl
theorem q_appInt (e s b s' : Nat) (z : DV) (k : IntKind) (n : Int) : vAppInt (.sl e s b true) z S (.sl s' true []) (.v (.int k n)) K2 = (okE z = true ∧ 0 < n ∧ n * b ≤ 140737488355328 ∧ n ≤ 9223372036854775807 ∧ ∀ l, nin S.acc l → K2 (.acc l n.toNat) ⟨S.box, (l, .arr s (List.replicate n.toNat z)) :: S.acc⟩) := rfl
theorem q_storeX_v (n : Nat) (u : Value) (y : DV) (K5 : St → Prop) : vStoreX n S (.v u) y K5 = vStore n S (.v u) y K5 := rfl
theorem q_makeSlice (e s b : Nat) (z : DV) (k k' : IntKind) (n m : Int) : vMakeSlice (.sl e s b true) z (.v (.int k n)) (.v (.int k' m)) S K2 = (okE z = true ∧ 0 ≤ n ∧ n ≤ m ∧ m * b ≤ 140737488355328 ∧ m ≤ 9223372036854775807 ∧ ∀ l, nin S.acc l → K2 (.acc l n.toNat) ⟨S.box, (l, .arr s (List.replicate n.toNat z)) :: S.acc⟩) := rfl
theorem q_cap (e s b : Nat) (i : Bool) (s' : Nat) (xs : List DV) : vCap (.sl e s b i) (.sl s' true xs) K = K (.v (.int .i64 xs.length)) := rfl
theorem q_cont_sl (s : Nat) (f : Bool) (xs : List DV) (K6 : Nat → List DV → Prop) : contK S (.sl s f xs) K6 = K6 s xs := rfl
theorem q_cont_str (b : ByteArray) (K6 : Nat → List DV → Prop) : contK S (.v (.string b)) K6 = K6 1 (b.data.toList.map fun c => .v (.int .u8 c.toNat)) := rfl
theorem q_append (e s b : Nat) (k2 : TK) (x y : DV) : vAppend (.sl e s b true) k2 S x y K2 = (notInt k2 = true ∧ contK S y fun s2 ys => (s2 = s ∨ ys = []) ∧ vApp s b S x ys K2) := rfl
theorem q_app_nil (s0 s by' : Nat) (ys : List DV) : vApp s by' S (.sl s0 true []) ys K2 = (ys.length * by' ≤ 140737488355328 ∧ ys.length ≤ maxLen ∧ ∀ l, nin S.acc l → K2 (.acc l ys.length) ⟨S.box, (l, .arr s ys) :: S.acc⟩) := rfl
theorem q_app_cons (s0 s by' : Nat) (x : DV) (xs ys : List DV) : vApp s by' S (.sl s0 true (x :: xs)) ys K2 = (s0 = s ∧ ((x :: xs).length + ys.length) * by' ≤ 140737488355328 ∧ (x :: xs).length + ys.length ≤ maxLen ∧ ∀ l, nin S.acc l → K2 (.acc l ((x :: xs) ++ ys).length) ⟨S.box, (l, .tl s ((x :: xs) ++ ys)) :: S.acc⟩) := rfl
theorem q_call (f : FuncId) (a cap : Array Value) (ds : List DV) : vCall P w0 (.v (.func (.func f) a cap)) ds S K2 = (a.size = 0 ∧ cap.toList.all (fun u => u.oneCell') = true ∧ gX (okF P f) (callK S ds fun ds S => @AC P w0 f (ds ++ cap.toList.map .v) S ⟨K2⟩) (@XC P w0 f (ds ++ cap.toList.map .v) S ⟨K2⟩)) := rfl
theorem q_hasAcc_nil : hasAcc [] = false := rfl
theorem q_hasAcc_acc (l n : Nat) (ds : List DV) : hasAcc (.acc l n :: ds) = true := rfl
theorem q_hasAcc_v (u : Value) (ds : List DV) : hasAcc (.v u :: ds) = hasAcc ds := rfl
theorem q_hasAcc_sl (s : Nat) (f : Bool) (xs ds : List DV) : hasAcc (.sl s f xs :: ds) = hasAcc ds := rfl
theorem q_hasAcc_agg (xs ds : List DV) : hasAcc (.agg xs :: ds) = hasAcc ds := rfl
theorem q_hasAcc_ifc (t : TypeId) (d : DV) (ds : List DV) : hasAcc (.ifc t d :: ds) = hasAcc ds := rfl
theorem q_hasAcc_ip (xs ds : List DV) : hasAcc (.ip xs :: ds) = hasAcc ds := rfl
theorem q_callK_t (ds : List DV) (F : List DV → St → Prop) (h : hasAcc ds = true) : callK S ds F = (F ds S ∨ shrs S ds F) := by unfold callK; rw [h]
theorem q_callK_f (ds : List DV) (F : List DV → St → Prop) (h : hasAcc ds = false) : callK S ds F = shrs S ds F := by unfold callK; rw [h]
theorem q_res_tmp (fr : List DV) (t : Nat) : resK1 P fr S K (.tmp t) = K (fr.getD t ud) := rfl
theorem q_res_cell (fr : List DV) (a t : Nat) : resK1 P fr S K (.cell a t) = vLoad (tk P t) S (fr.getD a ud) K := rfl
theorem q_resK_one (fr : List DV) (r : ResultVar) : resK P fr S [r] K = resK1 P fr S K r := rfl
theorem q_resK_nil (fr : List DV) : resK P fr S [] K = K (.tup []) := rfl
theorem q_resK_two (fr : List DV) (r r' : ResultVar) (rs : List ResultVar) : resK P fr S (r :: r' :: rs) K = resKs P fr S (r :: r' :: rs) fun ds => K (.tup ds) := rfl
theorem q_g_none (ops : Array Oper) (fr : List DV) (A B : List DV → Prop) : guardK ops fr none A B = A fr := rfl
end
theorem q_oK_some {α : Type} (a : α) (F : α → Prop) : oK (some a) F = F a := rfl
theorem q_oK_none {α : Type} (F : α → Prop) : oK none F = False := rfl
def bK : Option Ob → (Nat → List DV → Prop) → (Nat → List DV → Prop) → Prop
  | some (.arr s xs), F, _ => F s xs
  | some (.tl s xs), _, G => G s xs
  | _, _, _ => False
theorem q_bK_arr (s : Nat) (xs : List DV) (F G : Nat → List DV → Prop) : bK (some (.arr s xs)) F G = F s xs := rfl
theorem q_bK_tl (s : Nat) (xs : List DV) (F G : Nat → List DV → Prop) : bK (some (.tl s xs)) F G = G s xs := rfl
def fiK (p : Option (Nat × Nat × Bool)) (x : DV) (K : DV → Prop) : Prop := match p with
  | some (off, sz, _) => sz ≠ 0 ∧ (match x with
      | .v (.pointer (some ⟨b, o, none⟩)) => K (.v (.pointer (some ⟨b, o + off, none⟩)))
      | .ip ds => off ≤ ds.length ∧ K (.ip (ds.drop off))
      | .ap l n s i o => K (.ap l n s i (o + off))
      | _ => False)
  | none => False
def fvK (p : Option (Nat × Nat × Bool)) (ds : List DV) (K : DV → Prop) : Prop := match p with
  | some (off, sz, true) => off + sz ≤ ds.length ∧ K (.agg ((ds.drop off).take sz))
  | some (off, sz, false) => off + sz ≤ ds.length ∧ oK (ds[off]?) K
  | none => False
def gD (t : Nat) (d : DV) (fr : List DV) (want : Bool) (A B : List DV → Prop) : Prop := match d with
  | .v (.bool b) => (b = want → A (fr.set t (.v (.bool want)))) ∧ (b = !want → B (fr.set t (.v (.bool !want))))
  | .tup [] => B fr
  | _ => False
def gK (t : Option Tmp) (fr : List DV) (want : Bool) (A B : List DV → Prop) : Prop := match t with
  | none => B fr
  | some t => gD t (fr.getD t ud) fr want A B
def buK (k : TK) (z : DV) (parts : List (Nat × DV)) (K : DV → Prop) : Prop := match k, z with
  | .st fs _, .agg zs => oK (fillD fs zs parts) fun ds => K (.agg ds)
  | _, _ => False

section
variable {P : Program} {w0 : W0} (K : DV → Prop) (K2 : DV → St → Prop) (S : St)
theorem q_load_box (k : TK) (b o : Nat) : vLoad k S (.v (.pointer (some ⟨b, o, none⟩))) K = oK (lk S.box b) fun ds => ldK k (ds.drop o) K := by
  cases h : lk S.box b <;> simp [vLoad, oK, h]
theorem q_load_ap (k : TK) (l n s i o : Nat) : vLoad k S (.ap l n s i o) K = bK (lk S.acc l) (fun s' xs => xs.length = n ∧ s' = s ∧ exK xs i fun d => ldK k ((cd d).drop o) K) (fun s' xs => xs.length = n ∧ s' = s ∧ exK xs i fun d => ldK k ((cd d).drop o) K) := by
  cases h : lk S.acc l with
  | none => simp [vLoad, bK, h]
  | some o => cases o <;> simp [vLoad, bK, h, exK]
theorem q_slice_row (e s b bb o n c : Nat) (lo hi mx : Option DV) : vSlice (.sl e s b true) (.v (.slice (some ⟨bb, o, none⟩) n c)) lo hi mx K = bnd lo 0 fun l => bnd hi n fun h => bnd mx c fun m => 0 ≤ l ∧ l ≤ h ∧ h ≤ m ∧ m ≤ c ∧
      K (.v (.slice (some ⟨bb, if m.toNat = l.toNat then o else o + l.toNat * s, none⟩) (h.toNat - l.toNat) (m.toNat - l.toNat))) := rfl
theorem q_len_row (e s b : Nat) (i : Bool) (a : Option Addr) (n c : Nat) : vLen (.sl e s b i) (.v (.slice a n c)) K = K (.v (.int .i64 n)) := rfl
theorem q_cap_row (e s b : Nat) (i : Bool) (a : Option Addr) (n c : Nat) : vCap (.sl e s b i) (.v (.slice a n c)) K = K (.v (.int .i64 c)) := rfl
theorem q_isRow_row (a : Addr) (n c : Nat) : isRow (.v (.slice (some a) n c)) = true := rfl
theorem q_isRow_sl (s : Nat) (f : Bool) (xs : List DV) : isRow (.sl s f xs) = false := rfl
theorem q_isRow_acc (l n : Nat) : isRow (.acc l n) = false := rfl
theorem q_isRow_ap (l n s i o : Nat) : isRow (.ap l n s i o) = false := rfl
theorem q_rows_row (s b o m c : Nat) (F : Nat → List DV → Prop) : rowsK S s (.v (.slice (some ⟨b, o, none⟩) m c)) F = oK (lk S.box b) fun es => o + m * s ≤ es.length ∧ F m ((es.drop o).take (m * s)) := by
  cases h : lk S.box b <;> simp [rowsK, oK, h]
theorem q_rows_sl (s s' : Nat) (f : Bool) (ys : List DV) (F : Nat → List DV → Prop) : rowsK S s (.sl s' f ys) F = ((s' = s ∨ ys = []) ∧ (∀ d, d ∈ ys → okE d = true) ∧ F ys.length (ys.flatMap cd)) := rfl
theorem q_rows_acc (s l n : Nat) (F : Nat → List DV → Prop) : rowsK S s (.acc l n) F = contK S (.acc l n) fun s' ys => (s' = s ∨ ys = []) ∧ (∀ d, d ∈ ys → okE d = true) ∧ F ys.length (ys.flatMap cd) := rfl
theorem q_rows_str (s : Nat) (x : ByteArray) (F : Nat → List DV → Prop) : rowsK S s (.v (.string x)) F = contK S (.v (.string x)) fun s' ys => (s' = s ∨ ys = []) ∧ (∀ d, d ∈ ys → okE d = true) ∧ F ys.length (ys.flatMap cd) := rfl
theorem q_copy (e s b bb o n c : Nat) (y : DV) : vCopy (.sl e s b true) S (.v (.slice (some ⟨bb, o, none⟩) n c)) y K2 = oK (lk S.box bb) fun ds => o + n * s ≤ ds.length ∧ copyK S s ds o bb n y K2 := by
  cases h : lk S.box bb with
  | none => simp [vCopy, oK, h]
  | some ds =>
    simp only [vCopy, oK, h, copyK]
    split
    · rename_i b2 o2 m c2
      cases h2 : lk S.box b2 <;> simp [oK]
    · rfl
theorem q_copyK_row (s bb o n : Nat) (ds : List DV) (b2 o2 m c2 : Nat) : copyK S s ds o bb n (.v (.slice (some ⟨b2, o2, none⟩) m c2)) K2 = oK (lk S.box b2) fun es => o2 + m * s ≤ es.length ∧ K2 (.v (.int .i64 (min m n : Nat))) ⟨up S.box bb (putL ds o ((es.drop o2).take (min m n * s))), S.acc⟩ := rfl
theorem q_copyK_sl (s bb o n : Nat) (ds : List DV) (s' : Nat) (f : Bool) (ys : List DV) : copyK S s ds o bb n (.sl s' f ys) K2 = ((s' = s ∨ ys = []) ∧ (∀ d, d ∈ ys → okE d = true) ∧ ys.length ≤ n ∧ K2 (.v (.int .i64 ys.length)) ⟨up S.box bb (putL ds o (ys.flatMap cd)), S.acc⟩) := rfl
theorem q_copyK_acc (s bb o n : Nat) (ds : List DV) (l m : Nat) : copyK S s ds o bb n (.acc l m) K2 = contK S (.acc l m) fun s' ys => (s' = s ∨ ys = []) ∧ (∀ d, d ∈ ys → okE d = true) ∧ ys.length ≤ n ∧ K2 (.v (.int .i64 ys.length)) ⟨up S.box bb (putL ds o (ys.flatMap cd)), S.acc⟩ := rfl
theorem q_clear (e s b bb o n c : Nat) (z : DV) : vClear (.sl e s b true) z S (.v (.slice (some ⟨bb, o, none⟩) n c)) K2 = oK (lk S.box bb) fun ds => okE z = true ∧ o + n * s ≤ ds.length ∧ K2 ud ⟨up S.box bb (putL ds o (zeroL z n)), S.acc⟩ := by
  cases h : lk S.box bb <;> simp [vClear, oK, h]
theorem q_appC (e s by' b o n c : Nat) (k2 : TK) (y : DV) : vAppC (.sl e s by' true) k2 S (.v (.slice (some ⟨b, o, none⟩) n c)) y K2 = oK (lk S.box b) fun ds => notInt k2 = true ∧ o + c * s ≤ ds.length ∧ n ≤ c ∧ rowsK S s y fun m cs =>
      (n + m ≤ c → K2 (.v (.slice (some ⟨b, o, none⟩) (n + m) c)) ⟨up S.box b (putL ds (o + n * s) cs), S.acc⟩) ∧
      (c < n + m → (n + m) * by' ≤ 140737488355328 ∧ n + m ≤ maxLen ∧ ∀ C, n + m ≤ C → C ≤ maxLen → ∀ b2, nin S.box b2 →
        K2 (.v (.slice (some ⟨b2, 0, none⟩) (n + m) C)) ⟨(b2, (ds.drop o).take (n * s) ++ cs ++ List.replicate ((C - (n + m)) * s) .any) :: S.box, S.acc⟩) := by
  cases h : lk S.box b <;> simp [vAppC, oK, h]
theorem q_appZ (e s by' b o n c : Nat) (k : IntKind) (m : Int) (z : DV) : vAppZ (.sl e s by' true) z S (.v (.slice (some ⟨b, o, none⟩) n c)) (.v (.int k m)) K2 = oK (lk S.box b) fun ds => okE z = true ∧ o + c * s ≤ ds.length ∧ n ≤ c ∧ 0 < m ∧ c < n + m.toNat ∧ (n + m.toNat) * by' ≤ 140737488355328 ∧ n + m.toNat ≤ maxLen ∧ ∀ C, n + m.toNat ≤ C → C ≤ maxLen → ∀ b2, nin S.box b2 →
        K2 (.v (.slice (some ⟨b2, 0, none⟩) (n + m.toNat) C)) ⟨(b2, (ds.drop o).take (n * s) ++ zeroL z m.toNat ++ List.replicate ((C - (n + m.toNat)) * s) .any) :: S.box, S.acc⟩ := by
  cases h : lk S.box b <;> simp [vAppZ, oK, h]
theorem q_field (fs : List (Nat × Nat × Bool)) (n f : Nat) (x : DV) : vField (.st fs n) f x K = fiK (fs[f]?) x K := by
  cases h : fs[f]? <;> simp only [vField, fiK, h] <;> cases x <;> rfl
theorem q_fi_ptr (off sz b o : Nat) (ag : Bool) : fiK (some (off, sz, ag)) (.v (.pointer (some ⟨b, o, none⟩))) K = (sz ≠ 0 ∧ K (.v (.pointer (some ⟨b, o + off, none⟩)))) := rfl
theorem q_fi_ip (off sz : Nat) (ag : Bool) (ds : List DV) : fiK (some (off, sz, ag)) (.ip ds) K = (sz ≠ 0 ∧ off ≤ ds.length ∧ K (.ip (ds.drop off))) := rfl
theorem q_fi_ap (off sz l m s i o : Nat) (ag : Bool) : fiK (some (off, sz, ag)) (.ap l m s i o) K = (sz ≠ 0 ∧ K (.ap l m s i (o + off))) := rfl
theorem q_fieldV (fs : List (Nat × Nat × Bool)) (n f : Nat) (ds : List DV) : vFieldV (.st fs n) f (.agg ds) K = fvK (fs[f]?) ds K := by
  cases h : fs[f]? with
  | none => simp [vFieldV, fvK, h]
  | some p => obtain ⟨off, sz, ag⟩ := p; cases ag <;> simp only [vFieldV, fvK, h, oK] <;> cases ds[off]? <;> rfl
theorem q_fv_t (off sz : Nat) (ds : List DV) : fvK (some (off, sz, true)) ds K = (off + sz ≤ ds.length ∧ K (.agg ((ds.drop off).take sz))) := rfl
theorem q_fv_f (off sz : Nat) (ds : List DV) : fvK (some (off, sz, false)) ds K = (off + sz ≤ ds.length ∧ oK (ds[off]?) K) := rfl
theorem q_extract (i : Nat) (ds : List DV) : vExtract i (.tup ds) K = oK (ds[i]?) K := by
  cases h : ds[i]? <;> simp [vExtract, oK, h]
theorem q_shr1_acc (l n : Nat) : shr1 S (.acc l n) K2 = bK (lk S.acc l) (fun s xs => xs.length = n ∧ K2 (.sl s false xs) ⟨S.box, up S.acc l (.tl s xs)⟩) (fun s xs => xs.length = n ∧ K2 (.sl s false xs) S) := by
  cases h : lk S.acc l with
  | none => simp [shr1, bK, h]
  | some o => cases o <;> simp [shr1, bK, h]
theorem q_store (n b o : Nat) (y : DV) (K5 : St → Prop) : vStore n S (.v (.pointer (some ⟨b, o, none⟩))) y K5 = (okE y = true ∧ (cd y).length = n ∧ oK (lk S.box b) fun ds => o + n ≤ ds.length ∧ K5 ⟨up S.box b (setAll ds o (cd y)), S.acc⟩) := by
  cases h : lk S.box b <;> simp [vStore, oK, h]
theorem q_storeX_ap (n l m s i o : Nat) (y : DV) (K5 : St → Prop) : vStoreX n S (.ap l m s i o) y K5 = (okE y = true ∧ (cd y).length = n ∧ bK (lk S.acc l) (fun s' xs => s' = s ∧ xs.length = m ∧ o + n ≤ s ∧ exK xs i fun d => oK (elSet d o n s y) fun d' => K5 ⟨S.box, up S.acc l (.arr s (xs.set i d'))⟩) (fun _ _ => False)) := by
  cases h : lk S.acc l with
  | none => simp [vStoreX, bK, h]
  | some o => cases o with
    | tl s' xs => simp [vStoreX, bK, h]
    | xo f => simp [vStoreX, bK, h]
    | arr s' xs =>
      simp only [vStoreX, bK, h, exK]
      refine propext (and_congr Iff.rfl (and_congr Iff.rfl (and_congr Iff.rfl (and_congr Iff.rfl (and_congr Iff.rfl (exists_congr fun d => and_congr Iff.rfl (and_congr Iff.rfl ?_)))))))
      cases elSet d o n s y with
      | none => simp [oK]
      | some x => simp [oK]
theorem q_cont_acc (l n : Nat) (K6 : Nat → List DV → Prop) : contK S (.acc l n) K6 = bK (lk S.acc l) (fun s xs => xs.length = n ∧ K6 s xs) (fun s xs => xs.length = n ∧ K6 s xs) := by
  cases h : lk S.acc l with
  | none => simp [contK, bK, h]
  | some o => cases o <;> simp [contK, bK, h]
theorem q_app_acc (l n s by' : Nat) (ys : List DV) : vApp s by' S (.acc l n) ys K2 = bK (lk S.acc l)
    (fun s' xs => s' = s ∧ xs.length = n ∧ (xs.length + ys.length) * by' ≤ 140737488355328 ∧ xs.length + ys.length ≤ maxLen ∧ K2 (.acc l (xs ++ ys).length) ⟨S.box, up S.acc l (.arr s (xs ++ ys))⟩)
    (fun s' xs => s' = s ∧ xs.length = n ∧ (xs.length + ys.length) * by' ≤ 140737488355328 ∧ xs.length + ys.length ≤ maxLen ∧ K2 (.acc l (xs ++ ys).length) ⟨S.box, up S.acc l (.tl s (xs ++ ys))⟩) := by
  cases h : lk S.acc l with
  | none => simp [vApp, bK, h]
  | some o => cases o <;> simp [vApp, bK, h]
theorem q_guard (ops : Array Oper) (fr : List DV) (j : Nat) (want : Bool) (A B : List DV → Prop) : guardK ops fr (some (j, want)) A B = gK ((ops[j]?).bind (·.dst)) fr want A B := by
  cases h : (ops[j]?).bind (·.dst) <;> simp only [guardK, gK, h] <;> rfl
theorem q_gK_none (fr : List DV) (want : Bool) (A B : List DV → Prop) : gK none fr want A B = B fr := rfl
theorem q_gK_some (t : Nat) (fr : List DV) (want : Bool) (A B : List DV → Prop) : gK (some t) fr want A B = gD t (fr.getD t ud) fr want A B := rfl
theorem q_gD_bool (t : Nat) (b : Bool) (fr : List DV) (want : Bool) (A B : List DV → Prop) : gD t (.v (.bool b)) fr want A B = ((b = want → A (fr.set t (.v (.bool want)))) ∧ (b = !want → B (fr.set t (.v (.bool !want))))) := rfl
theorem q_gD_ud (t : Nat) (fr : List DV) (want : Bool) (A B : List DV → Prop) : gD t ud fr want A B = B fr := rfl
theorem q_func (fn : Fn) (a b : List DV) : vFunc fn a b K = oK (vals a) fun us => oK (vals b) fun vs => K (.v (.func fn us.toArray vs.toArray)) := by
  cases h : vals a <;> cases h' : vals b <;> simp [vFunc, oK, h, h']
theorem q_build (t : TypeId) (parts : List (Nat × DV)) : vBuild P t parts K = buK (tk P t) (zD P t) parts K := by
  cases h : tk P t <;> cases h' : zD P t <;> simp only [vBuild, buK, h, h'] <;> (rename_i fs _ zs; cases h2 : fillD fs zs parts <;> simp [oK])
theorem q_bu (fs : List (Nat × Nat × Bool)) (n : Nat) (zs : List DV) (parts : List (Nat × DV)) : buK (.st fs n) (.agg zs) parts K = oK (fillD fs zs parts) fun ds => K (.agg ds) := rfl
theorem q_bsl (e s b len : Nat) (z : DV) (parts : List (Nat × DV)) : vBuildSlice (.sl e s b true) z len parts K = (okE z = true ∧ (cd z).length = s ∧ len * s ≤ 16777216 ∧ oK (fillE s (List.replicate len z) parts) fun xs => K (.sl s true xs)) := by
  cases h : fillE s (List.replicate len z) parts <;> simp [vBuildSlice, oK, h]
end
end Aml

namespace Aml
open Go Go.RowKit
set_option linter.unusedVariables false
set_option linter.unusedSimpArgs false

/-- One abstract value, the store as it was. -/
def QY (P : Program) (w0 : W0) (S : St) (o : Oper) (fr : List DV) (d : DV) : Prop := YieldsE P w0 o (ev fr) S fun d' S' => d' = d ∧ S' = S
/-- Is the operation wanted? -/
def wantB (ops : Array Oper) (fr : List DV) (gd : Option (Nat × Bool)) : Option Bool := match gd with
  | none => some true
  | some (j, want) => match (ops[j]?).bind (·.dst) with
    | none => some false
    | some t => match fr.getD t ud with
      | .v (.bool b) => some (b == want)
      | .tup [] => some false
      | _ => none
/-- The walk in the text's order. -/
def LQ (P : Program) (w0 : W0) (S : St) (ops : Array Oper) (K : List DV → Prop) : List Oper → List DV → Prop
  | [], fr => K fr
  | o :: rest, fr => guardK ops fr o.guard (fun fr => ∃ d, QY P w0 S o fr d ∧ LQ P w0 S ops K rest (pt fr o.dst d)) (fun fr => LQ P w0 S ops K rest (pt fr o.dst ud))
def qOp (P : Program) (w0 : W0) (S : St) (ops : Array Oper) (i : Nat) (K : List DV → Prop) (fr : List DV) : Prop :=
  match ops[i]? with
  | none => K fr
  | some o => (wantB ops fr o.guard = some true ∧ ∃ d, QY P w0 S o fr d ∧ K (pt fr o.dst d)) ∨ (wantB ops fr o.guard = some false ∧ K (pt fr o.dst ud))
def wpAnyD (P : Program) (w0 : W0) (S : St) (md : Region.Mode) (ops : Array Oper) (K : List DV → Prop) : Nat → Array Bool → List DV → Prop
  | 0, listed, fr => Region.ready md ops listed = [] ∧ K fr
  | fuel + 1, listed, fr => (Region.ready md ops listed = [] → K fr) ∧ ∀ i ∈ Region.ready md ops listed, qOp P w0 S ops i (wpAnyD P w0 S md ops K fuel (listed.setIfInBounds i true)) fr
def YD (P : Program) (w0 : W0) (S : St) (ops : Array Oper) (o : Oper) (d : DV) (fr : List DV) : Prop :=
  (wantB ops fr o.guard = some true ∧ QY P w0 S o fr d) ∨ (wantB ops fr o.guard = some false ∧ d = ud)

section
variable {P : Program} {w0 : W0} {S : St} {ops : Array Oper} {md : Region.Mode}

theorem set_same {fr : List DV} {t : Nat} {d : DV} (h : fr.getD t ud = d) (hd : d ≠ ud) : fr.set t d = fr := by
  rcases Nat.lt_or_ge t fr.length with hl | hl
  · rw [List.getD_eq_getElem?_getD, List.getElem?_eq_getElem hl, Option.getD_some] at h
    rw [← h, List.set_getElem_self]
  · rw [List.getD_eq_getElem?_getD, List.getElem?_eq_none hl] at h
    exact absurd h.symm hd
theorem guardK_want {fr : List DV} {gd : Option (Nat × Bool)} {A B : List DV → Prop} (h : guardK ops fr gd A B) : (wantB ops fr gd = some true ∧ A fr) ∨ (wantB ops fr gd = some false ∧ B fr) := by
  unfold guardK at h
  unfold wantB
  split at h
  · exact .inl ⟨rfl, h⟩
  · rename_i j want
    split at h
    · rename_i hj
      exact .inr ⟨by simp only [hj], h⟩
    · rename_i t hj
      simp only [hj]
      split at h
      · rename_i b hb
        rw [hb]
        by_cases hw : b = want
        · have := h.1 hw
          rw [← hw, set_same hb (by simp [ud])] at this
          exact .inl ⟨by simp [hw], this⟩
        · have hw' : b = !want := by cases b <;> cases want <;> simp_all
          have := h.2 hw'
          rw [← hw', set_same hb (by simp [ud])] at this
          exact .inr ⟨by simp [hw], this⟩
      · rename_i hb
        rw [hb]
        exact .inr ⟨rfl, h⟩
      · exact h.elim
theorem want_guard {fr : List DV} {gd : Option (Nat × Bool)} {x : Bool} (h : wantB ops fr gd = some x) : guardK ops fr gd (fun _ => x = true) (fun _ => x = false) := by
  unfold wantB at h
  unfold guardK
  split at h
  · simpa using h.symm
  · rename_i j want
    split at h
    · rename_i hj; simp only [hj]; simpa using h.symm
    · rename_i t hj
      simp only [hj]
      split at h
      · rename_i b hb
        rw [hb]
        simp only [Option.some.injEq] at h
        exact ⟨fun e => by simp [← h, e], fun e => by simp [← h, e]⟩
      · rename_i hb; rw [hb]; simpa using h.symm
      · cases h
theorem wantB_sound {g : Gh} {fr : List DV} {a : Act} {o : Oper} {x : Bool} (hr : RepL g fr a.tmps.toList) (h : wantB ops fr o.guard = some x) : Region.wanted o (yielded ops a.tmps) = x := by
  rcases guard_sound (o := o) hr (want_guard h) with ⟨h1, _, _, h2⟩ | ⟨h1, _, _, h2⟩
  · rw [h1, h2]
  · rw [h1, h2]

theorem qOp_mono {i : Nat} {fr : List DV} {K K' : List DV → Prop} (h : ∀ fr, K fr → K' fr) (hh : qOp P w0 S ops i K fr) : qOp P w0 S ops i K' fr := by
  unfold qOp at *
  split
  · rename_i ho; simp only [ho] at hh; exact h _ hh
  · rename_i o ho
    simp only [ho] at hh
    rcases hh with ⟨h1, d, h2, h3⟩ | ⟨h1, h2⟩
    · exact .inl ⟨h1, d, h2, h _ h3⟩
    · exact .inr ⟨h1, h _ h2⟩
theorem YD.qOp {i : Nat} {o : Oper} {d : DV} {fr : List DV} (hi : ops[i]? = some o) (hy : YD P w0 S ops o d fr) {K : List DV → Prop} (h : K (pt fr o.dst d)) : qOp P w0 S ops i K fr := by
  unfold Aml.qOp
  simp only [hi]
  rcases hy with ⟨h1, h2⟩ | ⟨h1, rfl⟩
  · exact .inl ⟨h1, d, h2, h⟩
  · exact .inr ⟨h1, h⟩
theorem yd_of_qOp {i : Nat} {o : Oper} {fr : List DV} {K : List DV → Prop} (hi : ops[i]? = some o) (h : qOp P w0 S ops i K fr) : ∃ d, YD P w0 S ops o d fr ∧ K (pt fr o.dst d) := by
  unfold qOp at h
  simp only [hi] at h
  rcases h with ⟨h1, d, h2, h3⟩ | ⟨h1, h2⟩
  · exact ⟨d, .inl ⟨h1, h2⟩, h3⟩
  · exact ⟨ud, .inr ⟨h1, rfl⟩, h2⟩

theorem yields_congr {o : Oper} {ρD ρD' : Operand → DV} {K : DV → St → Prop} (h : ∀ x, x ∈ o.op.operands.toList → ρD x = ρD' x) (hy : YieldsE P w0 o ρD S K) : YieldsE P w0 o ρD' S K :=
  fun g w ρ h1 h2 h3 => hy g w ρ h1 (fun x hx => by rw [h x hx]; exact h2 x hx) h3
theorem getD_set {fr : List DV} {t t' : Nat} {d : DV} (h : t ≠ t') : (fr.set t d).getD t' ud = fr.getD t' ud := by
  simp only [List.getD_eq_getElem?_getD, List.getElem?_set, if_neg h]
theorem ev_put {fr : List DV} {dst : Option Tmp} {d : DV} {o : Oper} (h : ∀ t, dst = some t → t ∉ o.looksAt ops) : ∀ x, x ∈ o.op.operands.toList → ev (pt fr dst d) x = ev fr x := by
  intro x hx
  cases dst with
  | none => rfl
  | some t =>
    cases x with
    | tmp t' =>
      have : t ≠ t' := by
        rintro rfl
        exact h t rfl (List.mem_append_left _ (List.mem_filterMap.2 ⟨.tmp t, hx, rfl⟩))
      exact getD_set this
    | _ => rfl
theorem want_put {fr : List DV} {dst : Option Tmp} {d : DV} {o : Oper} (h : ∀ t, dst = some t → t ∉ o.looksAt ops) : wantB ops (pt fr dst d) o.guard = wantB ops fr o.guard := by
  cases dst with
  | none => rfl
  | some t =>
    unfold wantB
    cases hg : o.guard with
    | none => rfl
    | some gw =>
      obtain ⟨j, want⟩ := gw
      simp only
      cases ht : (ops[j]?).bind (·.dst) with
      | none => rfl
      | some t' =>
        have hne : t ≠ t' := fun e => h t rfl (by subst e; simp [Oper.looksAt, hg, ht])
        simp only [pt]
        rw [getD_set hne]
theorem pt_comm (fr : List DV) {x y : Option Tmp} (d e : DV) (h : ∀ t, x = some t → y ≠ some t) : pt (pt fr x d) y e = pt (pt fr y e) x d := by
  cases x with
  | none => rfl
  | some t =>
    cases y with
    | none => rfl
    | some u =>
      have hne : t ≠ u := fun he => h t rfl (he ▸ rfl)
      simp only [pt]
      exact List.set_comm _ _ hne
theorem YD.put {o : Oper} {d : DV} {fr : List DV} (hy : YD P w0 S ops o d fr) {dst : Option Tmp} {e : DV} (h : ∀ t, dst = some t → t ∉ o.looksAt ops) : YD P w0 S ops o d (pt fr dst e) := by
  unfold YD at *
  rw [want_put h]
  exact hy.imp (fun ⟨a, b⟩ => ⟨a, yields_congr (fun x hx => (ev_put (ops := ops) h x hx).symm) b⟩) id
theorem qOp_put {j : Nat} {oi oj : Oper} {d : DV} (hj : ops[j]? = some oj) (hap : oi.apart ops oj = true) {K : List DV → Prop} {fr : List DV} (hy : YD P w0 S ops oi d fr) (h : qOp P w0 S ops j K (pt fr oi.dst d)) :
    qOp P w0 S ops j (fun fr' => YD P w0 S ops oi d fr' ∧ K (pt fr' oi.dst d)) fr := by
  obtain ⟨h1, h2, h3⟩ := Oper.apart_spec hap
  unfold Aml.qOp at *
  simp only [hj] at *
  rw [want_put h1] at h
  rcases h with ⟨hw, e, hq, hk⟩ | ⟨hw, hk⟩
  · exact .inl ⟨hw, e, yields_congr (fun x hx => ev_put (ops := ops) h1 x hx) hq, hy.put h3, by rw [← pt_comm fr d e h2]; exact hk⟩
  · exact .inr ⟨hw, hy.put h3, by rw [← pt_comm fr d ud h2]; exact hk⟩

theorem wpAnyD_first {K : List DV → Prop} {i : Nat} {oi : Oper} {d : DV} (hi : ops[i]? = some oi) :
    ∀ (fuel : Nat) (listed : Array Bool) (fr : List DV),
      (∀ j oj, ops[j]? = some oj → j ≠ i → listed.getD j true = false → (∀ e ∈ oj.after, Region.binds md e = true → e.on ≠ i) → oi.apart ops oj = true) →
      i ∈ Region.ready md ops listed → YD P w0 S ops oi d fr →
      wpAnyD P w0 S md ops K fuel (listed.setIfInBounds i true) (pt fr oi.dst d) → wpAnyD P w0 S md ops K (fuel + 1) listed fr := by
  intro fuel
  induction fuel with
  | zero =>
    intro listed fr _ hr hy H
    refine ⟨fun h => (by rw [h] at hr; cases hr), fun j hj => ?_⟩
    by_cases hji : j = i
    · subst hji; exact hy.qOp hi H
    · have := ready_mono hj hji
      rw [H.1] at this
      cases this
  | succ fuel ih =>
    intro listed fr hfree hr hy H
    refine ⟨fun h => (by rw [h] at hr; cases hr), fun j hj => ?_⟩
    by_cases hji : j = i
    · subst hji; exact hy.qOp hi H
    · have h1 := H.2 j (ready_mono hj hji)
      obtain ⟨hjun, oj, hoj, hall⟩ := mem_ready.1 hj
      have hnot : ∀ e ∈ oj.after, Region.binds md e = true → e.on ≠ i := fun e he hb heq => by
        have h1 := hall e he hb
        have h0 := (mem_ready.1 hr).1
        rw [heq] at h1
        rcases Nat.lt_or_ge i listed.size with h' | h'
        · simp [h'] at h0 h1; rw [h0] at h1; cases h1
        · simp [Array.getElem?_eq_none h'] at h1
      have h2 := qOp_put hoj (hfree j oj hoj hji hjun hnot) hy h1
      have hfree' : ∀ k ok, ops[k]? = some ok → k ≠ i → (listed.setIfInBounds j true).getD k true = false →
          (∀ e ∈ ok.after, Region.binds md e = true → e.on ≠ i) → oi.apart ops ok = true := fun k ok hk hki hun hno => by
        refine hfree k ok hk hki ?_ hno
        by_cases hjk : j = k
        · subst hjk; exact hjun
        · rw [getD_set_ne true hjk] at hun; exact hun
      refine qOp_mono (fun fr' h3 => ih (listed.setIfInBounds j true) fr' hfree' (ready_mono hr (Ne.symm hji)) h3.1 ?_) h2
      rw [Array.setIfInBounds_comm _ _ hji]
      exact h3.2

theorem wpAnyD_lex {K : List DV → Prop} : ∀ (l : List Oper) (k : Nat) (listed : Array Bool) (fr : List DV), (∀ j, l[j]? = ops[k + j]?) →
    Region.lexFrom md ops l.length k listed = true → LQ P w0 S ops K l fr → wpAnyD P w0 S md ops K l.length listed fr
  | [], _, _, _, _, hB, h => ⟨by simpa [Region.lexFrom] using hB, h⟩
  | o :: l, k, listed, fr, hl, hB, h => by
    have h0 : ops[k]? = some o := by simpa using (hl 0).symm
    simp only [List.length_cons, Region.lexFrom, Bool.and_eq_true] at hB
    obtain ⟨⟨hr, hf⟩, hB'⟩ := hB
    have hst : qOp P w0 S ops k (LQ P w0 S ops K l) fr := by
      unfold qOp
      simp only [h0]
      exact guardK_want h
    obtain ⟨d, hy, hK⟩ := yd_of_qOp h0 hst
    exact wpAnyD_first h0 l.length listed fr (Region.free_spec h0 hf) (by simpa using hr) hy
      (wpAnyD_lex l (k + 1) _ _ (fun j => by have := hl (j + 1); simpa [Nat.add_assoc, Nat.add_comm 1 j] using this) hB' hK)

theorem wpAny_of_D {ro : Option Nat} {g0 : Gh} {Q : Exit → List DV → St → Prop} : ∀ (fuel : Nat) (listed : Array Bool) (fr : List DV) (g : Gh) (a : Act) (w : World), g0.le g → Rel w0 g S w → RepL g fr a.tmps.toList → Dk w0 g.obj a w →
    wpAnyD P w0 S md ops (fun fr => Q .normal fr S) fuel listed fr → wpAnyIn (fz ro) 0 P md ops (Good w0 g0 Q) fuel listed a w
  | 0, listed, fr, g, a, w, k, h1, h2, h3, h => ⟨h.1, k.kd h3, g, fr, S, k, h1, h2, h.2⟩
  | fuel + 1, listed, fr, g, a, w, k, h1, h2, h3, h => by
    refine ⟨fun h0 => ⟨k.kd h3, g, fr, S, k, h1, h2, h.1 h0⟩, fun i hi => ?_⟩
    have hq := h.2 i hi
    unfold qOp at hq
    unfold wpOpIn
    split
    · rename_i ho; simp only [ho] at hq; exact wpAny_of_D fuel _ fr g a w k h1 h2 h3 hq
    · rename_i o ho
      simp only [ho] at hq
      rcases hq with ⟨hw, d, hy, hk⟩ | ⟨hw, hk⟩
      · have hw' := wantB_sound (o := o) h2 hw
        rw [if_pos hw']
        refine wpIn_of_yields hy h1 (fun x _ => rep_ev h2 x) h3 fun g' d' u S' w' k1 k2 k3 k4 k5 => ?_
        obtain ⟨hd, hS⟩ := k4
        rw [hS] at k2
        rw [hd] at k3
        exact wpAny_of_D fuel _ _ g' _ _ (k.trans k1) k2 (repL_put (h2.mono k1) _ k3) (k1.dk k5) hk
      · have hw' := wantB_sound (o := o) h2 hw
        rw [if_neg (by simp [hw'])]
        exact ⟨fun _ _ => trivial, wpAny_of_D fuel _ _ g _ _ k h1 (repL_put h2 _ (rep_ud g)) (h3.keep (put_defers _ _ _) fun _ _ h _ => h) hk⟩

/-- A region that draws its order. -/
theorem awp_draw {id : Nat} {l : List Oper} {fr : List DV} {Q : Exit → List DV → St → Prop} (hm : P.follows .mixedOrders = true) (hB : Region.lexB .any l.toArray = true) (h : LQ P w0 S l.toArray (fun fr => Q .normal fr S) l fr) : AWp P w0 (.region id l.toArray true) fr S Q := by
  intro g a w h1 h2 h3
  simp only [Region.lexB, Bool.and_eq_true] at hB
  refine wpA_region_any hm fun ro => ?_
  have hR : Rel w0 g S { w with drawn := w.drawn + 1 } := h1.grow (below_drew w)
  have := wpAnyD_lex (P := P) (w0 := w0) (S := S) (md := .any) (ops := l.toArray) l 0 (Array.replicate l.toArray.size false) fr (by simp) (by simpa using hB.2) h
  have := wpAny_of_D (ro := ro) (g0 := g) (Q := Q) _ _ fr g a _ (.refl g) hR h2 (h3.keep rfl fun _ _ h _ => h) this
  simpa using this
end
end Aml

namespace Aml
open Go Go.RowKit
set_option linter.unusedVariables false
set_option linter.unusedSimpArgs false

section
variable {P : Program} {w0 : W0} {S : St} {K : DV → Prop}

theorem det_pick {c a b : DV} (h : vPick c a b K) : ∃ d, vPick c a b (· = d) ∧ K d := by
  unfold vPick at *
  split at h
  · rename_i t
    cases t
    · exact ⟨b, ⟨by simp, fun _ => rfl⟩, h.2 rfl⟩
    · exact ⟨a, ⟨fun _ => rfl, by simp⟩, h.1 rfl⟩
  · exact h.elim
theorem det_hd {ds : List DV} (h : hdK ds K) : ∃ d, hdK ds (· = d) ∧ K d := by
  unfold hdK at *
  split at h
  · exact ⟨_, rfl, h⟩
  · exact h.elim
theorem det_ld {k : TK} {ds : List DV} (h : ldK k ds K) : ∃ d, ldK k ds (· = d) ∧ K d := by
  unfold ldK at *
  split at h
  · exact ⟨_, ⟨h.1, rfl⟩, h.2⟩
  · exact ⟨_, ⟨h.1, rfl⟩, h.2⟩
  · exact h.elim
  · exact det_hd h
theorem det_load {k : TK} {x : DV} (h : vLoad k S x K) : ∃ d, vLoad k S x (· = d) ∧ K d := by
  unfold vLoad at *
  split at h
  · split at h
    · rename_i hb; (try simp only [hb]); exact det_ld h
    · exact h.elim
  · exact det_ld h
  · split at h
    · rename_i hb
      obtain ⟨h1, h2, d, h3, h4, h5⟩ := h
      obtain ⟨e, q1, q2⟩ := det_ld h5
      exact ⟨e, by first | exact ⟨h1, h2, d, h3, h4, q1⟩ | (simp only [hb]; exact ⟨h1, h2, d, h3, h4, q1⟩), q2⟩
    · rename_i hb
      obtain ⟨h1, h2, d, h3, h4, h5⟩ := h
      obtain ⟨e, q1, q2⟩ := det_ld h5
      exact ⟨e, by first | exact ⟨h1, h2, d, h3, h4, q1⟩ | (simp only [hb]; exact ⟨h1, h2, d, h3, h4, q1⟩), q2⟩
    · exact h.elim
  · exact h.elim
theorem det_field {k : TK} {f : Nat} {x : DV} (h : vField k f x K) : ∃ d, vField k f x (· = d) ∧ K d := by
  unfold vField at *
  split at h
  · split at h
    · rename_i hf
      try simp only [hf]
      obtain ⟨h1, h⟩ := h
      split at h
      · exact ⟨_, ⟨h1, rfl⟩, h⟩
      · exact ⟨_, ⟨h1, h.1, rfl⟩, h.2⟩
      · exact ⟨_, ⟨h1, rfl⟩, h⟩
      · exact h.elim
    · exact h.elim
  · exact h.elim
theorem det_indexAddr {k : TK} {x i : DV} (h : vIndexAddr k x i K) : ∃ d, vIndexAddr k x i (· = d) ∧ K d := by
  unfold vIndexAddr at *
  split at h
  · split at h
    · obtain ⟨h1, h2, h3, h4⟩ := h
      rename_i z _ _ _ xs
      have hlt : z.toNat < xs.length := by omega
      obtain ⟨h5, h6⟩ := h4 _ (List.getElem?_eq_getElem hlt)
      exact ⟨_, ⟨h1, h2, h3, fun d hd => by rw [List.getElem?_eq_getElem hlt] at hd; cases hd; exact ⟨h5, rfl⟩⟩, h6⟩
    · exact ⟨_, ⟨h.1, h.2.1, rfl⟩, h.2.2⟩
    · exact h.elim
  · exact h.elim
theorem det_index {k : TK} {x i : DV} (h : vIndex k x i K) : ∃ d, vIndex k x i (· = d) ∧ K d := by
  unfold vIndex at *
  split at h
  · obtain ⟨h1, h2, h3⟩ := h
    rename_i s _ z
    have hlt : z.toNat < s.data.toList.length := by simp; have : s.data.size = s.size := rfl; omega
    exact ⟨_, ⟨h1, h2, fun d hd => by rw [List.getElem?_eq_getElem hlt] at hd; cases hd; rfl⟩, h3 _ (List.getElem?_eq_getElem hlt)⟩
  · exact h.elim
theorem det_fieldV {k : TK} {f : Nat} {x : DV} (h : vFieldV k f x K) : ∃ d, vFieldV k f x (· = d) ∧ K d := by
  unfold vFieldV at *
  split at h
  · split at h
    · rename_i hf
      try simp only [hf]
      split at h
      · obtain ⟨h1, h⟩ := h
        split at h
        · exact ⟨_, ⟨h1, rfl⟩, h⟩
        · split at h
          · rename_i hd; (try simp only [hd]); exact ⟨_, ⟨h1, rfl⟩, h⟩
          · exact h.elim
      · exact h.elim
    · exact h.elim
  · exact h.elim
theorem det_extract {i : Nat} {x : DV} (h : vExtract i x K) : ∃ d, vExtract i x (· = d) ∧ K d := by
  unfold vExtract at *
  split at h
  · split at h
    · rename_i hd; (try simp only [hd]); exact ⟨_, rfl, h⟩
    · exact h.elim
  · exact h.elim
theorem det_binI {op : BinOp} {k : IntKind} {m n : Int} (h : vBinI op k m n K) : ∃ d, vBinI op k m n (· = d) ∧ K d := by
  cases op <;> simp only [vBinI] at h ⊢ <;> first | exact ⟨_, rfl, h⟩ | exact ⟨_, ⟨h.1, rfl⟩, h.2⟩
theorem det_binS {op : BinOp} {x y : ByteArray} (h : vBinS op x y K) : ∃ d, vBinS op x y (· = d) ∧ K d := by
  cases op <;> simp only [vBinS] at h ⊢ <;> first | exact ⟨_, rfl, h⟩ | exact ⟨_, ⟨h.1, rfl⟩, h.2⟩
theorem det_bin {op : BinOp} {t : TK} {cx cy : Bool} {x y : DV} (h : vBin op t cx cy x y K) : ∃ d, vBin op t cx cy x y (· = d) ∧ K d := by
  unfold vBin at *
  split at h
  · obtain ⟨d, q1, q2⟩ := det_binI h.2
    exact ⟨d, ⟨h.1, q1⟩, q2⟩
  · exact det_binS h
  · split at h <;> first | exact ⟨_, rfl, h⟩ | exact h.elim
  · split at h <;> first | exact ⟨_, ⟨h.1, rfl⟩, h.2⟩ | exact h.elim
  · split at h <;> first | exact ⟨_, rfl, h⟩ | exact h.elim
  · split at h <;> first | exact ⟨_, rfl, h⟩ | exact h.elim
  · split at h <;> first | exact ⟨_, ⟨h.1, rfl⟩, h.2⟩ | exact h.elim
  · exact h.elim
theorem det_binA {op : BinOp} {t : TypeId} {cx cy : Bool} {x y : DV} (h : vBinA P op t cx cy x y K) : ∃ d, vBinA P op t cx cy x y (· = d) ∧ K d := by
  unfold vBinA at *
  split at h
  · unfold vAggEq at *
    split at h
    · rename_i he
      obtain ⟨q, q1, q2⟩ := aggK_det h
      exact ⟨_, aggK_mono (fun r e => by rw [e]) q1, q2⟩
    · rename_i he
      obtain ⟨q, q1, q2⟩ := aggK_det h
      exact ⟨_, aggK_mono (fun r e => by rw [e]) q1, q2⟩
    · exact h.elim
  · exact det_bin h
theorem det_un {op : UnOp} {x : DV} (h : vUn op x K) : ∃ d, vUn op x (· = d) ∧ K d := by
  unfold vUn at *
  split at h <;> first | exact ⟨_, rfl, h⟩ | exact h.elim
theorem det_conv {a b : TK} {x : DV} (h : vConv a b x K) : ∃ d, vConv a b x (· = d) ∧ K d := by
  unfold vConv at *
  split at h <;> first | exact ⟨_, rfl, h⟩ | exact h.elim
theorem det_func {fn : Fn} {a b : List DV} (h : vFunc fn a b K) : ∃ d, vFunc fn a b (· = d) ∧ K d := by
  unfold vFunc at *
  split at h <;> first | exact ⟨_, rfl, h⟩ | exact h.elim
theorem det_bnd {x : Option DV} {z : Int} {F : (DV → Prop) → Int → Prop} (hF : ∀ n, F K n → ∃ d, F (· = d) n ∧ K d) (h : bnd x z (F K)) : ∃ d, bnd x z (F (· = d)) ∧ K d := by
  unfold bnd at *
  split at h <;> first | exact hF _ h | exact h.elim
theorem det_slice {k : TK} {x : DV} {lo hi mx : Option DV} (h : vSlice k x lo hi mx K) : ∃ d, vSlice k x lo hi mx (· = d) ∧ K d := by
  unfold vSlice at *
  split at h
  · obtain ⟨h1, h⟩ := h
    rename_i e s b s' f xs
    obtain ⟨d, q1, q2⟩ := det_bnd (F := fun K l => bnd hi xs.length fun h => bnd mx h fun m => 0 ≤ l ∧ l ≤ h ∧ h ≤ m ∧ m ≤ xs.length ∧
      K (.sl s (if mx.isSome then decide (m = h) else (f && (hi.isNone || xs.isEmpty))) ((xs.take h.toNat).drop l.toNat))) (fun l h => det_bnd (F := fun K h => bnd mx h fun m => 0 ≤ l ∧ l ≤ h ∧ h ≤ m ∧ m ≤ xs.length ∧
      K (.sl s (if mx.isSome then decide (m = h) else (f && (hi.isNone || xs.isEmpty))) ((xs.take h.toNat).drop l.toNat))) (fun hh h => det_bnd (F := fun K m => 0 ≤ l ∧ l ≤ hh ∧ hh ≤ m ∧ m ≤ xs.length ∧
      K (.sl s (if mx.isSome then decide (m = hh) else (f && (hi.isNone || xs.isEmpty))) ((xs.take hh.toNat).drop l.toNat))) (fun m h => ⟨_, ⟨h.1, h.2.1, h.2.2.1, h.2.2.2.1, rfl⟩, h.2.2.2.2⟩) h) h) h
    exact ⟨d, ⟨h1, q1⟩, q2⟩
  · obtain ⟨h1, h⟩ := h
    rename_i s
    obtain ⟨d, q1, q2⟩ := det_bnd (F := fun K l => bnd hi s.size fun h => 0 ≤ l ∧ l ≤ h ∧ h ≤ s.size ∧ K (.v (.string (s.extract l.toNat h.toNat)))) (fun l h => det_bnd (F := fun K h => 0 ≤ l ∧ l ≤ h ∧ h ≤ s.size ∧ K (.v (.string (s.extract l.toNat h.toNat))))
      (fun hh h => ⟨_, ⟨h.1, h.2.1, h.2.2.1, rfl⟩, h.2.2.2⟩) h) h
    exact ⟨d, ⟨h1, q1⟩, q2⟩
  · rename_i e s by' b o n c
    exact det_bnd (F := fun K l => bnd hi n fun h => bnd mx c fun m => 0 ≤ l ∧ l ≤ h ∧ h ≤ m ∧ m ≤ c ∧
      K (.v (.slice (some ⟨b, if m.toNat = l.toNat then o else o + l.toNat * s, none⟩) (h.toNat - l.toNat) (m.toNat - l.toNat)))) (fun l h => det_bnd (F := fun K h => bnd mx c fun m => 0 ≤ l ∧ l ≤ h ∧ h ≤ m ∧ m ≤ c ∧
      K (.v (.slice (some ⟨b, if m.toNat = l.toNat then o else o + l.toNat * s, none⟩) (h.toNat - l.toNat) (m.toNat - l.toNat)))) (fun hh h => det_bnd (F := fun K m => 0 ≤ l ∧ l ≤ hh ∧ hh ≤ m ∧ m ≤ c ∧
      K (.v (.slice (some ⟨b, if m.toNat = l.toNat then o else o + l.toNat * s, none⟩) (hh.toNat - l.toNat) (m.toNat - l.toNat)))) (fun m h => ⟨_, ⟨h.1, h.2.1, h.2.2.1, h.2.2.2.1, rfl⟩, h.2.2.2.2⟩) h) h) h
  · exact h.elim
theorem det_len {k : TK} {x : DV} (h : vLen k x K) : ∃ d, vLen k x (· = d) ∧ K d := by
  unfold vLen at *
  split at h <;> first | exact ⟨_, rfl, h⟩ | exact h.elim
theorem det_cap {k : TK} {x : DV} (h : vCap k x K) : ∃ d, vCap k x (· = d) ∧ K d := by
  unfold vCap at *
  split at h <;> first | exact ⟨_, rfl, h⟩ | exact h.elim
theorem det_min {x y : DV} (h : vMin x y K) : ∃ d, vMin x y (· = d) ∧ K d := by
  unfold vMin at *
  split at h <;> first | exact ⟨_, rfl, h⟩ | exact h.elim
theorem det_max {x y : DV} (h : vMax x y K) : ∃ d, vMax x y (· = d) ∧ K d := by
  unfold vMax at *
  split at h <;> first | exact ⟨_, rfl, h⟩ | exact h.elim
theorem det_build {t : TypeId} {parts : List (Nat × DV)} (h : vBuild P t parts K) : ∃ d, vBuild P t parts (· = d) ∧ K d := by
  unfold vBuild at *
  split at h
  · split at h
    · rename_i hf; (try simp only [hf]); exact ⟨_, rfl, h⟩
    · exact h.elim
  · exact h.elim
theorem det_buildSlice {k : TK} {z : DV} {len : Nat} {parts : List (Nat × DV)} (h : vBuildSlice k z len parts K) : ∃ d, vBuildSlice k z len parts (· = d) ∧ K d := by
  unfold vBuildSlice at *
  split at h
  · obtain ⟨h1, h2, h3, h⟩ := h
    split at h
    · rename_i hf; (try simp only [hf]); exact ⟨_, ⟨h1, h2, h3, rfl⟩, h⟩
    · exact h.elim
  · exact h.elim

def nacc : DV → Bool
  | .acc _ _ => false
  | _ => true
def naccA : DV → Bool
  | .agg ds => ds.all nacc
  | d => nacc d
theorem shr1_id {K : DV → St → Prop} {d : DV} (hd : nacc d = true) (h : K d S) : shr1 S d K := by
  cases d <;> first | (cases hd; done) | exact h
theorem sliceX_id {K : DV → St → Prop} {k : TK} {x : DV} {lo hi mx : Option DV} (hx : nacc x = true) (h : vSliceS k S x lo hi mx K) : vSliceX k S x lo hi mx K := by
  cases x <;> first | (cases hx; done) | exact h
theorem shr1s_id : ∀ {ds : List DV} {K : List DV → St → Prop}, ds.all nacc = true → K ds S → shr1s S ds K
  | [], K, _, h => h
  | d :: ds, K, hd, h => by
    simp only [List.all_cons, Bool.and_eq_true] at hd
    exact shr1_id hd.1 (shr1s_id hd.2 h)
theorem shr_id {K : DV → St → Prop} {d : DV} (hd : naccA d = true) (h : K d S) : shr S d K := by
  cases d with
  | agg ds => exact shr1s_id hd h
  | acc l n => cases hd
  | _ => exact h
theorem shrs_id : ∀ {ds : List DV} {K : List DV → St → Prop}, ds.all naccA = true → K ds S → shrs S ds K
  | [], K, _, h => h
  | d :: ds, K, hd, h => by
    simp only [List.all_cons, Bool.and_eq_true] at hd
    exact shr_id hd.1 (shrs_id hd.2 h)

theorem callK_id {ds : List DV} {F : List DV → St → Prop} (hd : ds.all naccA = true) (h : F ds S) : callK S ds F := by
  unfold callK
  split
  · exact .inl h
  · exact shrs_id hd h
/-- A call that hands back one value and leaves the store. -/
def vCallQ (P : Program) (w0 : W0) (cal : DV) (ds : List DV) (S : St) (K : DV → Prop) : Prop := match cal with
  | .v (.func (.func f) a cap) => a.size = 0 ∧ okF P f = true ∧ cap.toList.all (fun u => u.oneCell') = true ∧ ds.all naccA = true ∧ ∃ d, ACall P w0 f (ds ++ cap.toList.map .v) S (fun d' S' => d' = d ∧ S' = S) ∧ K d
  | _ => False
theorem det_lookup {m : Option (KK × DV)} {S : St} {x y : DV} {ok : Bool} {K : DV → Prop} (h : vLookup m S x y ok K) : ∃ d, vLookup m S x y ok (· = d) ∧ K d := by
  unfold vLookup at *
  cases m with
  | none => exact h.elim
  | some p =>
    simp only [oK] at h ⊢
    obtain ⟨h0, h⟩ := h
    cases hk : kVal y with
    | none => rw [hk] at h; exact h.elim
    | some k =>
      rw [hk] at h
      simp only at h ⊢
      obtain ⟨h1, h⟩ := h
      split at h
      · exact ⟨_, ⟨h0, h1, rfl⟩, h⟩
      · split at h
        · obtain ⟨h2, h⟩ := h
          cases hg : mGet _ k with
          | none => rw [hg] at h; exact ⟨_, ⟨h0, h1, h2, rfl⟩, h⟩
          | some d => rw [hg] at h; exact ⟨_, ⟨h0, h1, h2, rfl⟩, h⟩
        · exact h.elim
      · exact h.elim
def vcOpQ (P : Program) (w0 : W0) (op : Op) (fr : List DV) (S : St) (K : DV → Prop) : Prop := match op with
  | .move x => K (ev fr x)
  | .assign x => K (ev fr x)
  | .pick c a b => vPick (ev fr c) (ev fr a) (ev fr b) K
  | .load t x => vLoad (tk P t) S (ev fr x) K
  | .fieldAddr t x f => vField (tk P t) f (ev fr x) K
  | .indexAddr t x i => vIndexAddr (tk P t) (ev fr x) (ev fr i) K
  | .index t x i => vIndex (tk P t) (ev fr x) (ev fr i) K
  | .field t x f => vFieldV (tk P t) f (ev fr x) K
  | .extract x i => vExtract i (ev fr x) K
  | .nilCheck x => notNil (ev fr x) = true ∧ K (ev fr x)
  | .binOp b t x y _ => isNilC y = false ∧ vBinA P b t (isC x) (isC y) (ev fr x) (ev fr y) K
  | .unOp b _ x => vUn b (ev fr x) K
  | .convert s d x => vConv (tk P s) (tk P d) (ev fr x) K
  | .makeInterface t x => isIfc (tk P t) = false ∧ naccA (ev fr x) = true ∧ K (.ifc t (ev fr x))
  | .makeFunc fn a b => vFunc fn (a.toList.map (ev fr)) (b.toList.map (ev fr)) K
  | .slice t x lo hi mx => (mx.isSome = true → hi.isSome = true) ∧ nacc (ev fr x) = true ∧ vSlice (tk P t) (ev fr x) (lo.map (ev fr)) (hi.map (ev fr)) (mx.map (ev fr)) K
  | .build t parts => (parts.toList.map fun p => ev fr p.2).all naccA = true ∧ vBuild P t ((parts.toList.map (·.1)).zip (parts.toList.map fun p => ev fr p.2)) K
  | .buildSlice t len parts => (parts.toList.map fun p => ev fr p.2).all naccA = true ∧ vBuildSlice (tk P t) (zD P (elT P t)) len ((parts.toList.map (·.1)).zip (parts.toList.map fun p => ev fr p.2)) K
  | .lookup t x y ok => vLookup (mpT P t) S (ev fr x) (ev fr y) ok K
  | .call c => match c.callee with
    | .builtin .len => (match c.args.toList, c.argTypes.toList with
      | [x], [t] => vLen (tk P t) (ev fr x) K
      | _, _ => False)
    | .builtin .cap => (match c.args.toList, c.argTypes.toList with
      | [x], [t] => vCap (tk P t) (ev fr x) K
      | _, _ => False)
    | .builtin .min => (match c.args.toList with
      | [x, y] => vMin (ev fr x) (ev fr y) K
      | _ => False)
    | .builtin .max => (match c.args.toList with
      | [x, y] => vMax (ev fr x) (ev fr y) K
      | _ => False)
    | .value cal => vCallQ P w0 (ev fr cal) (c.args.toList.map (ev fr)) S K
    | _ => False
  | _ => False

theorem vcOpQ_sound {o : Oper} {fr : List DV} (hs : okSl o.op = true) (h : vcOpQ P w0 o.op fr S K) : ∃ d, QY P w0 S o fr d ∧ K d := by
  have fin : ∀ {d : DV}, vcOp P w0 o.op fr S (fun d' S' => d' = d ∧ S' = S) → K d → ∃ d, QY P w0 S o fr d ∧ K d := fun h1 h2 => ⟨_, vcOp_sound hs h1, h2⟩
  cases hop : o.op with
  | move x => rw [hop] at h; exact fin (by rw [hop]; exact ⟨rfl, rfl⟩) h
  | assign x => rw [hop] at h; exact fin (by rw [hop]; exact ⟨rfl, rfl⟩) h
  | pick c a b => rw [hop] at h; obtain ⟨d, q1, q2⟩ := det_pick h; exact fin (by rw [hop]; simpa [vcOp] using q1) q2
  | load t x => rw [hop] at h; obtain ⟨d, q1, q2⟩ := det_load h; exact fin (by rw [hop]; simpa [vcOp] using q1) q2
  | fieldAddr t x f => rw [hop] at h; obtain ⟨d, q1, q2⟩ := det_field h; exact fin (by rw [hop]; simpa [vcOp] using q1) q2
  | indexAddr t x i => rw [hop] at h; obtain ⟨d, q1, q2⟩ := det_indexAddr h; exact fin (by rw [hop]; simpa [vcOp] using q1) q2
  | index t x i => rw [hop] at h; obtain ⟨d, q1, q2⟩ := det_index h; exact fin (by rw [hop]; simpa [vcOp] using q1) q2
  | field t x f => rw [hop] at h; obtain ⟨d, q1, q2⟩ := det_fieldV h; exact fin (by rw [hop]; simpa [vcOp] using q1) q2
  | extract x i => rw [hop] at h; obtain ⟨d, q1, q2⟩ := det_extract h; exact fin (by rw [hop]; simpa [vcOp] using q1) q2
  | nilCheck x => rw [hop] at h; exact fin (by rw [hop]; exact ⟨h.1, rfl, rfl⟩) h.2
  | binOp b t x y t' => rw [hop] at h; obtain ⟨d, q1, q2⟩ := det_binA h.2; exact fin (by rw [hop]; simp only [vcOp, h.1]; simpa using q1) q2
  | unOp b t x => rw [hop] at h; obtain ⟨d, q1, q2⟩ := det_un h; exact fin (by rw [hop]; simpa [vcOp] using q1) q2
  | convert s d x => rw [hop] at h; obtain ⟨d', q1, q2⟩ := det_conv h; exact fin (by rw [hop]; simpa [vcOp] using vConvS_of (ke := tk P (elT P s)) (S := S) q1) q2
  | makeInterface t x => rw [hop] at h; exact fin (by rw [hop]; exact ⟨h.1, shr_id h.2.1 ⟨rfl, rfl⟩⟩) h.2.2
  | makeFunc fn a b => rw [hop] at h; obtain ⟨d, q1, q2⟩ := det_func h; exact fin (by rw [hop]; simpa [vcOp] using q1) q2
  | slice t x lo hi mx => rw [hop] at h; obtain ⟨d, q1, q2⟩ := det_slice h.2.2; exact fin (by rw [hop]; exact ⟨h.1, sliceX_id h.2.1 (shr1_id h.2.1 (by simpa using q1))⟩) q2
  | lookup t x y ok => rw [hop] at h; obtain ⟨d, q1, q2⟩ := det_lookup h; exact fin (by rw [hop]; simpa [vcOp] using q1) q2
  | build t parts => rw [hop] at h; obtain ⟨d, q1, q2⟩ := det_build h.2; exact fin (by rw [hop]; exact shrs_id h.1 (by simpa using q1)) q2
  | buildSlice t len parts => rw [hop] at h; obtain ⟨d, q1, q2⟩ := det_buildSlice h.2; exact fin (by rw [hop]; exact shrs_id h.1 (by simpa using q1)) q2
  | call c =>
    rw [hop] at h
    obtain ⟨callee, args, ts⟩ := c
    simp only [vcOpQ] at h
    split at h
    · split at h
      · rename_i x t e1 e2
        obtain ⟨d, q1, q2⟩ := det_len h
        exact fin (by rw [hop]; simp only [vcOp, e1, e2]; simpa using q1) q2
      · exact h.elim
    · split at h
      · rename_i x t e1 e2
        obtain ⟨d, q1, q2⟩ := det_cap h
        exact fin (by rw [hop]; simp only [vcOp, e1, e2]; simpa using q1) q2
      · exact h.elim
    · split at h
      · rename_i x y e1
        obtain ⟨d, q1, q2⟩ := det_min h
        exact fin (by rw [hop]; simp only [vcOp, e1]; simpa using q1) q2
      · exact h.elim
    · split at h
      · rename_i x y e1
        obtain ⟨d, q1, q2⟩ := det_max h
        exact fin (by rw [hop]; simp only [vcOp, e1]; simpa using q1) q2
      · exact h.elim
    · rename_i cal
      unfold vCallQ at h
      split at h
      · rename_i f a cap hcal
        obtain ⟨h1, h2, h3, h4, d, h5, h6⟩ := h
        exact fin (by rw [hop]; simp only [vcOp, vCall, hcal]; exact ⟨h1, h3, by rw [h2, gX_t]; exact callK_id h4 h5⟩) h6
      · exact h.elim
    · exact h.elim
  | _ => rw [hop] at h; exact h.elim

def vcLQ (P : Program) (w0 : W0) (S : St) (ops : Array Oper) (K : List DV → Prop) : List Oper → List DV → Prop
  | [], fr => K fr
  | o :: rest, fr => guardK ops fr o.guard (fun fr => vcOpQ P w0 o.op fr S fun d => vcLQ P w0 S ops K rest (pt fr o.dst d)) (fun fr => vcLQ P w0 S ops K rest (pt fr o.dst ud))
theorem vcLQ_sound {ops : Array Oper} {K : List DV → Prop} : ∀ (l : List Oper) {fr : List DV}, l.all (fun o => okSl o.op) = true → vcLQ P w0 S ops K l fr → LQ P w0 S ops K l fr
  | [], fr, _, h => h
  | o :: rest, fr, hs, h => by
    simp only [List.all_cons, Bool.and_eq_true] at hs
    refine guardK_mono (fun fr h => ?_) (fun fr h => vcLQ_sound rest hs.2 h) h
    obtain ⟨d, q1, q2⟩ := vcOpQ_sound hs.1 h
    exact ⟨d, q1, vcLQ_sound rest hs.2 q2⟩

/-- A region whose order is open. -/
theorem awp_drawQ {id : Nat} {l : List Oper} {fr : List DV} {Q : Exit → List DV → St → Prop} (hm : P.follows .mixedOrders = true) (hB : Region.lexB .any l.toArray = true) (hs : l.all (fun o => okSl o.op) = true)
    (h : vcLQ P w0 S l.toArray (fun fr => Q .normal fr S) l fr) : AWp P w0 (.region id l.toArray true) fr S Q :=
  awp_draw hm hB (vcLQ_sound l hs h)

end
end Aml
