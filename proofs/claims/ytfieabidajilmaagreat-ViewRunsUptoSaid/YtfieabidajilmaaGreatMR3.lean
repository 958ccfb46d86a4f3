/-
  Facts on the types and functions of the translation, printed by program (wip/tools/types.py); Loops by a state; forgetting slots; growing slices out of nil; The equations by which the reckoning goes: each for one form of value; Statements whose order Go leaves open: where each operation hands back one abstract value and leaves the store, every order serves; Reckoning over statements whose order is open. By an AI agent.
-/
import Derived.Test.YtfieabidajilmaaGreatMR2
import Derived.Test.YtfieabidajilmaaGreatProg
import Derived.KernelRfl
import Derived.Still
namespace Go.Proofs.YtfieabidajilmaaGreat
open Aml
@[go_sem] theorem ty.k1 : tk Tryz.prog 1 = .fn := by kernel_rfl
@[go_sem] theorem ty.z1 : zD Tryz.prog 1 = .v .nilFunc := by kernel_rfl
@[go_sem] theorem ty.c1 : Tryz.prog.cellsOf 1 = 1 := by kernel_rfl
@[go_sem] theorem ty.i1 : (Tryz.prog.info? 1).isSome = true := by kernel_rfl
@[go_sem] theorem ty.k2 : tk Tryz.prog 2 = .int .i64 := by kernel_rfl
@[go_sem] theorem ty.z2 : zD Tryz.prog 2 = .v (.int .i64 0) := by kernel_rfl
@[go_sem] theorem ty.c2 : Tryz.prog.cellsOf 2 = 1 := by kernel_rfl
@[go_sem] theorem ty.i2 : (Tryz.prog.info? 2).isSome = true := by kernel_rfl
@[go_sem] theorem ty.k3 : tk Tryz.prog 3 = .int .i64 := by kernel_rfl
@[go_sem] theorem ty.z3 : zD Tryz.prog 3 = .v (.int .i64 0) := by kernel_rfl
@[go_sem] theorem ty.c3 : Tryz.prog.cellsOf 3 = 1 := by kernel_rfl
@[go_sem] theorem ty.i3 : (Tryz.prog.info? 3).isSome = true := by kernel_rfl
@[go_sem] theorem ty.k4 : tk Tryz.prog 4 = .one := by kernel_rfl
@[go_sem] theorem ty.z4 : zD Tryz.prog 4 = .v (.bool false) := by kernel_rfl
@[go_sem] theorem ty.c4 : Tryz.prog.cellsOf 4 = 1 := by kernel_rfl
@[go_sem] theorem ty.i4 : (Tryz.prog.info? 4).isSome = true := by kernel_rfl
@[go_sem] theorem ty.k5 : tk Tryz.prog 5 = .int .u8 := by kernel_rfl
@[go_sem] theorem ty.z5 : zD Tryz.prog 5 = .v (.int .u8 0) := by kernel_rfl
@[go_sem] theorem ty.c5 : Tryz.prog.cellsOf 5 = 1 := by kernel_rfl
@[go_sem] theorem ty.i5 : (Tryz.prog.info? 5).isSome = true := by kernel_rfl
@[go_sem] theorem ty.c6 : Tryz.prog.cellsOf 6 = 1 := by kernel_rfl
@[go_sem] theorem ty.i6 : (Tryz.prog.info? 6).isSome = true := by kernel_rfl
@[go_sem] theorem ty.q7 : eqK Tryz.prog 7 = some [.int .i64, .int .i64, .bool, .int .u8] := by kernel_rfl
@[go_sem] theorem ty.c7 : Tryz.prog.cellsOf 7 = 4 := by kernel_rfl
@[go_sem] theorem ty.i7 : (Tryz.prog.info? 7).isSome = true := by kernel_rfl
@[go_sem] theorem ty.q8 : eqK Tryz.prog 8 = some [.int .i64, .int .i64, .bool, .int .u8] := by kernel_rfl
@[go_sem] theorem ty.c8 : Tryz.prog.cellsOf 8 = 4 := by kernel_rfl
@[go_sem] theorem ty.i8 : (Tryz.prog.info? 8).isSome = true := by kernel_rfl
@[go_sem] theorem ty.k9 : tk Tryz.prog 9 = .str := by kernel_rfl
@[go_sem] theorem ty.z9 : zD Tryz.prog 9 = .v (.string ByteArray.empty) := by kernel_rfl
@[go_sem] theorem ty.c9 : Tryz.prog.cellsOf 9 = 1 := by kernel_rfl
@[go_sem] theorem ty.i9 : (Tryz.prog.info? 9).isSome = true := by kernel_rfl
@[go_sem] theorem ty.i10 : (Tryz.prog.info? 10).isSome = true := by kernel_rfl
@[go_sem] theorem ty.i11 : (Tryz.prog.info? 11).isSome = true := by kernel_rfl
@[go_sem] theorem ty.i12 : (Tryz.prog.info? 12).isSome = true := by kernel_rfl
@[go_sem] theorem ty.i13 : (Tryz.prog.info? 13).isSome = true := by kernel_rfl
@[go_sem] theorem ty.i14 : (Tryz.prog.info? 14).isSome = true := by kernel_rfl
@[go_sem] theorem ty.i15 : (Tryz.prog.info? 15).isSome = true := by kernel_rfl
@[go_sem] theorem ty.i16 : (Tryz.prog.info? 16).isSome = true := by kernel_rfl
@[go_sem] theorem ty.i17 : (Tryz.prog.info? 17).isSome = true := by kernel_rfl
@[go_sem] theorem ty.i18 : (Tryz.prog.info? 18).isSome = true := by kernel_rfl
@[go_sem] theorem ty.i19 : (Tryz.prog.info? 19).isSome = true := by kernel_rfl
@[go_sem] theorem ty.i20 : (Tryz.prog.info? 20).isSome = true := by kernel_rfl
@[go_sem] theorem ty.i21 : (Tryz.prog.info? 21).isSome = true := by kernel_rfl
@[go_sem] theorem ty.k22 : tk Tryz.prog 22 = .sl 42 5 56 true := by kernel_rfl
@[go_sem] theorem ty.i22 : (Tryz.prog.info? 22).isSome = true := by kernel_rfl
@[go_sem] theorem ty.i23 : (Tryz.prog.info? 23).isSome = true := by kernel_rfl
@[go_sem] theorem ty.i24 : (Tryz.prog.info? 24).isSome = true := by kernel_rfl
@[go_sem] theorem ty.k25 : tk Tryz.prog 25 = .sl 9 1 16 true := by kernel_rfl
@[go_sem] theorem ty.e25 : elT Tryz.prog 25 = 9 := by kernel_rfl
@[go_sem] theorem ty.z25 : zD Tryz.prog 25 = .sl 0 true [] := by kernel_rfl
@[go_sem] theorem ty.c25 : Tryz.prog.cellsOf 25 = 1 := by kernel_rfl
@[go_sem] theorem ty.i25 : (Tryz.prog.info? 25).isSome = true := by kernel_rfl
@[go_sem] theorem ty.k26 : tk Tryz.prog 26 = .sl 157 2 40 true := by kernel_rfl
@[go_sem] theorem ty.e26 : elT Tryz.prog 26 = 157 := by kernel_rfl
@[go_sem] theorem ty.z26 : zD Tryz.prog 26 = .sl 0 true [] := by kernel_rfl
@[go_sem] theorem ty.c26 : Tryz.prog.cellsOf 26 = 1 := by kernel_rfl
@[go_sem] theorem ty.i26 : (Tryz.prog.info? 26).isSome = true := by kernel_rfl
@[go_sem] theorem ty.k27 : tk Tryz.prog 27 = .sl 29 5 88 true := by kernel_rfl
@[go_sem] theorem ty.e27 : elT Tryz.prog 27 = 29 := by kernel_rfl
@[go_sem] theorem ty.z27 : zD Tryz.prog 27 = .sl 0 true [] := by kernel_rfl
@[go_sem] theorem ty.c27 : Tryz.prog.cellsOf 27 = 1 := by kernel_rfl
@[go_sem] theorem ty.i27 : (Tryz.prog.info? 27).isSome = true := by kernel_rfl
@[go_sem] theorem ty.i28 : (Tryz.prog.info? 28).isSome = true := by kernel_rfl
@[go_sem] theorem ty.k29 : tk Tryz.prog 29 = .st [(0, 1, false), (1, 1, false), (2, 1, false), (3, 1, false), (4, 1, false)] 5 := by kernel_rfl
@[go_sem] theorem ty.z29 : zD Tryz.prog 29 = .agg [.v (.int .i64 0), .v (.bool false), .sl 0 true [], .sl 0 true [], .sl 0 true []] := by kernel_rfl
@[go_sem] theorem ty.c29 : Tryz.prog.cellsOf 29 = 5 := by kernel_rfl
@[go_sem] theorem ty.i29 : (Tryz.prog.info? 29).isSome = true := by kernel_rfl
@[go_sem] theorem ty.k30 : tk Tryz.prog 30 = .sl 97 6 104 true := by kernel_rfl
@[go_sem] theorem ty.e30 : elT Tryz.prog 30 = 97 := by kernel_rfl
@[go_sem] theorem ty.i30 : (Tryz.prog.info? 30).isSome = true := by kernel_rfl
@[go_sem] theorem ty.i31 : (Tryz.prog.info? 31).isSome = true := by kernel_rfl
@[go_sem] theorem ty.k32 : tk Tryz.prog 32 = .st [(0, 5, true), (5, 1, false)] 6 := by kernel_rfl
@[go_sem] theorem ty.z32 : zD Tryz.prog 32 = .agg [.v (.int .i64 0), .v (.bool false), .sl 0 true [], .sl 0 true [], .sl 0 true [], .sl 0 true []] := by kernel_rfl
@[go_sem] theorem ty.c32 : Tryz.prog.cellsOf 32 = 6 := by kernel_rfl
@[go_sem] theorem ty.i32 : (Tryz.prog.info? 32).isSome = true := by kernel_rfl
@[go_sem] theorem ty.i33 : (Tryz.prog.info? 33).isSome = true := by kernel_rfl
@[go_sem] theorem ty.k34 : tk Tryz.prog 34 = .sl 124 4 80 true := by kernel_rfl
@[go_sem] theorem ty.e34 : elT Tryz.prog 34 = 124 := by kernel_rfl
@[go_sem] theorem ty.c34 : Tryz.prog.cellsOf 34 = 1 := by kernel_rfl
@[go_sem] theorem ty.i34 : (Tryz.prog.info? 34).isSome = true := by kernel_rfl
@[go_sem] theorem ty.i35 : (Tryz.prog.info? 35).isSome = true := by kernel_rfl
@[go_sem] theorem ty.k36 : tk Tryz.prog 36 = .st [(0, 1, false), (1, 1, false), (2, 1, false)] 3 := by kernel_rfl
@[go_sem] theorem ty.z36 : zD Tryz.prog 36 = .agg [.v (.int .i64 0), .v (.bool false), .sl 0 true []] := by kernel_rfl
@[go_sem] theorem ty.c36 : Tryz.prog.cellsOf 36 = 3 := by kernel_rfl
@[go_sem] theorem ty.i36 : (Tryz.prog.info? 36).isSome = true := by kernel_rfl
@[go_sem] theorem ty.k37 : tk Tryz.prog 37 = .sl 81 4 56 true := by kernel_rfl
@[go_sem] theorem ty.e37 : elT Tryz.prog 37 = 81 := by kernel_rfl
@[go_sem] theorem ty.c37 : Tryz.prog.cellsOf 37 = 1 := by kernel_rfl
@[go_sem] theorem ty.i37 : (Tryz.prog.info? 37).isSome = true := by kernel_rfl
@[go_sem] theorem ty.i38 : (Tryz.prog.info? 38).isSome = true := by kernel_rfl
@[go_sem] theorem ty.k39 : tk Tryz.prog 39 = .st [(0, 3, true), (3, 1, false)] 4 := by kernel_rfl
@[go_sem] theorem ty.z39 : zD Tryz.prog 39 = .agg [.v (.int .i64 0), .v (.bool false), .sl 0 true [], .sl 0 true []] := by kernel_rfl
@[go_sem] theorem ty.c39 : Tryz.prog.cellsOf 39 = 4 := by kernel_rfl
@[go_sem] theorem ty.i39 : (Tryz.prog.info? 39).isSome = true := by kernel_rfl
@[go_sem] theorem ty.i40 : (Tryz.prog.info? 40).isSome = true := by kernel_rfl
@[go_sem] theorem ty.i41 : (Tryz.prog.info? 41).isSome = true := by kernel_rfl
@[go_sem] theorem ty.k42 : tk Tryz.prog 42 = .st [(0, 1, false), (1, 1, false), (2, 1, false), (3, 1, false), (4, 1, false)] 5 := by kernel_rfl
@[go_sem] theorem ty.z42 : zD Tryz.prog 42 = .agg [.v (.int .i64 0), .v (.string ByteArray.empty), .v (.string ByteArray.empty), .v (.int .u8 0), .v (.int .i64 0)] := by kernel_rfl
@[go_sem] theorem ty.c42 : Tryz.prog.cellsOf 42 = 5 := by kernel_rfl
@[go_sem] theorem ty.i42 : (Tryz.prog.info? 42).isSome = true := by kernel_rfl
@[go_sem] theorem ty.i43 : (Tryz.prog.info? 43).isSome = true := by kernel_rfl
@[go_sem] theorem ty.i45 : (Tryz.prog.info? 45).isSome = true := by kernel_rfl
@[go_sem] theorem ty.i47 : (Tryz.prog.info? 47).isSome = true := by kernel_rfl
@[go_sem] theorem ty.i48 : (Tryz.prog.info? 48).isSome = true := by kernel_rfl
@[go_sem] theorem ty.i49 : (Tryz.prog.info? 49).isSome = true := by kernel_rfl
@[go_sem] theorem ty.i50 : (Tryz.prog.info? 50).isSome = true := by kernel_rfl
@[go_sem] theorem ty.i51 : (Tryz.prog.info? 51).isSome = true := by kernel_rfl
@[go_sem] theorem ty.i52 : (Tryz.prog.info? 52).isSome = true := by kernel_rfl
@[go_sem] theorem ty.i54 : (Tryz.prog.info? 54).isSome = true := by kernel_rfl
@[go_sem] theorem ty.i55 : (Tryz.prog.info? 55).isSome = true := by kernel_rfl
@[go_sem] theorem ty.k56 : tk Tryz.prog 56 = .sl 89 2 32 true := by kernel_rfl
@[go_sem] theorem ty.e56 : elT Tryz.prog 56 = 89 := by kernel_rfl
@[go_sem] theorem ty.i56 : (Tryz.prog.info? 56).isSome = true := by kernel_rfl
@[go_sem] theorem ty.i58 : (Tryz.prog.info? 58).isSome = true := by kernel_rfl
@[go_sem] theorem ty.i60 : (Tryz.prog.info? 60).isSome = true := by kernel_rfl
@[go_sem] theorem ty.i61 : (Tryz.prog.info? 61).isSome = true := by kernel_rfl
@[go_sem] theorem ty.i62 : (Tryz.prog.info? 62).isSome = true := by kernel_rfl
@[go_sem] theorem ty.i63 : (Tryz.prog.info? 63).isSome = true := by kernel_rfl
@[go_sem] theorem ty.i64 : (Tryz.prog.info? 64).isSome = true := by kernel_rfl
@[go_sem] theorem ty.i66 : (Tryz.prog.info? 66).isSome = true := by kernel_rfl
@[go_sem] theorem ty.i67 : (Tryz.prog.info? 67).isSome = true := by kernel_rfl
@[go_sem] theorem ty.i68 : (Tryz.prog.info? 68).isSome = true := by kernel_rfl
@[go_sem] theorem ty.k69 : tk Tryz.prog 69 = .sl 3 1 8 true := by kernel_rfl
@[go_sem] theorem ty.e69 : elT Tryz.prog 69 = 3 := by kernel_rfl
@[go_sem] theorem ty.i69 : (Tryz.prog.info? 69).isSome = true := by kernel_rfl
@[go_sem] theorem ty.i70 : (Tryz.prog.info? 70).isSome = true := by kernel_rfl
@[go_sem] theorem ty.i71 : (Tryz.prog.info? 71).isSome = true := by kernel_rfl
@[go_sem] theorem ty.i72 : (Tryz.prog.info? 72).isSome = true := by kernel_rfl
@[go_sem] theorem ty.i73 : (Tryz.prog.info? 73).isSome = true := by kernel_rfl
@[go_sem] theorem ty.i74 : (Tryz.prog.info? 74).isSome = true := by kernel_rfl
@[go_sem] theorem ty.i75 : (Tryz.prog.info? 75).isSome = true := by kernel_rfl
@[go_sem] theorem ty.i76 : (Tryz.prog.info? 76).isSome = true := by kernel_rfl
@[go_sem] theorem ty.i77 : (Tryz.prog.info? 77).isSome = true := by kernel_rfl
@[go_sem] theorem ty.i78 : (Tryz.prog.info? 78).isSome = true := by kernel_rfl
@[go_sem] theorem ty.i79 : (Tryz.prog.info? 79).isSome = true := by kernel_rfl
@[go_sem] theorem ty.i80 : (Tryz.prog.info? 80).isSome = true := by kernel_rfl
@[go_sem] theorem ty.k81 : tk Tryz.prog 81 = .st [(0, 1, false), (1, 3, true)] 4 := by kernel_rfl
@[go_sem] theorem ty.z81 : zD Tryz.prog 81 = .agg [.v (.string ByteArray.empty), .v (.int .i64 0), .v (.bool false), .sl 0 true []] := by kernel_rfl
@[go_sem] theorem ty.i81 : (Tryz.prog.info? 81).isSome = true := by kernel_rfl
@[go_sem] theorem ty.i82 : (Tryz.prog.info? 82).isSome = true := by kernel_rfl
@[go_sem] theorem ty.k83 : tk Tryz.prog 83 = .int .u64 := by kernel_rfl
@[go_sem] theorem ty.i83 : (Tryz.prog.info? 83).isSome = true := by kernel_rfl
@[go_sem] theorem ty.i84 : (Tryz.prog.info? 84).isSome = true := by kernel_rfl
@[go_sem] theorem ty.i85 : (Tryz.prog.info? 85).isSome = true := by kernel_rfl
@[go_sem] theorem ty.i86 : (Tryz.prog.info? 86).isSome = true := by kernel_rfl
@[go_sem] theorem ty.i87 : (Tryz.prog.info? 87).isSome = true := by kernel_rfl
@[go_sem] theorem ty.i88 : (Tryz.prog.info? 88).isSome = true := by kernel_rfl
@[go_sem] theorem ty.k89 : tk Tryz.prog 89 = .st [(0, 1, false), (1, 1, false)] 2 := by kernel_rfl
@[go_sem] theorem ty.z89 : zD Tryz.prog 89 = .agg [.v (.string ByteArray.empty), .v (.string ByteArray.empty)] := by kernel_rfl
@[go_sem] theorem ty.i89 : (Tryz.prog.info? 89).isSome = true := by kernel_rfl
@[go_sem] theorem ty.i90 : (Tryz.prog.info? 90).isSome = true := by kernel_rfl
@[go_sem] theorem ty.i91 : (Tryz.prog.info? 91).isSome = true := by kernel_rfl
@[go_sem] theorem ty.i93 : (Tryz.prog.info? 93).isSome = true := by kernel_rfl
@[go_sem] theorem ty.i94 : (Tryz.prog.info? 94).isSome = true := by kernel_rfl
@[go_sem] theorem ty.i95 : (Tryz.prog.info? 95).isSome = true := by kernel_rfl
@[go_sem] theorem ty.i96 : (Tryz.prog.info? 96).isSome = true := by kernel_rfl
@[go_sem] theorem ty.k97 : tk Tryz.prog 97 = .st [(0, 1, false), (1, 5, true)] 6 := by kernel_rfl
@[go_sem] theorem ty.z97 : zD Tryz.prog 97 = .agg [.v (.string ByteArray.empty), .v (.int .i64 0), .v (.bool false), .sl 0 true [], .sl 0 true [], .sl 0 true []] := by kernel_rfl
@[go_sem] theorem ty.i97 : (Tryz.prog.info? 97).isSome = true := by kernel_rfl
@[go_sem] theorem ty.i98 : (Tryz.prog.info? 98).isSome = true := by kernel_rfl
@[go_sem] theorem ty.i99 : (Tryz.prog.info? 99).isSome = true := by kernel_rfl
@[go_sem] theorem ty.i100 : (Tryz.prog.info? 100).isSome = true := by kernel_rfl
@[go_sem] theorem ty.i101 : (Tryz.prog.info? 101).isSome = true := by kernel_rfl
@[go_sem] theorem ty.i102 : (Tryz.prog.info? 102).isSome = true := by kernel_rfl
@[go_sem] theorem ty.i104 : (Tryz.prog.info? 104).isSome = true := by kernel_rfl
@[go_sem] theorem ty.i105 : (Tryz.prog.info? 105).isSome = true := by kernel_rfl
@[go_sem] theorem ty.i107 : (Tryz.prog.info? 107).isSome = true := by kernel_rfl
@[go_sem] theorem ty.i108 : (Tryz.prog.info? 108).isSome = true := by kernel_rfl
@[go_sem] theorem ty.i109 : (Tryz.prog.info? 109).isSome = true := by kernel_rfl
@[go_sem] theorem ty.k110 : tk Tryz.prog 110 = .sl 5 1 1 true := by kernel_rfl
@[go_sem] theorem ty.e110 : elT Tryz.prog 110 = 5 := by kernel_rfl
@[go_sem] theorem ty.i110 : (Tryz.prog.info? 110).isSome = true := by kernel_rfl
@[go_sem] theorem ty.i111 : (Tryz.prog.info? 111).isSome = true := by kernel_rfl
@[go_sem] theorem ty.i113 : (Tryz.prog.info? 113).isSome = true := by kernel_rfl
@[go_sem] theorem ty.i114 : (Tryz.prog.info? 114).isSome = true := by kernel_rfl
@[go_sem] theorem ty.k115 : tk Tryz.prog 115 = .ptr 169 := by kernel_rfl
@[go_sem] theorem ty.i115 : (Tryz.prog.info? 115).isSome = true := by kernel_rfl
@[go_sem] theorem ty.i116 : (Tryz.prog.info? 116).isSome = true := by kernel_rfl
@[go_sem] theorem ty.i118 : (Tryz.prog.info? 118).isSome = true := by kernel_rfl
@[go_sem] theorem ty.i119 : (Tryz.prog.info? 119).isSome = true := by kernel_rfl
@[go_sem] theorem ty.i120 : (Tryz.prog.info? 120).isSome = true := by kernel_rfl
@[go_sem] theorem ty.k121 : tk Tryz.prog 121 = .st [(0, 1, false), (1, 1, false)] 2 := by kernel_rfl
@[go_sem] theorem ty.z121 : zD Tryz.prog 121 = .agg [.v (.string ByteArray.empty), .sl 0 true []] := by kernel_rfl
@[go_sem] theorem ty.c121 : Tryz.prog.cellsOf 121 = 2 := by kernel_rfl
@[go_sem] theorem ty.i121 : (Tryz.prog.info? 121).isSome = true := by kernel_rfl
@[go_sem] theorem ty.k122 : tk Tryz.prog 122 = .sl 36 3 40 true := by kernel_rfl
@[go_sem] theorem ty.e122 : elT Tryz.prog 122 = 36 := by kernel_rfl
@[go_sem] theorem ty.c122 : Tryz.prog.cellsOf 122 = 1 := by kernel_rfl
@[go_sem] theorem ty.i122 : (Tryz.prog.info? 122).isSome = true := by kernel_rfl
@[go_sem] theorem ty.i123 : (Tryz.prog.info? 123).isSome = true := by kernel_rfl
@[go_sem] theorem ty.k124 : tk Tryz.prog 124 = .st [(0, 1, false), (1, 2, true), (3, 1, false)] 4 := by kernel_rfl
@[go_sem] theorem ty.z124 : zD Tryz.prog 124 = .agg [.v (.string ByteArray.empty), .v (.string ByteArray.empty), .sl 0 true [], .sl 0 true []] := by kernel_rfl
@[go_sem] theorem ty.c124 : Tryz.prog.cellsOf 124 = 4 := by kernel_rfl
@[go_sem] theorem ty.i124 : (Tryz.prog.info? 124).isSome = true := by kernel_rfl
@[go_sem] theorem ty.i125 : (Tryz.prog.info? 125).isSome = true := by kernel_rfl
@[go_sem] theorem ty.i126 : (Tryz.prog.info? 126).isSome = true := by kernel_rfl
@[go_sem] theorem ty.i127 : (Tryz.prog.info? 127).isSome = true := by kernel_rfl
@[go_sem] theorem ty.i128 : (Tryz.prog.info? 128).isSome = true := by kernel_rfl
@[go_sem] theorem ty.i129 : (Tryz.prog.info? 129).isSome = true := by kernel_rfl
@[go_sem] theorem ty.i130 : (Tryz.prog.info? 130).isSome = true := by kernel_rfl
@[go_sem] theorem ty.i131 : (Tryz.prog.info? 131).isSome = true := by kernel_rfl
@[go_sem] theorem ty.i132 : (Tryz.prog.info? 132).isSome = true := by kernel_rfl
@[go_sem] theorem ty.i133 : (Tryz.prog.info? 133).isSome = true := by kernel_rfl
@[go_sem] theorem ty.i134 : (Tryz.prog.info? 134).isSome = true := by kernel_rfl
@[go_sem] theorem ty.i135 : (Tryz.prog.info? 135).isSome = true := by kernel_rfl
@[go_sem] theorem ty.i136 : (Tryz.prog.info? 136).isSome = true := by kernel_rfl
@[go_sem] theorem ty.i137 : (Tryz.prog.info? 137).isSome = true := by kernel_rfl
@[go_sem] theorem ty.i138 : (Tryz.prog.info? 138).isSome = true := by kernel_rfl
@[go_sem] theorem ty.i139 : (Tryz.prog.info? 139).isSome = true := by kernel_rfl
@[go_sem] theorem ty.i140 : (Tryz.prog.info? 140).isSome = true := by kernel_rfl
@[go_sem] theorem ty.i141 : (Tryz.prog.info? 141).isSome = true := by kernel_rfl
@[go_sem] theorem ty.i142 : (Tryz.prog.info? 142).isSome = true := by kernel_rfl
@[go_sem] theorem ty.i143 : (Tryz.prog.info? 143).isSome = true := by kernel_rfl
@[go_sem] theorem ty.i144 : (Tryz.prog.info? 144).isSome = true := by kernel_rfl
@[go_sem] theorem ty.i145 : (Tryz.prog.info? 145).isSome = true := by kernel_rfl
@[go_sem] theorem ty.i146 : (Tryz.prog.info? 146).isSome = true := by kernel_rfl
@[go_sem] theorem ty.i147 : (Tryz.prog.info? 147).isSome = true := by kernel_rfl
@[go_sem] theorem ty.i148 : (Tryz.prog.info? 148).isSome = true := by kernel_rfl
@[go_sem] theorem ty.i149 : (Tryz.prog.info? 149).isSome = true := by kernel_rfl
@[go_sem] theorem ty.i150 : (Tryz.prog.info? 150).isSome = true := by kernel_rfl
@[go_sem] theorem ty.k151 : tk Tryz.prog 151 = .fn := by kernel_rfl
@[go_sem] theorem ty.z151 : zD Tryz.prog 151 = .v .nilFunc := by kernel_rfl
@[go_sem] theorem ty.c151 : Tryz.prog.cellsOf 151 = 1 := by kernel_rfl
@[go_sem] theorem ty.i151 : (Tryz.prog.info? 151).isSome = true := by kernel_rfl
@[go_sem] theorem ty.i152 : (Tryz.prog.info? 152).isSome = true := by kernel_rfl
@[go_sem] theorem ty.i153 : (Tryz.prog.info? 153).isSome = true := by kernel_rfl
@[go_sem] theorem ty.i154 : (Tryz.prog.info? 154).isSome = true := by kernel_rfl
@[go_sem] theorem ty.i155 : (Tryz.prog.info? 155).isSome = true := by kernel_rfl
@[go_sem] theorem ty.i156 : (Tryz.prog.info? 156).isSome = true := by kernel_rfl
@[go_sem] theorem ty.k157 : tk Tryz.prog 157 = .st [(0, 1, false), (1, 1, false)] 2 := by kernel_rfl
@[go_sem] theorem ty.z157 : zD Tryz.prog 157 = .agg [.v (.string ByteArray.empty), .sl 0 true []] := by kernel_rfl
@[go_sem] theorem ty.i157 : (Tryz.prog.info? 157).isSome = true := by kernel_rfl
@[go_sem] theorem ty.i158 : (Tryz.prog.info? 158).isSome = true := by kernel_rfl
@[go_sem] theorem ty.i159 : (Tryz.prog.info? 159).isSome = true := by kernel_rfl
@[go_sem] theorem ty.i160 : (Tryz.prog.info? 160).isSome = true := by kernel_rfl
@[go_sem] theorem ty.i161 : (Tryz.prog.info? 161).isSome = true := by kernel_rfl
@[go_sem] theorem ty.i162 : (Tryz.prog.info? 162).isSome = true := by kernel_rfl
@[go_sem] theorem ty.i163 : (Tryz.prog.info? 163).isSome = true := by kernel_rfl
@[go_sem] theorem ty.i165 : (Tryz.prog.info? 165).isSome = true := by kernel_rfl
@[go_sem] theorem ty.i166 : (Tryz.prog.info? 166).isSome = true := by kernel_rfl
@[go_sem] theorem ty.k167 : tk Tryz.prog 167 = .sl 171 6 96 true := by kernel_rfl
@[go_sem] theorem ty.e167 : elT Tryz.prog 167 = 171 := by kernel_rfl
@[go_sem] theorem ty.c167 : Tryz.prog.cellsOf 167 = 1 := by kernel_rfl
@[go_sem] theorem ty.i167 : (Tryz.prog.info? 167).isSome = true := by kernel_rfl
@[go_sem] theorem ty.i168 : (Tryz.prog.info? 168).isSome = true := by kernel_rfl
@[go_sem] theorem ty.k169 : tk Tryz.prog 169 = .st [(0, 1, false)] 1 := by kernel_rfl
@[go_sem] theorem ty.z169 : zD Tryz.prog 169 = .agg [.sl 0 true []] := by kernel_rfl
@[go_sem] theorem ty.i169 : (Tryz.prog.info? 169).isSome = true := by kernel_rfl
@[go_sem] theorem ty.i170 : (Tryz.prog.info? 170).isSome = true := by kernel_rfl
@[go_sem] theorem ty.k171 : tk Tryz.prog 171 = .st [(0, 5, true), (5, 1, false)] 6 := by kernel_rfl
@[go_sem] theorem ty.z171 : zD Tryz.prog 171 = .agg [.v (.int .i64 0), .v (.bool false), .sl 0 true [], .sl 0 true [], .sl 0 true [], .v (.int .i64 0)] := by kernel_rfl
@[go_sem] theorem ty.c171 : Tryz.prog.cellsOf 171 = 6 := by kernel_rfl
@[go_sem] theorem ty.i171 : (Tryz.prog.info? 171).isSome = true := by kernel_rfl
@[go_sem] theorem ty.i172 : (Tryz.prog.info? 172).isSome = true := by kernel_rfl
@[go_sem] theorem ty.i173 : (Tryz.prog.info? 173).isSome = true := by kernel_rfl
@[go_sem] theorem ty.i174 : (Tryz.prog.info? 174).isSome = true := by kernel_rfl
@[go_sem] theorem ty.i175 : (Tryz.prog.info? 175).isSome = true := by kernel_rfl
@[go_sem] theorem ty.i177 : (Tryz.prog.info? 177).isSome = true := by kernel_rfl
@[go_sem] theorem ty.i178 : (Tryz.prog.info? 178).isSome = true := by kernel_rfl
@[go_sem] theorem ty.i179 : (Tryz.prog.info? 179).isSome = true := by kernel_rfl
@[go_sem] theorem ty.i180 : (Tryz.prog.info? 180).isSome = true := by kernel_rfl
@[go_sem] theorem ty.k181 : tk Tryz.prog 181 = .int .u64 := by kernel_rfl
@[go_sem] theorem ty.i181 : (Tryz.prog.info? 181).isSome = true := by kernel_rfl
@[go_sem] theorem ty.i182 : (Tryz.prog.info? 182).isSome = true := by kernel_rfl
@[go_sem] theorem ty.i183 : (Tryz.prog.info? 183).isSome = true := by kernel_rfl
@[go_sem] theorem ty.i184 : (Tryz.prog.info? 184).isSome = true := by kernel_rfl
@[go_sem] theorem ty.i185 : (Tryz.prog.info? 185).isSome = true := by kernel_rfl
@[go_sem] theorem ty.i186 : (Tryz.prog.info? 186).isSome = true := by kernel_rfl
@[go_sem] theorem ty.i187 : (Tryz.prog.info? 187).isSome = true := by kernel_rfl
@[go_sem] theorem ty.i188 : (Tryz.prog.info? 188).isSome = true := by kernel_rfl
@[go_sem] theorem ty.i189 : (Tryz.prog.info? 189).isSome = true := by kernel_rfl
@[go_sem] theorem ty.i190 : (Tryz.prog.info? 190).isSome = true := by kernel_rfl
@[go_sem] theorem ty.i191 : (Tryz.prog.info? 191).isSome = true := by kernel_rfl
@[go_sem] theorem ty.i192 : (Tryz.prog.info? 192).isSome = true := by kernel_rfl
@[go_sem] theorem ty.i193 : (Tryz.prog.info? 193).isSome = true := by kernel_rfl
@[go_sem] theorem ty.i194 : (Tryz.prog.info? 194).isSome = true := by kernel_rfl
@[go_sem] theorem ty.i195 : (Tryz.prog.info? 195).isSome = true := by kernel_rfl
@[go_sem] theorem ty.i196 : (Tryz.prog.info? 196).isSome = true := by kernel_rfl
@[go_sem] theorem ty.i197 : (Tryz.prog.info? 197).isSome = true := by kernel_rfl
@[go_sem] theorem ty.i198 : (Tryz.prog.info? 198).isSome = true := by kernel_rfl
@[go_sem] theorem ty.i199 : (Tryz.prog.info? 199).isSome = true := by kernel_rfl
@[go_sem] theorem ty.i200 : (Tryz.prog.info? 200).isSome = true := by kernel_rfl
@[go_sem] theorem ty.i201 : (Tryz.prog.info? 201).isSome = true := by kernel_rfl
@[go_sem] theorem ty.i202 : (Tryz.prog.info? 202).isSome = true := by kernel_rfl
@[go_sem] theorem ty.i203 : (Tryz.prog.info? 203).isSome = true := by kernel_rfl
@[go_sem] theorem ty.i204 : (Tryz.prog.info? 204).isSome = true := by kernel_rfl
@[go_sem] theorem ty.i205 : (Tryz.prog.info? 205).isSome = true := by kernel_rfl
@[go_sem] theorem ty.i206 : (Tryz.prog.info? 206).isSome = true := by kernel_rfl
@[go_sem] theorem ty.i207 : (Tryz.prog.info? 207).isSome = true := by kernel_rfl
@[go_sem] theorem ty.i208 : (Tryz.prog.info? 208).isSome = true := by kernel_rfl
@[go_sem] theorem ty.i209 : (Tryz.prog.info? 209).isSome = true := by kernel_rfl
@[go_sem] theorem ty.i210 : (Tryz.prog.info? 210).isSome = true := by kernel_rfl
@[go_sem] theorem ty.i212 : (Tryz.prog.info? 212).isSome = true := by kernel_rfl
@[go_sem] theorem ty.i213 : (Tryz.prog.info? 213).isSome = true := by kernel_rfl
@[go_sem] theorem ty.i214 : (Tryz.prog.info? 214).isSome = true := by kernel_rfl
@[go_sem] theorem ty.i215 : (Tryz.prog.info? 215).isSome = true := by kernel_rfl
@[go_sem] theorem ty.i216 : (Tryz.prog.info? 216).isSome = true := by kernel_rfl
@[go_sem] theorem ty.i217 : (Tryz.prog.info? 217).isSome = true := by kernel_rfl
@[go_sem] theorem ty.i218 : (Tryz.prog.info? 218).isSome = true := by kernel_rfl
@[go_sem] theorem ty.i219 : (Tryz.prog.info? 219).isSome = true := by kernel_rfl
@[go_sem] theorem ty.i220 : (Tryz.prog.info? 220).isSome = true := by kernel_rfl
@[go_sem] theorem ty.i221 : (Tryz.prog.info? 221).isSome = true := by kernel_rfl
@[go_sem] theorem ty.i222 : (Tryz.prog.info? 222).isSome = true := by kernel_rfl
@[go_sem] theorem ty.i223 : (Tryz.prog.info? 223).isSome = true := by kernel_rfl
@[go_sem] theorem ty.i224 : (Tryz.prog.info? 224).isSome = true := by kernel_rfl
@[go_sem] theorem ty.i225 : (Tryz.prog.info? 225).isSome = true := by kernel_rfl
@[go_sem] theorem ty.i226 : (Tryz.prog.info? 226).isSome = true := by kernel_rfl
@[go_sem] theorem ty.i227 : (Tryz.prog.info? 227).isSome = true := by kernel_rfl
@[go_sem] theorem ty.i229 : (Tryz.prog.info? 229).isSome = true := by kernel_rfl
@[go_sem] theorem ty.i230 : (Tryz.prog.info? 230).isSome = true := by kernel_rfl
@[go_sem] theorem ty.i231 : (Tryz.prog.info? 231).isSome = true := by kernel_rfl
@[go_sem] theorem ty.i232 : (Tryz.prog.info? 232).isSome = true := by kernel_rfl
@[go_sem] theorem ty.i233 : (Tryz.prog.info? 233).isSome = true := by kernel_rfl
@[go_sem] theorem ty.i234 : (Tryz.prog.info? 234).isSome = true := by kernel_rfl
@[go_sem] theorem ty.i235 : (Tryz.prog.info? 235).isSome = true := by kernel_rfl
@[go_sem] theorem ty.k236 : tk Tryz.prog 236 = .sl 27 1 24 true := by kernel_rfl
@[go_sem] theorem ty.e236 : elT Tryz.prog 236 = 27 := by kernel_rfl
@[go_sem] theorem ty.i236 : (Tryz.prog.info? 236).isSome = true := by kernel_rfl
@[go_sem] theorem ty.i237 : (Tryz.prog.info? 237).isSome = true := by kernel_rfl
@[go_sem] theorem ty.k238 : tk Tryz.prog 238 = .sl 25 1 24 true := by kernel_rfl
@[go_sem] theorem ty.e238 : elT Tryz.prog 238 = 25 := by kernel_rfl
@[go_sem] theorem ty.i238 : (Tryz.prog.info? 238).isSome = true := by kernel_rfl
@[go_sem] theorem ty.i239 : (Tryz.prog.info? 239).isSome = true := by kernel_rfl
@[go_sem] theorem ty.k240 : tk Tryz.prog 240 = .sl 26 1 24 true := by kernel_rfl
@[go_sem] theorem ty.e240 : elT Tryz.prog 240 = 26 := by kernel_rfl
@[go_sem] theorem ty.i240 : (Tryz.prog.info? 240).isSome = true := by kernel_rfl
@[go_sem] theorem ty.i241 : (Tryz.prog.info? 241).isSome = true := by kernel_rfl
@[go_sem] theorem ty.i242 : (Tryz.prog.info? 242).isSome = true := by kernel_rfl
@[go_sem] theorem ty.i244 : (Tryz.prog.info? 244).isSome = true := by kernel_rfl
@[go_sem] theorem ty.i245 : (Tryz.prog.info? 245).isSome = true := by kernel_rfl
@[go_sem] theorem ty.i246 : (Tryz.prog.info? 246).isSome = true := by kernel_rfl
@[go_sem] theorem ty.i247 : (Tryz.prog.info? 247).isSome = true := by kernel_rfl
@[go_sem] theorem ty.i248 : (Tryz.prog.info? 248).isSome = true := by kernel_rfl
@[go_sem] theorem ty.i249 : (Tryz.prog.info? 249).isSome = true := by kernel_rfl
@[go_sem] theorem ty.i250 : (Tryz.prog.info? 250).isSome = true := by kernel_rfl
@[go_sem] theorem ty.i251 : (Tryz.prog.info? 251).isSome = true := by kernel_rfl
@[go_sem] theorem ty.i252 : (Tryz.prog.info? 252).isSome = true := by kernel_rfl
@[go_sem] theorem ty.i253 : (Tryz.prog.info? 253).isSome = true := by kernel_rfl
@[go_sem] theorem ty.i254 : (Tryz.prog.info? 254).isSome = true := by kernel_rfl
@[go_sem] theorem ty.i255 : (Tryz.prog.info? 255).isSome = true := by kernel_rfl
@[go_sem] theorem ty.i256 : (Tryz.prog.info? 256).isSome = true := by kernel_rfl
@[go_sem] theorem ty.i257 : (Tryz.prog.info? 257).isSome = true := by kernel_rfl
@[go_sem] theorem ty.i258 : (Tryz.prog.info? 258).isSome = true := by kernel_rfl
@[go_sem] theorem ty.i259 : (Tryz.prog.info? 259).isSome = true := by kernel_rfl
@[go_sem] theorem ty.i260 : (Tryz.prog.info? 260).isSome = true := by kernel_rfl
@[go_sem] theorem ty.i261 : (Tryz.prog.info? 261).isSome = true := by kernel_rfl
@[go_sem] theorem ty.i262 : (Tryz.prog.info? 262).isSome = true := by kernel_rfl
@[go_sem] theorem ty.i264 : (Tryz.prog.info? 264).isSome = true := by kernel_rfl
@[go_sem] theorem ty.i265 : (Tryz.prog.info? 265).isSome = true := by kernel_rfl
@[go_sem] theorem ty.i266 : (Tryz.prog.info? 266).isSome = true := by kernel_rfl
@[go_sem] theorem ty.i267 : (Tryz.prog.info? 267).isSome = true := by kernel_rfl
@[go_sem] theorem ty.i268 : (Tryz.prog.info? 268).isSome = true := by kernel_rfl
@[go_sem] theorem ty.i269 : (Tryz.prog.info? 269).isSome = true := by kernel_rfl
@[go_sem] theorem ty.i270 : (Tryz.prog.info? 270).isSome = true := by kernel_rfl
@[go_sem] theorem ty.i271 : (Tryz.prog.info? 271).isSome = true := by kernel_rfl
@[go_sem] theorem ty.i272 : (Tryz.prog.info? 272).isSome = true := by kernel_rfl
@[go_sem] theorem ty.i273 : (Tryz.prog.info? 273).isSome = true := by kernel_rfl
@[go_sem] theorem ty.i274 : (Tryz.prog.info? 274).isSome = true := by kernel_rfl
@[go_sem] theorem ty.i275 : (Tryz.prog.info? 275).isSome = true := by kernel_rfl
@[go_sem] theorem ty.i276 : (Tryz.prog.info? 276).isSome = true := by kernel_rfl
@[go_sem] theorem ty.i277 : (Tryz.prog.info? 277).isSome = true := by kernel_rfl
@[go_sem] theorem ty.i278 : (Tryz.prog.info? 278).isSome = true := by kernel_rfl
@[go_sem] theorem ty.i279 : (Tryz.prog.info? 279).isSome = true := by kernel_rfl
@[go_sem] theorem ty.i281 : (Tryz.prog.info? 281).isSome = true := by kernel_rfl
@[go_sem] theorem ty.i282 : (Tryz.prog.info? 282).isSome = true := by kernel_rfl
@[go_sem] theorem ty.f0 : okF Tryz.prog 0 = false := by kernel_rfl
@[go_sem] theorem ty.f1 : okF Tryz.prog 1 = false := by kernel_rfl
@[go_sem] theorem ty.f2 : okF Tryz.prog 2 = true := by kernel_rfl
@[go_sem] theorem ty.f3 : okF Tryz.prog 3 = true := by kernel_rfl
@[go_sem] theorem ty.f4 : okF Tryz.prog 4 = true := by kernel_rfl
@[go_sem] theorem ty.f5 : okF Tryz.prog 5 = true := by kernel_rfl
@[go_sem] theorem ty.f6 : okF Tryz.prog 6 = true := by kernel_rfl
@[go_sem] theorem ty.f7 : okF Tryz.prog 7 = true := by kernel_rfl
@[go_sem] theorem ty.f8 : okF Tryz.prog 8 = true := by kernel_rfl
@[go_sem] theorem ty.f9 : okF Tryz.prog 9 = true := by kernel_rfl
@[go_sem] theorem ty.f10 : okF Tryz.prog 10 = true := by kernel_rfl
@[go_sem] theorem ty.f11 : okF Tryz.prog 11 = true := by kernel_rfl
@[go_sem] theorem ty.f12 : okF Tryz.prog 12 = true := by kernel_rfl
@[go_sem] theorem ty.f13 : okF Tryz.prog 13 = true := by kernel_rfl
@[go_sem] theorem ty.f14 : okF Tryz.prog 14 = true := by kernel_rfl
@[go_sem] theorem ty.f15 : okF Tryz.prog 15 = true := by kernel_rfl
@[go_sem] theorem ty.f16 : okF Tryz.prog 16 = true := by kernel_rfl
@[go_sem] theorem ty.f17 : okF Tryz.prog 17 = true := by kernel_rfl
@[go_sem] theorem ty.f18 : okF Tryz.prog 18 = true := by kernel_rfl
@[go_sem] theorem ty.f19 : okF Tryz.prog 19 = true := by kernel_rfl
@[go_sem] theorem ty.f20 : okF Tryz.prog 20 = true := by kernel_rfl
@[go_sem] theorem ty.f21 : okF Tryz.prog 21 = true := by kernel_rfl
@[go_sem] theorem ty.f22 : okF Tryz.prog 22 = true := by kernel_rfl
@[go_sem] theorem ty.f23 : okF Tryz.prog 23 = true := by kernel_rfl
@[go_sem] theorem ty.f24 : okF Tryz.prog 24 = true := by kernel_rfl
@[go_sem] theorem ty.f25 : okF Tryz.prog 25 = true := by kernel_rfl
@[go_sem] theorem ty.f26 : okF Tryz.prog 26 = true := by kernel_rfl
@[go_sem] theorem ty.f27 : okF Tryz.prog 27 = true := by kernel_rfl
@[go_sem] theorem ty.f28 : okF Tryz.prog 28 = true := by kernel_rfl
@[go_sem] theorem ty.f29 : okF Tryz.prog 29 = true := by kernel_rfl
@[go_sem] theorem ty.f30 : okF Tryz.prog 30 = true := by kernel_rfl
@[go_sem] theorem ty.f31 : okF Tryz.prog 31 = true := by kernel_rfl
@[go_sem] theorem ty.f32 : okF Tryz.prog 32 = true := by kernel_rfl
@[go_sem] theorem ty.f33 : okF Tryz.prog 33 = true := by kernel_rfl
@[go_sem] theorem ty.f34 : okF Tryz.prog 34 = true := by kernel_rfl
@[go_sem] theorem ty.f35 : okF Tryz.prog 35 = true := by kernel_rfl
@[go_sem] theorem ty.f36 : okF Tryz.prog 36 = true := by kernel_rfl
@[go_sem] theorem ty.f37 : okF Tryz.prog 37 = true := by kernel_rfl
@[go_sem] theorem ty.f38 : okF Tryz.prog 38 = true := by kernel_rfl
@[go_sem] theorem ty.f39 : okF Tryz.prog 39 = true := by kernel_rfl
@[go_sem] theorem ty.f40 : okF Tryz.prog 40 = true := by kernel_rfl
@[go_sem] theorem ty.f41 : okF Tryz.prog 41 = true := by kernel_rfl
@[go_sem] theorem ty.f42 : okF Tryz.prog 42 = true := by kernel_rfl
@[go_sem] theorem ty.f43 : okF Tryz.prog 43 = true := by kernel_rfl
@[go_sem] theorem ty.f44 : okF Tryz.prog 44 = true := by kernel_rfl
@[go_sem] theorem ty.f45 : okF Tryz.prog 45 = true := by kernel_rfl
@[go_sem] theorem ty.f46 : okF Tryz.prog 46 = true := by kernel_rfl
@[go_sem] theorem ty.f47 : okF Tryz.prog 47 = true := by kernel_rfl
@[go_sem] theorem ty.f48 : okF Tryz.prog 48 = true := by kernel_rfl
@[go_sem] theorem ty.f49 : okF Tryz.prog 49 = true := by kernel_rfl
@[go_sem] theorem ty.f50 : okF Tryz.prog 50 = true := by kernel_rfl
@[go_sem] theorem ty.f51 : okF Tryz.prog 51 = true := by kernel_rfl
@[go_sem] theorem ty.f52 : okF Tryz.prog 52 = true := by kernel_rfl
@[go_sem] theorem ty.f53 : okF Tryz.prog 53 = true := by kernel_rfl
@[go_sem] theorem ty.f54 : okF Tryz.prog 54 = true := by kernel_rfl
@[go_sem] theorem ty.f55 : okF Tryz.prog 55 = true := by kernel_rfl
@[go_sem] theorem ty.f56 : okF Tryz.prog 56 = true := by kernel_rfl
@[go_sem] theorem ty.f57 : okF Tryz.prog 57 = true := by kernel_rfl
@[go_sem] theorem ty.f58 : okF Tryz.prog 58 = true := by kernel_rfl
@[go_sem] theorem ty.f59 : okF Tryz.prog 59 = true := by kernel_rfl
@[go_sem] theorem ty.f60 : okF Tryz.prog 60 = true := by kernel_rfl
@[go_sem] theorem ty.f61 : okF Tryz.prog 61 = true := by kernel_rfl
@[go_sem] theorem ty.f62 : okF Tryz.prog 62 = true := by kernel_rfl
@[go_sem] theorem ty.f63 : okF Tryz.prog 63 = true := by kernel_rfl
@[go_sem] theorem ty.f64 : okF Tryz.prog 64 = true := by kernel_rfl
@[go_sem] theorem ty.f65 : okF Tryz.prog 65 = true := by kernel_rfl
@[go_sem] theorem ty.f66 : okF Tryz.prog 66 = true := by kernel_rfl
@[go_sem] theorem ty.f67 : okF Tryz.prog 67 = true := by kernel_rfl
@[go_sem] theorem ty.f68 : okF Tryz.prog 68 = true := by kernel_rfl
@[go_sem] theorem ty.f69 : okF Tryz.prog 69 = true := by kernel_rfl
@[go_sem] theorem ty.f70 : okF Tryz.prog 70 = true := by kernel_rfl
@[go_sem] theorem ty.f71 : okF Tryz.prog 71 = true := by kernel_rfl
@[go_sem] theorem ty.f72 : okF Tryz.prog 72 = true := by kernel_rfl
@[go_sem] theorem ty.f73 : okF Tryz.prog 73 = true := by kernel_rfl
@[go_sem] theorem ty.f74 : okF Tryz.prog 74 = true := by kernel_rfl
@[go_sem] theorem ty.f75 : okF Tryz.prog 75 = true := by kernel_rfl
@[go_sem] theorem ty.f76 : okF Tryz.prog 76 = true := by kernel_rfl
@[go_sem] theorem ty.f77 : okF Tryz.prog 77 = true := by kernel_rfl
@[go_sem] theorem ty.f78 : okF Tryz.prog 78 = true := by kernel_rfl
@[go_sem] theorem ty.f79 : okF Tryz.prog 79 = true := by kernel_rfl
@[go_sem] theorem ty.f80 : okF Tryz.prog 80 = true := by kernel_rfl
@[go_sem] theorem ty.f81 : okF Tryz.prog 81 = false := by kernel_rfl
@[go_sem] theorem ty.f82 : okF Tryz.prog 82 = true := by kernel_rfl
@[go_sem] theorem ty.f83 : okF Tryz.prog 83 = true := by kernel_rfl
@[go_sem] theorem ty.f84 : okF Tryz.prog 84 = true := by kernel_rfl
@[go_sem] theorem ty.f85 : okF Tryz.prog 85 = true := by kernel_rfl
@[go_sem] theorem ty.f86 : okF Tryz.prog 86 = true := by kernel_rfl
@[go_sem] theorem ty.f87 : okF Tryz.prog 87 = true := by kernel_rfl
@[go_sem] theorem ty.f88 : okF Tryz.prog 88 = true := by kernel_rfl
@[go_sem] theorem ty.f89 : okF Tryz.prog 89 = true := by kernel_rfl
@[go_sem] theorem ty.f90 : okF Tryz.prog 90 = true := by kernel_rfl
@[go_sem] theorem ty.f91 : okF Tryz.prog 91 = true := by kernel_rfl
@[go_sem] theorem ty.f92 : okF Tryz.prog 92 = true := by kernel_rfl
@[go_sem] theorem ty.f93 : okF Tryz.prog 93 = true := by kernel_rfl
@[go_sem] theorem ty.f94 : okF Tryz.prog 94 = true := by kernel_rfl
@[go_sem] theorem ty.f95 : okF Tryz.prog 95 = true := by kernel_rfl
@[go_sem] theorem ty.f96 : okF Tryz.prog 96 = true := by kernel_rfl
@[go_sem] theorem ty.f97 : okF Tryz.prog 97 = true := by kernel_rfl
@[go_sem] theorem ty.f98 : okF Tryz.prog 98 = true := by kernel_rfl
@[go_sem] theorem ty.f99 : okF Tryz.prog 99 = true := by kernel_rfl
@[go_sem] theorem ty.f100 : okF Tryz.prog 100 = true := by kernel_rfl
@[go_sem] theorem ty.f101 : okF Tryz.prog 101 = true := by kernel_rfl
@[go_sem] theorem ty.f102 : okF Tryz.prog 102 = true := by kernel_rfl
@[go_sem] theorem ty.f103 : okF Tryz.prog 103 = true := by kernel_rfl
@[go_sem] theorem ty.f104 : okF Tryz.prog 104 = true := by kernel_rfl
@[go_sem] theorem ty.f105 : okF Tryz.prog 105 = true := by kernel_rfl
@[go_sem] theorem ty.f106 : okF Tryz.prog 106 = true := by kernel_rfl
@[go_sem] theorem ty.f107 : okF Tryz.prog 107 = true := by kernel_rfl
@[go_sem] theorem ty.f108 : okF Tryz.prog 108 = true := by kernel_rfl
@[go_sem] theorem ty.f109 : okF Tryz.prog 109 = true := by kernel_rfl
@[go_sem] theorem ty.f110 : okF Tryz.prog 110 = true := by kernel_rfl
@[go_sem] theorem ty.f111 : okF Tryz.prog 111 = true := by kernel_rfl
@[go_sem] theorem ty.f112 : okF Tryz.prog 112 = true := by kernel_rfl
@[go_sem] theorem ty.f113 : okF Tryz.prog 113 = true := by kernel_rfl
@[go_sem] theorem ty.f114 : okF Tryz.prog 114 = true := by kernel_rfl
@[go_sem] theorem ty.f115 : okF Tryz.prog 115 = true := by kernel_rfl
@[go_sem] theorem ty.f116 : okF Tryz.prog 116 = true := by kernel_rfl
@[go_sem] theorem ty.f117 : okF Tryz.prog 117 = true := by kernel_rfl
@[go_sem] theorem ty.f118 : okF Tryz.prog 118 = true := by kernel_rfl
@[go_sem] theorem ty.f119 : okF Tryz.prog 119 = true := by kernel_rfl
@[go_sem] theorem ty.f120 : okF Tryz.prog 120 = true := by kernel_rfl
@[go_sem] theorem ty.f121 : okF Tryz.prog 121 = true := by kernel_rfl
@[go_sem] theorem ty.f122 : okF Tryz.prog 122 = true := by kernel_rfl
@[go_sem] theorem ty.f123 : okF Tryz.prog 123 = true := by kernel_rfl
@[go_sem] theorem ty.f124 : okF Tryz.prog 124 = true := by kernel_rfl
@[go_sem] theorem ty.f125 : okF Tryz.prog 125 = true := by kernel_rfl
@[go_sem] theorem ty.f126 : okF Tryz.prog 126 = true := by kernel_rfl
@[go_sem] theorem ty.f127 : okF Tryz.prog 127 = true := by kernel_rfl
@[go_sem] theorem ty.f128 : okF Tryz.prog 128 = true := by kernel_rfl
@[go_sem] theorem ty.f129 : okF Tryz.prog 129 = true := by kernel_rfl
@[go_sem] theorem ty.f130 : okF Tryz.prog 130 = true := by kernel_rfl
@[go_sem] theorem ty.f131 : okF Tryz.prog 131 = true := by kernel_rfl
@[go_sem] theorem ty.f132 : okF Tryz.prog 132 = true := by kernel_rfl
@[go_sem] theorem ty.f133 : okF Tryz.prog 133 = true := by kernel_rfl
@[go_sem] theorem ty.f134 : okF Tryz.prog 134 = true := by kernel_rfl
@[go_sem] theorem ty.f135 : okF Tryz.prog 135 = true := by kernel_rfl
@[go_sem] theorem ty.f136 : okF Tryz.prog 136 = true := by kernel_rfl
@[go_sem] theorem ty.f137 : okF Tryz.prog 137 = true := by kernel_rfl
@[go_sem] theorem ty.f138 : okF Tryz.prog 138 = true := by kernel_rfl
@[go_sem] theorem ty.f139 : okF Tryz.prog 139 = true := by kernel_rfl
@[go_sem] theorem ty.f140 : okF Tryz.prog 140 = false := by kernel_rfl
@[go_sem] theorem ty.f141 : okF Tryz.prog 141 = true := by kernel_rfl
@[go_sem] theorem ty.f142 : okF Tryz.prog 142 = true := by kernel_rfl
@[go_sem] theorem ty.f143 : okF Tryz.prog 143 = true := by kernel_rfl
@[go_sem] theorem ty.f144 : okF Tryz.prog 144 = true := by kernel_rfl
@[go_sem] theorem ty.f145 : okF Tryz.prog 145 = true := by kernel_rfl
@[go_sem] theorem ty.f146 : okF Tryz.prog 146 = true := by kernel_rfl
@[go_sem] theorem ty.f147 : okF Tryz.prog 147 = true := by kernel_rfl
@[go_sem] theorem ty.f148 : okF Tryz.prog 148 = true := by kernel_rfl
@[go_sem] theorem ty.f149 : okF Tryz.prog 149 = true := by kernel_rfl
@[go_sem] theorem ty.f150 : okF Tryz.prog 150 = true := by kernel_rfl
@[go_sem] theorem ty.f151 : okF Tryz.prog 151 = true := by kernel_rfl
@[go_sem] theorem ty.f152 : okF Tryz.prog 152 = true := by kernel_rfl
@[go_sem] theorem ty.f153 : okF Tryz.prog 153 = true := by kernel_rfl
@[go_sem] theorem ty.f154 : okF Tryz.prog 154 = true := by kernel_rfl
@[go_sem] theorem ty.f155 : okF Tryz.prog 155 = true := by kernel_rfl
@[go_sem] theorem ty.f156 : okF Tryz.prog 156 = true := by kernel_rfl
@[go_sem] theorem ty.f157 : okF Tryz.prog 157 = true := by kernel_rfl
@[go_sem] theorem ty.f158 : okF Tryz.prog 158 = true := by kernel_rfl
@[go_sem] theorem ty.f159 : okF Tryz.prog 159 = true := by kernel_rfl
@[go_sem] theorem ty.f160 : okF Tryz.prog 160 = true := by kernel_rfl
@[go_sem] theorem ty.f161 : okF Tryz.prog 161 = true := by kernel_rfl
@[go_sem] theorem ty.f162 : okF Tryz.prog 162 = true := by kernel_rfl
@[go_sem] theorem ty.f163 : okF Tryz.prog 163 = true := by kernel_rfl
@[go_sem] theorem ty.f164 : okF Tryz.prog 164 = true := by kernel_rfl
@[go_sem] theorem ty.f165 : okF Tryz.prog 165 = true := by kernel_rfl
@[go_sem] theorem ty.f166 : okF Tryz.prog 166 = true := by kernel_rfl
@[go_sem] theorem ty.f167 : okF Tryz.prog 167 = true := by kernel_rfl
@[go_sem] theorem ty.f168 : okF Tryz.prog 168 = true := by kernel_rfl
@[go_sem] theorem ty.f169 : okF Tryz.prog 169 = true := by kernel_rfl
@[go_sem] theorem ty.f170 : okF Tryz.prog 170 = true := by kernel_rfl
@[go_sem] theorem ty.f171 : okF Tryz.prog 171 = true := by kernel_rfl
@[go_sem] theorem ty.f172 : okF Tryz.prog 172 = true := by kernel_rfl
@[go_sem] theorem ty.f173 : okF Tryz.prog 173 = true := by kernel_rfl
@[go_sem] theorem ty.f174 : okF Tryz.prog 174 = true := by kernel_rfl
@[go_sem] theorem ty.f175 : okF Tryz.prog 175 = true := by kernel_rfl
@[go_sem] theorem ty.f176 : okF Tryz.prog 176 = true := by kernel_rfl
@[go_sem] theorem ty.f177 : okF Tryz.prog 177 = true := by kernel_rfl
@[go_sem] theorem ty.f178 : okF Tryz.prog 178 = true := by kernel_rfl
@[go_sem] theorem ty.f179 : okF Tryz.prog 179 = true := by kernel_rfl
@[go_sem] theorem ty.f180 : okF Tryz.prog 180 = true := by kernel_rfl
@[go_sem] theorem ty.f181 : okF Tryz.prog 181 = true := by kernel_rfl
@[go_sem] theorem ty.f182 : okF Tryz.prog 182 = true := by kernel_rfl
@[go_sem] theorem ty.f183 : okF Tryz.prog 183 = true := by kernel_rfl
@[go_sem] theorem ty.f184 : okF Tryz.prog 184 = true := by kernel_rfl
@[go_sem] theorem ty.f185 : okF Tryz.prog 185 = true := by kernel_rfl
@[go_sem] theorem ty.f186 : okF Tryz.prog 186 = true := by kernel_rfl
@[go_sem] theorem ty.f187 : okF Tryz.prog 187 = true := by kernel_rfl
@[go_sem] theorem ty.f188 : okF Tryz.prog 188 = true := by kernel_rfl
@[go_sem] theorem ty.f189 : okF Tryz.prog 189 = true := by kernel_rfl
@[go_sem] theorem ty.f190 : okF Tryz.prog 190 = true := by kernel_rfl
@[go_sem] theorem ty.f191 : okF Tryz.prog 191 = true := by kernel_rfl
@[go_sem] theorem ty.f192 : okF Tryz.prog 192 = true := by kernel_rfl
@[go_sem] theorem ty.f193 : okF Tryz.prog 193 = false := by kernel_rfl
@[go_sem] theorem ty.f194 : okF Tryz.prog 194 = false := by kernel_rfl
@[go_sem] theorem ty.f195 : okF Tryz.prog 195 = false := by kernel_rfl
@[go_sem] theorem ty.f196 : okF Tryz.prog 196 = false := by kernel_rfl
@[go_sem] theorem ty.f197 : okF Tryz.prog 197 = false := by kernel_rfl
@[go_sem] theorem ty.f198 : okF Tryz.prog 198 = false := by kernel_rfl
@[go_sem] theorem ty.f199 : okF Tryz.prog 199 = false := by kernel_rfl
@[go_sem] theorem ty.f200 : okF Tryz.prog 200 = false := by kernel_rfl
@[go_sem] theorem ty.f201 : okF Tryz.prog 201 = false := by kernel_rfl
@[go_sem] theorem ty.f202 : okF Tryz.prog 202 = false := by kernel_rfl
@[go_sem] theorem ty.f203 : okF Tryz.prog 203 = false := by kernel_rfl
@[go_sem] theorem ty.f204 : okF Tryz.prog 204 = false := by kernel_rfl
@[go_sem] theorem ty.f205 : okF Tryz.prog 205 = false := by kernel_rfl
@[go_sem] theorem ty.f206 : okF Tryz.prog 206 = false := by kernel_rfl
@[go_sem] theorem ty.f207 : okF Tryz.prog 207 = false := by kernel_rfl
@[go_sem] theorem ty.f208 : okF Tryz.prog 208 = false := by kernel_rfl
@[go_sem] theorem ty.f209 : okF Tryz.prog 209 = false := by kernel_rfl
@[go_sem] theorem ty.f210 : okF Tryz.prog 210 = false := by kernel_rfl
theorem mx : Tryz.prog.follows .mixedOrders = true := by kernel_rfl
end Go.Proofs.YtfieabidajilmaaGreat

namespace Aml
open Go Go.RowKit
set_option linter.unusedVariables false
set_option linter.unusedSimpArgs false

/-- Slots from i on: those that live stay, the others are forgotten. -/
def wkA : List DV → Nat → List Nat → List DV
  | [], _, _ => []
  | _ :: ds, i, [] => .any :: wkA ds (i + 1) []
  | d :: ds, i, j :: js => if i = j then d :: wkA ds (i + 1) js else .any :: wkA ds (i + 1) (j :: js)
def wk (live : List Nat) (fr : List DV) : List DV := wkA fr 0 live
def upds (fr : List DV) : List (Nat × DV) → List DV
  | [] => fr
  | (i, d) :: us => upds (fr.set i d) us

theorem repL_any {g : Gh} : ∀ {ds es : List DV} {us : List Value}, RepL g ds us → ds.length = es.length → (∀ (i : Nat) (d e : DV), ds[i]? = some d → es[i]? = some e → e = d ∨ e = .any) → RepL g es us :=
  fun {ds es us} h hl hs => ⟨by rw [← hl]; exact h.len, fun i e u h1 h2 => by
    have hi : i < ds.length := by rw [hl]; exact (List.getElem?_eq_some_iff.1 h1).1
    rcases hs i _ e (List.getElem?_eq_getElem hi) h1 with rfl | rfl
    · exact h.at_ i _ u (List.getElem?_eq_getElem hi) h2
    · exact .any u⟩
theorem wkA_spec : ∀ (ds : List DV) (k : Nat) (js : List Nat), (wkA ds k js).length = ds.length ∧ ∀ (i : Nat) (d e : DV), ds[i]? = some d → (wkA ds k js)[i]? = some e → e = d ∨ e = .any
  | [], k, js => ⟨by simp [wkA], fun i d e h => by simp at h⟩
  | d :: ds, k, [] => by
    obtain ⟨h1, h2⟩ := wkA_spec ds (k + 1) []
    refine ⟨by simp [wkA, h1], fun i d' e a b => ?_⟩
    cases i with
    | zero => simp [wkA] at b; exact .inr b.symm
    | succ i => simp [wkA] at a b; exact h2 i d' e a b
  | d :: ds, k, j :: js => by
    simp only [wkA]
    split
    · obtain ⟨h1, h2⟩ := wkA_spec ds (k + 1) js
      refine ⟨by simp [h1], fun i d' e a b => ?_⟩
      cases i with
      | zero => simp at a b; exact .inl (b.symm.trans a)
      | succ i => simp at a b; exact h2 i d' e a b
    · obtain ⟨h1, h2⟩ := wkA_spec ds (k + 1) (j :: js)
      refine ⟨by simp [h1], fun i d' e a b => ?_⟩
      cases i with
      | zero => simp at b; exact .inr b.symm
      | succ i => simp at a b; exact h2 i d' e a b
theorem repL_wk {g : Gh} {fr : List DV} {us : List Value} (live : List Nat) (h : RepL g fr us) : RepL g (wk live fr) us :=
  repL_any h (wkA_spec fr 0 live).1.symm (wkA_spec fr 0 live).2

section
variable {P : Program} {w0 : W0}

/-- A nil slice in a slot becomes one that grows. -/
theorem awp_grow (i s : Nat) (hs : 0 < s) {c : Code} {fr : List DV} {S : St} {Q : Exit → List DV → St → Prop} {s0 : Nat} (hi : fr[i]? = some (.sl s0 true []))
    (h : ∀ l, nin S.acc l → AWp P w0 c (fr.set i (.acc l 0)) ⟨S.box, (l, .arr s []) :: S.acc⟩ Q) : AWp P w0 c fr S Q := by
  intro g a w h1 h2 h3
  have hlt : i < a.tmps.toList.length := by rw [← h2.len]; exact (List.getElem?_eq_some_iff.1 hi).1
  have hr := h2.at_ i _ _ hi (List.getElem?_eq_getElem hlt)
  have hr' : Rep g (.sl s true []) a.tmps.toList[i] := by obtain ⟨o', ho'⟩ := rep_full_nil hr; rw [ho']; exact .nil _ _ _ _ fun _ => rfl
  obtain ⟨l, g', hle, hne, hR, hA⟩ := h1.newAcc hs hr' (.arr s []) (.inr ⟨rfl, rfl⟩)
  have hfr := repL_same (h2.mono hle) (List.getElem?_eq_getElem hlt) hA
  exact wpA_mono (h l (nin_of hne) g' a w hR hfr (hle.dk h3)) fun _ _ _ k => k.of_le hle
end
end Aml

namespace Aml
open Go Go.RowKit
set_option linter.unusedVariables false
set_option linter.unusedSimpArgs false

/-- An element that is asked for. -/
def elK (xs : List DV) (i : Nat) (F : DV → Prop) : Prop := ∀ d, xs[i]? = some d → okE d = true ∧ F d
def exK (xs : List DV) (i : Nat) (F : DV → Prop) : Prop := ∃ d, xs[i]? = some d ∧ okE d = true ∧ F d
theorem q_el_map {α : Type} (f : α → DV) (l : List α) (i : Nat) (F : DV → Prop) : elK (List.map f l) i F = ∀ a, l[i]? = some a → okE (f a) = true ∧ F (f a) := by
  unfold elK
  refine propext ⟨fun h a ha => h _ (by rw [List.getElem?_map, ha]; rfl), fun h d hd => ?_⟩
  rw [List.getElem?_map, Option.map_eq_some_iff] at hd
  obtain ⟨a, ha, rfl⟩ := hd
  exact h a ha
theorem q_el_nil (i : Nat) (F : DV → Prop) : elK [] i F = True := by simp [elK]
theorem q_el_zero (x : DV) (xs : List DV) (F : DV → Prop) : elK (x :: xs) 0 F = (okE x = true ∧ F x) := by simp [elK]
theorem q_ex_map {α : Type} (f : α → DV) (l : List α) (i : Nat) (F : DV → Prop) : exK (List.map f l) i F = (i < l.length ∧ ∀ a, l[i]? = some a → okE (f a) = true ∧ F (f a)) := by
  unfold exK
  refine propext ⟨fun ⟨d, hd, h⟩ => ?_, fun ⟨hi, h⟩ => ⟨f l[i], by rw [List.getElem?_map, List.getElem?_eq_getElem hi]; rfl, h _ (List.getElem?_eq_getElem hi)⟩⟩
  rw [List.getElem?_map, Option.map_eq_some_iff] at hd
  obtain ⟨a, ha, rfl⟩ := hd
  exact ⟨(List.getElem?_eq_some_iff.1 ha).1, fun b hb => by rw [ha] at hb; cases hb; exact h⟩
theorem q_okE_v (u : Value) : okE (.v u) = true := rfl
theorem q_okE_sl (s : Nat) (f : Bool) (xs : List DV) : okE (.sl s f xs) = true := rfl
theorem q_okE_agg (ds : List DV) : okE (.agg ds) = true := rfl
theorem q_okE_acc (l n : Nat) : okE (.acc l n) = true := rfl
theorem q_cd_v (u : Value) : cd (.v u) = [.v u] := rfl
theorem q_cd_sl (s : Nat) (f : Bool) (xs : List DV) : cd (.sl s f xs) = [.sl s f xs] := rfl
theorem q_cd_agg (ds : List DV) : cd (.agg ds) = ds := rfl
theorem q_cd_acc (l n : Nat) : cd (.acc l n) = [.acc l n] := rfl
theorem q_lk_same {α : Type} (k : Nat) (x : α) (t : List (Nat × α)) : lk ((k, x) :: t) k = some x := by simp [lk]
theorem q_lk_ne {α : Type} {k n : Nat} (h : ¬ k = n) (x : α) (t : List (Nat × α)) : lk ((k, x) :: t) n = lk t n := by simp [lk, h]
theorem q_up_same {α : Type} (k : Nat) (x y : α) (t : List (Nat × α)) : up ((k, x) :: t) k y = (k, y) :: t := by simp [up]
theorem q_up_ne {α : Type} {k n : Nat} (h : ¬ k = n) (x y : α) (t : List (Nat × α)) : up ((k, x) :: t) n y = (k, x) :: up t n y := by simp [up, h]

section
variable {P : Program} {w0 : W0} (K : DV → Prop) (K2 : DV → St → Prop) (S : St)
theorem q_ld_int (k : IntKind) (d : DV) (ds : List DV) : ldK (.int k) (d :: ds) K = K d := rfl
theorem q_ld_one (d : DV) (ds : List DV) : ldK .one (d :: ds) K = K d := rfl
theorem q_ld_fn (d : DV) (ds : List DV) : ldK .fn (d :: ds) K = K d := rfl
theorem q_ld_str (d : DV) (ds : List DV) : ldK .str (d :: ds) K = K d := rfl
theorem q_ld_sl (e s b : Nat) (i : Bool) (d : DV) (ds : List DV) : ldK (.sl e s b i) (d :: ds) K = K d := rfl
theorem q_ld_st (fs : List (Nat × Nat × Bool)) (n : Nat) (ds : List DV) : ldK (.st fs n) ds K = (n ≤ ds.length ∧ K (.agg (ds.take n))) := rfl
theorem q_load_ip (k : TK) (ds : List DV) : vLoad k S (.ip ds) K = ldK k ds K := rfl
theorem q_ia_sl (e s b s' : Nat) (f : Bool) (xs : List DV) (k : IntKind) (z : Int) : vIndexAddr (.sl e s b true) (.sl s' f xs) (.v (.int k z)) K = (s' = s ∧ 0 ≤ z ∧ z < xs.length ∧ elK xs z.toNat fun d => K (.ip (cd d))) := rfl
theorem q_ia_acc (e s b l n : Nat) (k : IntKind) (z : Int) : vIndexAddr (.sl e s b true) (.acc l n) (.v (.int k z)) K = (0 ≤ z ∧ z < n ∧ K (.ap l n s z.toNat 0)) := rfl
theorem q_bin_ii (op : BinOp) (t : TK) (cx cy : Bool) (k k' : IntKind) (m n : Int) : vBin op t cx cy (.v (.int k m)) (.v (.int k' n)) K = (sameKind op k k' = true ∧ vBinI op k m n K) := rfl
theorem q_bin_ss (op : BinOp) (t : TK) (cx cy : Bool) (a b : ByteArray) : vBin op t cx cy (.v (.string a)) (.v (.string b)) K = vBinS op a b K := rfl
theorem q_bin_bn (cx cy a b : Bool) : vBin .neq .one cx cy (.v (.bool a)) (.v (.bool b)) K = K (.v (.bool (!(a == b)))) := rfl
theorem q_bin_pe (e : Nat) (cx cy : Bool) (a : Addr) : vBin .eql (.ptr e) cx cy (.v (.pointer (some a))) (.v (.pointer none)) K = K (.v (.bool false)) := by simp [vBin, isPtr]
theorem q_un_not (b : Bool) : vUn .not (.v (.bool b)) K = K (.v (.bool (!b))) := rfl
theorem q_conv_i (k0 k k1 : IntKind) (n : Int) : vConv (.int k0) (.int k) (.v (.int k1 n)) K = K (.v (.int k (k.wrap n))) := rfl
theorem q_nn_ptr (a : Addr) : notNil (.v (.pointer (some a))) = true := rfl
theorem q_nn_ap (l n s i o : Nat) : notNil (.ap l n s i o) = true := rfl
theorem q_shr1_v (u : Value) : shr1 S (.v u) K2 = K2 (.v u) S := rfl
theorem q_shr1_sl (s : Nat) (f : Bool) (xs : List DV) : shr1 S (.sl s f xs) K2 = K2 (.sl s f xs) S := rfl
theorem q_shr1s_nil (K3 : List DV → St → Prop) : shr1s S [] K3 = K3 [] S := rfl
theorem q_shr1s_cons (d : DV) (ds : List DV) (K3 : List DV → St → Prop) : shr1s S (d :: ds) K3 = shr1 S d fun e S => shr1s S ds fun es S => K3 (e :: es) S := rfl
theorem q_shr_v (u : Value) : shr S (.v u) K2 = K2 (.v u) S := rfl
theorem q_shr_sl (s : Nat) (f : Bool) (xs : List DV) : shr S (.sl s f xs) K2 = K2 (.sl s f xs) S := rfl
theorem q_shr_acc (l n : Nat) : shr S (.acc l n) K2 = shr1 S (.acc l n) K2 := rfl
theorem q_shr_agg (ds : List DV) : shr S (.agg ds) K2 = shr1s S ds fun ds S => K2 (.agg ds) S := rfl
theorem q_shrs_nil (K3 : List DV → St → Prop) : shrs S [] K3 = K3 [] S := rfl
theorem q_shrs_cons (d : DV) (ds : List DV) (K3 : List DV → St → Prop) : shrs S (d :: ds) K3 = shr S d fun e S => shrs S ds fun es S => K3 (e :: es) S := rfl
theorem q_shrT_v (u : Value) : shrT S (.v u) K2 = K2 (.v u) S := rfl
theorem q_shrT_sl (s : Nat) (f : Bool) (xs : List DV) : shrT S (.sl s f xs) K2 = K2 (.sl s f xs) S := rfl
theorem q_shrT_acc (l n : Nat) : shrT S (.acc l n) K2 = shr1 S (.acc l n) K2 := rfl
theorem q_shrT_agg (ds : List DV) : shrT S (.agg ds) K2 = shr1s S ds fun ds S => K2 (.agg ds) S := rfl
theorem q_shrT_tup (ds : List DV) : shrT S (.tup ds) K2 = shrs S ds fun ds S => K2 (.tup ds) S := rfl
theorem q_bnd_none (z : Int) (K4 : Int → Prop) : bnd none z K4 = K4 z := rfl
theorem q_bnd_some (k : IntKind) (n z : Int) (K4 : Int → Prop) : bnd (some (.v (.int k n))) z K4 = K4 n := rfl
theorem q_slice_sl (e s b s' : Nat) (f : Bool) (xs : List DV) (lo hi mx : Option DV) : vSlice (.sl e s b true) (.sl s' f xs) lo hi mx K = ((s' = s ∨ xs = []) ∧ bnd lo 0 fun l => bnd hi xs.length fun h => bnd mx h fun m => 0 ≤ l ∧ l ≤ h ∧ h ≤ m ∧ m ≤ xs.length ∧
      K (.sl s (if mx.isSome then decide (m = h) else (f && (hi.isNone || xs.isEmpty))) ((xs.take h.toNat).drop l.toNat))) := rfl
theorem q_len_sl (e s b : Nat) (i : Bool) (s' : Nat) (f : Bool) (xs : List DV) : vLen (.sl e s b i) (.sl s' f xs) K = K (.v (.int .i64 xs.length)) := rfl
theorem q_len_acc (e s b : Nat) (i : Bool) (l n : Nat) : vLen (.sl e s b i) (.acc l n) K = K (.v (.int .i64 n)) := rfl
theorem q_len_str (s : ByteArray) : vLen .str (.v (.string s)) K = K (.v (.int .i64 s.size)) := rfl
theorem q_min (k k' : IntKind) (m n : Int) : vMin (.v (.int k m)) (.v (.int k' n)) K = K (.v (.int k (if n < m then n else m))) := rfl
theorem q_max (k k' : IntKind) (m n : Int) : vMax (.v (.int k m)) (.v (.int k' n)) K = K (.v (.int k (if m < n then n else m))) := rfl
theorem q_sliceX_sl (k : TK) (s : Nat) (f : Bool) (xs : List DV) (lo hi mx : Option DV) : vSliceX k S (.sl s f xs) lo hi mx K2 = vSlice k (.sl s f xs) lo hi mx (K2 · S) := rfl
theorem q_sliceX_v (k : TK) (u : Value) (lo hi mx : Option DV) : vSliceX k S (.v u) lo hi mx K2 = vSlice k (.v u) lo hi mx (K2 · S) := rfl
theorem q_sliceX_acc (k : TK) (l n : Nat) (lo hi mx : Option DV) : vSliceX k S (.acc l n) lo hi mx K2 = ((lo.isNone = true ∧ mx.isNone = true ∧ isZ n hi ∧ (∃ e s b, k = .sl e s b true) ∧ vCut0 S (.acc l n) (atZ hi) K2) ∨ vSliceS k S (.acc l n) lo hi mx K2) := rfl
theorem q_isZ (k : IntKind) (m : Nat) (n : Int) : isZ m (some (.v (.int k n))) = ((n == 0) = true ∨ (0 ≤ n ∧ n ≤ m)) := rfl
theorem q_atZ (k : IntKind) (n : Int) : atZ (some (.v (.int k n))) = n.toNat := rfl
theorem q_isZ_n (m : Nat) : isZ m none = False := rfl
theorem q_isNilC_t (t : Nat) : isNilC (.tmp t) = false := rfl
theorem q_isNilC_i (k : IntKind) (n : Int) : isNilC (.const (.int k n)) = false := rfl
theorem q_isNilC_s (s : ByteArray) : isNilC (.const (.string s)) = false := rfl
theorem q_isNilC_p (a : Option Addr) : isNilC (.const (.pointer a)) = false := rfl
theorem q_isNilC_n : isNilC (.const (.slice none 0 0)) = true := rfl
theorem q_nilEq_sl (e s b s' : Nat) (i f : Bool) (xs : List DV) : vNilEq .eql (.sl e s b i) (.sl s' f xs) K = ∀ b : Bool, (xs ≠ [] → b = false) → K (.v (.bool b)) := rfl
theorem q_appInt (e s b s' : Nat) (z : DV) (k : IntKind) (n : Int) : vAppInt (.sl e s b true) z S (.sl s' true []) (.v (.int k n)) K2 = (okE z = true ∧ 0 < n ∧ n * b ≤ 140737488355328 ∧ n ≤ 9223372036854775807 ∧ ∀ l, nin S.acc l → K2 (.acc l n.toNat) ⟨S.box, (l, .arr s (List.replicate n.toNat z)) :: S.acc⟩) := rfl
theorem q_storeX_v (n : Nat) (u : Value) (y : DV) (K5 : St → Prop) : vStoreX n S (.v u) y K5 = vStore n S (.v u) y K5 := rfl
theorem q_makeSlice (e s b : Nat) (z : DV) (k k' : IntKind) (n m : Int) : vMakeSlice (.sl e s b true) z (.v (.int k n)) (.v (.int k' m)) S K2 = (okE z = true ∧ 0 ≤ n ∧ n ≤ m ∧ m * b ≤ 140737488355328 ∧ m ≤ 9223372036854775807 ∧ ∀ l, nin S.acc l → K2 (.acc l n.toNat) ⟨S.box, (l, .arr s (List.replicate n.toNat z)) :: S.acc⟩) := rfl
theorem q_cap (e s b : Nat) (i : Bool) (s' : Nat) (xs : List DV) : vCap (.sl e s b i) (.sl s' true xs) K = K (.v (.int .i64 xs.length)) := rfl
theorem q_cont_sl (s : Nat) (f : Bool) (xs : List DV) (K6 : Nat → List DV → Prop) : contK S (.sl s f xs) K6 = K6 s xs := rfl
theorem q_append (e s b : Nat) (k2 : TK) (x y : DV) : vAppend (.sl e s b true) k2 S x y K2 = (notInt k2 = true ∧ contK S y fun s2 ys => (s2 = s ∨ ys = []) ∧ vApp s b S x ys K2) := rfl
theorem q_app_nil (s0 s by' : Nat) (ys : List DV) : vApp s by' S (.sl s0 true []) ys K2 = (ys.length * by' ≤ 140737488355328 ∧ ys.length ≤ maxLen ∧ ∀ l, nin S.acc l → K2 (.acc l ys.length) ⟨S.box, (l, .arr s ys) :: S.acc⟩) := rfl
theorem q_call (f : FuncId) (a cap : Array Value) (ds : List DV) : vCall P w0 (.v (.func (.func f) a cap)) ds S K2 = (a.size = 0 ∧ cap.toList.all (fun u => u.oneCell') = true ∧ gX (okF P f) (callK S ds fun ds S => @AC P w0 f (ds ++ cap.toList.map .v) S ⟨K2⟩) (@XC P w0 f (ds ++ cap.toList.map .v) S ⟨K2⟩)) := rfl
theorem q_hasAcc_nil : hasAcc [] = false := rfl
theorem q_hasAcc_acc (l n : Nat) (ds : List DV) : hasAcc (.acc l n :: ds) = true := rfl
theorem q_hasAcc_v (u : Value) (ds : List DV) : hasAcc (.v u :: ds) = hasAcc ds := rfl
theorem q_hasAcc_sl (s : Nat) (f : Bool) (xs ds : List DV) : hasAcc (.sl s f xs :: ds) = hasAcc ds := rfl
theorem q_hasAcc_agg (xs ds : List DV) : hasAcc (.agg xs :: ds) = hasAcc ds := rfl
theorem q_res_tmp (fr : List DV) (t : Nat) : resK1 P fr S K (.tmp t) = K (fr.getD t ud) := rfl
theorem q_res_cell (fr : List DV) (a t : Nat) : resK1 P fr S K (.cell a t) = vLoad (tk P t) S (fr.getD a ud) K := rfl
theorem q_resK_one (fr : List DV) (r : ResultVar) : resK P fr S [r] K = resK1 P fr S K r := rfl
theorem q_resK_nil (fr : List DV) : resK P fr S [] K = K (.tup []) := rfl
theorem q_resK_two (fr : List DV) (r r' : ResultVar) (rs : List ResultVar) : resK P fr S (r :: r' :: rs) K = resKs P fr S (r :: r' :: rs) fun ds => K (.tup ds) := rfl
end
theorem q_oK_some {α : Type} (a : α) (F : α → Prop) : oK (some a) F = F a := rfl
def bK : Option Ob → (Nat → List DV → Prop) → (Nat → List DV → Prop) → Prop
  | some (.arr s xs), F, _ => F s xs
  | some (.tl s xs), _, G => G s xs
  | _, _, _ => False
theorem q_bK_arr (s : Nat) (xs : List DV) (F G : Nat → List DV → Prop) : bK (some (.arr s xs)) F G = F s xs := rfl
theorem q_bK_tl (s : Nat) (xs : List DV) (F G : Nat → List DV → Prop) : bK (some (.tl s xs)) F G = G s xs := rfl
def fiK (p : Option (Nat × Nat × Bool)) (x : DV) (K : DV → Prop) : Prop := match p with
  | some (off, sz, _) => sz ≠ 0 ∧ (match x with
      | .v (.pointer (some ⟨b, o, none⟩)) => K (.v (.pointer (some ⟨b, o + off, none⟩)))
      | .ip ds => off ≤ ds.length ∧ K (.ip (ds.drop off))
      | .ap l n s i o => K (.ap l n s i (o + off))
      | _ => False)
  | none => False
def fvK (p : Option (Nat × Nat × Bool)) (ds : List DV) (K : DV → Prop) : Prop := match p with
  | some (off, sz, true) => off + sz ≤ ds.length ∧ K (.agg ((ds.drop off).take sz))
  | some (off, sz, false) => off + sz ≤ ds.length ∧ oK (ds[off]?) K
  | none => False
def gD (t : Nat) (d : DV) (fr : List DV) (want : Bool) (A B : List DV → Prop) : Prop := match d with
  | .v (.bool b) => (b = want → A (fr.set t (.v (.bool want)))) ∧ (b = !want → B (fr.set t (.v (.bool !want))))
  | .tup [] => B fr
  | _ => False
def gK (t : Option Tmp) (fr : List DV) (want : Bool) (A B : List DV → Prop) : Prop := match t with
  | none => B fr
  | some t => gD t (fr.getD t ud) fr want A B
def buK (k : TK) (z : DV) (parts : List (Nat × DV)) (K : DV → Prop) : Prop := match k, z with
  | .st fs _, .agg zs => oK (fillD fs zs parts) fun ds => K (.agg ds)
  | _, _ => False

section
variable {P : Program} {w0 : W0} (K : DV → Prop) (K2 : DV → St → Prop) (S : St)
theorem q_load_box (k : TK) (b o : Nat) : vLoad k S (.v (.pointer (some ⟨b, o, none⟩))) K = oK (lk S.box b) fun ds => ldK k (ds.drop o) K := by
  cases h : lk S.box b <;> simp [vLoad, oK, h]
theorem q_load_ap (k : TK) (l n s i o : Nat) : vLoad k S (.ap l n s i o) K = bK (lk S.acc l) (fun s' xs => xs.length = n ∧ s' = s ∧ exK xs i fun d => ldK k ((cd d).drop o) K) (fun s' xs => xs.length = n ∧ s' = s ∧ exK xs i fun d => ldK k ((cd d).drop o) K) := by
  cases h : lk S.acc l with
  | none => simp [vLoad, bK, h]
  | some o => cases o <;> simp [vLoad, bK, h, exK]
theorem q_slice_row (e s b bb o n c : Nat) (lo hi mx : Option DV) : vSlice (.sl e s b true) (.v (.slice (some ⟨bb, o, none⟩) n c)) lo hi mx K = bnd lo 0 fun l => bnd hi n fun h => bnd mx c fun m => 0 ≤ l ∧ l ≤ h ∧ h ≤ m ∧ m ≤ c ∧
      K (.v (.slice (some ⟨bb, if m.toNat = l.toNat then o else o + l.toNat * s, none⟩) (h.toNat - l.toNat) (m.toNat - l.toNat))) := rfl
theorem q_len_row (e s b : Nat) (i : Bool) (a : Option Addr) (n c : Nat) : vLen (.sl e s b i) (.v (.slice a n c)) K = K (.v (.int .i64 n)) := rfl
theorem q_cap_row (e s b : Nat) (i : Bool) (a : Option Addr) (n c : Nat) : vCap (.sl e s b i) (.v (.slice a n c)) K = K (.v (.int .i64 c)) := rfl
theorem q_isRow_row (a : Addr) (n c : Nat) : isRow (.v (.slice (some a) n c)) = true := rfl
theorem q_isRow_sl (s : Nat) (f : Bool) (xs : List DV) : isRow (.sl s f xs) = false := rfl
theorem q_isRow_acc (l n : Nat) : isRow (.acc l n) = false := rfl
theorem q_rows_row (s b o m c : Nat) (F : Nat → List DV → Prop) : rowsK S s (.v (.slice (some ⟨b, o, none⟩) m c)) F = oK (lk S.box b) fun es => o + m * s ≤ es.length ∧ F m ((es.drop o).take (m * s)) := by
  cases h : lk S.box b <;> simp [rowsK, oK, h]
theorem q_rows_sl (s s' : Nat) (f : Bool) (ys : List DV) (F : Nat → List DV → Prop) : rowsK S s (.sl s' f ys) F = ((s' = s ∨ ys = []) ∧ (∀ d, d ∈ ys → okE d = true) ∧ F ys.length (ys.flatMap cd)) := rfl
theorem q_copy (e s b bb o n c : Nat) (y : DV) : vCopy (.sl e s b true) S (.v (.slice (some ⟨bb, o, none⟩) n c)) y K2 = oK (lk S.box bb) fun ds => o + n * s ≤ ds.length ∧ copyK S s ds o bb n y K2 := by
  cases h : lk S.box bb with
  | none => simp [vCopy, oK, h]
  | some ds =>
    simp only [vCopy, oK, h, copyK]
    split
    · rename_i b2 o2 m c2
      cases h2 : lk S.box b2 <;> simp [oK]
    · rfl
theorem q_copyK_row (s bb o n : Nat) (ds : List DV) (b2 o2 m c2 : Nat) : copyK S s ds o bb n (.v (.slice (some ⟨b2, o2, none⟩) m c2)) K2 = oK (lk S.box b2) fun es => o2 + m * s ≤ es.length ∧ K2 (.v (.int .i64 (min m n : Nat))) ⟨up S.box bb (putL ds o ((es.drop o2).take (min m n * s))), S.acc⟩ := rfl
theorem q_copyK_sl (s bb o n : Nat) (ds : List DV) (s' : Nat) (f : Bool) (ys : List DV) : copyK S s ds o bb n (.sl s' f ys) K2 = ((s' = s ∨ ys = []) ∧ (∀ d, d ∈ ys → okE d = true) ∧ ys.length ≤ n ∧ K2 (.v (.int .i64 ys.length)) ⟨up S.box bb (putL ds o (ys.flatMap cd)), S.acc⟩) := rfl
theorem q_clear (e s b bb o n c : Nat) (z : DV) : vClear (.sl e s b true) z S (.v (.slice (some ⟨bb, o, none⟩) n c)) K2 = oK (lk S.box bb) fun ds => okE z = true ∧ o + n * s ≤ ds.length ∧ K2 ud ⟨up S.box bb (putL ds o (zeroL z n)), S.acc⟩ := by
  cases h : lk S.box bb <;> simp [vClear, oK, h]
theorem q_appC (e s by' b o n c : Nat) (k2 : TK) (y : DV) : vAppC (.sl e s by' true) k2 S (.v (.slice (some ⟨b, o, none⟩) n c)) y K2 = oK (lk S.box b) fun ds => notInt k2 = true ∧ o + c * s ≤ ds.length ∧ n ≤ c ∧ rowsK S s y fun m cs =>
      (n + m ≤ c → K2 (.v (.slice (some ⟨b, o, none⟩) (n + m) c)) ⟨up S.box b (putL ds (o + n * s) cs), S.acc⟩) ∧
      (c < n + m → (n + m) * by' ≤ 140737488355328 ∧ n + m ≤ maxLen ∧ ∀ C, n + m ≤ C → C ≤ maxLen → ∀ b2, nin S.box b2 →
        K2 (.v (.slice (some ⟨b2, 0, none⟩) (n + m) C)) ⟨(b2, (ds.drop o).take (n * s) ++ cs ++ List.replicate ((C - (n + m)) * s) .any) :: S.box, S.acc⟩) := by
  cases h : lk S.box b <;> simp [vAppC, oK, h]
theorem q_appZ (e s by' b o n c : Nat) (k : IntKind) (m : Int) (z : DV) : vAppZ (.sl e s by' true) z S (.v (.slice (some ⟨b, o, none⟩) n c)) (.v (.int k m)) K2 = oK (lk S.box b) fun ds => okE z = true ∧ o + c * s ≤ ds.length ∧ n ≤ c ∧ 0 < m ∧ c < n + m.toNat ∧ (n + m.toNat) * by' ≤ 140737488355328 ∧ n + m.toNat ≤ maxLen ∧ ∀ C, n + m.toNat ≤ C → C ≤ maxLen → ∀ b2, nin S.box b2 →
        K2 (.v (.slice (some ⟨b2, 0, none⟩) (n + m.toNat) C)) ⟨(b2, (ds.drop o).take (n * s) ++ zeroL z m.toNat ++ List.replicate ((C - (n + m.toNat)) * s) .any) :: S.box, S.acc⟩ := by
  cases h : lk S.box b <;> simp [vAppZ, oK, h]
theorem q_field (fs : List (Nat × Nat × Bool)) (n f : Nat) (x : DV) : vField (.st fs n) f x K = fiK (fs[f]?) x K := by
  cases h : fs[f]? <;> simp only [vField, fiK, h] <;> cases x <;> rfl
theorem q_fi_ptr (off sz b o : Nat) (ag : Bool) : fiK (some (off, sz, ag)) (.v (.pointer (some ⟨b, o, none⟩))) K = (sz ≠ 0 ∧ K (.v (.pointer (some ⟨b, o + off, none⟩)))) := rfl
theorem q_fi_ip (off sz : Nat) (ag : Bool) (ds : List DV) : fiK (some (off, sz, ag)) (.ip ds) K = (sz ≠ 0 ∧ off ≤ ds.length ∧ K (.ip (ds.drop off))) := rfl
theorem q_fi_ap (off sz l m s i o : Nat) (ag : Bool) : fiK (some (off, sz, ag)) (.ap l m s i o) K = (sz ≠ 0 ∧ K (.ap l m s i (o + off))) := rfl
theorem q_extract (i : Nat) (ds : List DV) : vExtract i (.tup ds) K = oK (ds[i]?) K := by
  cases h : ds[i]? <;> simp [vExtract, oK, h]
theorem q_shr1_acc (l n : Nat) : shr1 S (.acc l n) K2 = bK (lk S.acc l) (fun s xs => xs.length = n ∧ K2 (.sl s false xs) ⟨S.box, up S.acc l (.tl s xs)⟩) (fun s xs => xs.length = n ∧ K2 (.sl s false xs) S) := by
  cases h : lk S.acc l with
  | none => simp [shr1, bK, h]
  | some o => cases o <;> simp [shr1, bK, h]
theorem q_store (n b o : Nat) (y : DV) (K5 : St → Prop) : vStore n S (.v (.pointer (some ⟨b, o, none⟩))) y K5 = (okE y = true ∧ (cd y).length = n ∧ oK (lk S.box b) fun ds => o + n ≤ ds.length ∧ K5 ⟨up S.box b (setAll ds o (cd y)), S.acc⟩) := by
  cases h : lk S.box b <;> simp [vStore, oK, h]
theorem q_storeX_ap (n l m s i o : Nat) (y : DV) (K5 : St → Prop) : vStoreX n S (.ap l m s i o) y K5 = (okE y = true ∧ (cd y).length = n ∧ bK (lk S.acc l) (fun s' xs => s' = s ∧ xs.length = m ∧ o + n ≤ s ∧ exK xs i fun d => oK (elSet d o n s y) fun d' => K5 ⟨S.box, up S.acc l (.arr s (xs.set i d'))⟩) (fun _ _ => False)) := by
  cases h : lk S.acc l with
  | none => simp [vStoreX, bK, h]
  | some o => cases o with
    | tl s' xs => simp [vStoreX, bK, h]
    | xo f => simp [vStoreX, bK, h]
    | arr s' xs =>
      simp only [vStoreX, bK, h, exK]
      refine propext (and_congr Iff.rfl (and_congr Iff.rfl (and_congr Iff.rfl (and_congr Iff.rfl (and_congr Iff.rfl (exists_congr fun d => and_congr Iff.rfl (and_congr Iff.rfl ?_)))))))
      cases elSet d o n s y with
      | none => simp [oK]
      | some x => simp [oK]
theorem q_cont_acc (l n : Nat) (K6 : Nat → List DV → Prop) : contK S (.acc l n) K6 = bK (lk S.acc l) (fun s xs => xs.length = n ∧ K6 s xs) (fun s xs => xs.length = n ∧ K6 s xs) := by
  cases h : lk S.acc l with
  | none => simp [contK, bK, h]
  | some o => cases o <;> simp [contK, bK, h]
theorem q_app_acc (l n s by' : Nat) (ys : List DV) : vApp s by' S (.acc l n) ys K2 = bK (lk S.acc l)
    (fun s' xs => s' = s ∧ xs.length = n ∧ (xs.length + ys.length) * by' ≤ 140737488355328 ∧ xs.length + ys.length ≤ maxLen ∧ K2 (.acc l (xs ++ ys).length) ⟨S.box, up S.acc l (.arr s (xs ++ ys))⟩)
    (fun s' xs => s' = s ∧ xs.length = n ∧ (xs.length + ys.length) * by' ≤ 140737488355328 ∧ xs.length + ys.length ≤ maxLen ∧ K2 (.acc l (xs ++ ys).length) ⟨S.box, up S.acc l (.tl s (xs ++ ys))⟩) := by
  cases h : lk S.acc l with
  | none => simp [vApp, bK, h]
  | some o => cases o <;> simp [vApp, bK, h]
theorem q_guard (ops : Array Oper) (fr : List DV) (j : Nat) (want : Bool) (A B : List DV → Prop) : guardK ops fr (some (j, want)) A B = gK ((ops[j]?).bind (·.dst)) fr want A B := by
  cases h : (ops[j]?).bind (·.dst) <;> simp only [guardK, gK, h] <;> rfl
theorem q_gK_some (t : Nat) (fr : List DV) (want : Bool) (A B : List DV → Prop) : gK (some t) fr want A B = gD t (fr.getD t ud) fr want A B := rfl
theorem q_gD_ud (t : Nat) (fr : List DV) (want : Bool) (A B : List DV → Prop) : gD t ud fr want A B = B fr := rfl
theorem q_func (fn : Fn) (a b : List DV) : vFunc fn a b K = oK (vals a) fun us => oK (vals b) fun vs => K (.v (.func fn us.toArray vs.toArray)) := by
  cases h : vals a <;> cases h' : vals b <;> simp [vFunc, oK, h, h']
theorem q_build (t : TypeId) (parts : List (Nat × DV)) : vBuild P t parts K = buK (tk P t) (zD P t) parts K := by
  cases h : tk P t <;> cases h' : zD P t <;> simp only [vBuild, buK, h, h'] <;> (rename_i fs _ zs; cases h2 : fillD fs zs parts <;> simp [oK])
theorem q_bu (fs : List (Nat × Nat × Bool)) (n : Nat) (zs : List DV) (parts : List (Nat × DV)) : buK (.st fs n) (.agg zs) parts K = oK (fillD fs zs parts) fun ds => K (.agg ds) := rfl
theorem q_bsl (e s b len : Nat) (z : DV) (parts : List (Nat × DV)) : vBuildSlice (.sl e s b true) z len parts K = (okE z = true ∧ (cd z).length = s ∧ len * s ≤ 16777216 ∧ oK (fillE s (List.replicate len z) parts) fun xs => K (.sl s true xs)) := by
  cases h : fillE s (List.replicate len z) parts <;> simp [vBuildSlice, oK, h]
end
end Aml

namespace Aml
open Go Go.RowKit
set_option linter.unusedVariables false
set_option linter.unusedSimpArgs false

/-- One abstract value, the store as it was. -/
def QY (P : Program) (w0 : W0) (S : St) (o : Oper) (fr : List DV) (d : DV) : Prop := YieldsE P w0 o (ev fr) S fun d' S' => d' = d ∧ S' = S
/-- Is the operation wanted? -/
def wantB (ops : Array Oper) (fr : List DV) (gd : Option (Nat × Bool)) : Option Bool := match gd with
  | none => some true
  | some (j, want) => match (ops[j]?).bind (·.dst) with
    | none => some false
    | some t => match fr.getD t ud with
      | .v (.bool b) => some (b == want)
      | .tup [] => some false
      | _ => none
/-- The walk in the text's order. -/
def LQ (P : Program) (w0 : W0) (S : St) (ops : Array Oper) (K : List DV → Prop) : List Oper → List DV → Prop
  | [], fr => K fr
  | o :: rest, fr => guardK ops fr o.guard (fun fr => ∃ d, QY P w0 S o fr d ∧ LQ P w0 S ops K rest (pt fr o.dst d)) (fun fr => LQ P w0 S ops K rest (pt fr o.dst ud))
def qOp (P : Program) (w0 : W0) (S : St) (ops : Array Oper) (i : Nat) (K : List DV → Prop) (fr : List DV) : Prop :=
  match ops[i]? with
  | none => K fr
  | some o => (wantB ops fr o.guard = some true ∧ ∃ d, QY P w0 S o fr d ∧ K (pt fr o.dst d)) ∨ (wantB ops fr o.guard = some false ∧ K (pt fr o.dst ud))
def wpAnyD (P : Program) (w0 : W0) (S : St) (md : Region.Mode) (ops : Array Oper) (K : List DV → Prop) : Nat → Array Bool → List DV → Prop
  | 0, listed, fr => Region.ready md ops listed = [] ∧ K fr
  | fuel + 1, listed, fr => (Region.ready md ops listed = [] → K fr) ∧ ∀ i ∈ Region.ready md ops listed, qOp P w0 S ops i (wpAnyD P w0 S md ops K fuel (listed.setIfInBounds i true)) fr
def YD (P : Program) (w0 : W0) (S : St) (ops : Array Oper) (o : Oper) (d : DV) (fr : List DV) : Prop :=
  (wantB ops fr o.guard = some true ∧ QY P w0 S o fr d) ∨ (wantB ops fr o.guard = some false ∧ d = ud)

section
variable {P : Program} {w0 : W0} {S : St} {ops : Array Oper} {md : Region.Mode}

theorem set_same {fr : List DV} {t : Nat} {d : DV} (h : fr.getD t ud = d) (hd : d ≠ ud) : fr.set t d = fr := by
  rcases Nat.lt_or_ge t fr.length with hl | hl
  · rw [List.getD_eq_getElem?_getD, List.getElem?_eq_getElem hl, Option.getD_some] at h
    rw [← h, List.set_getElem_self]
  · rw [List.getD_eq_getElem?_getD, List.getElem?_eq_none hl] at h
    exact absurd h.symm hd
theorem guardK_want {fr : List DV} {gd : Option (Nat × Bool)} {A B : List DV → Prop} (h : guardK ops fr gd A B) : (wantB ops fr gd = some true ∧ A fr) ∨ (wantB ops fr gd = some false ∧ B fr) := by
  unfold guardK at h
  unfold wantB
  split at h
  · exact .inl ⟨rfl, h⟩
  · rename_i j want
    split at h
    · rename_i hj
      exact .inr ⟨by simp only [hj], h⟩
    · rename_i t hj
      simp only [hj]
      split at h
      · rename_i b hb
        rw [hb]
        by_cases hw : b = want
        · have := h.1 hw
          rw [← hw, set_same hb (by simp [ud])] at this
          exact .inl ⟨by simp [hw], this⟩
        · have hw' : b = !want := by cases b <;> cases want <;> simp_all
          have := h.2 hw'
          rw [← hw', set_same hb (by simp [ud])] at this
          exact .inr ⟨by simp [hw], this⟩
      · rename_i hb
        rw [hb]
        exact .inr ⟨rfl, h⟩
      · exact h.elim
theorem want_guard {fr : List DV} {gd : Option (Nat × Bool)} {x : Bool} (h : wantB ops fr gd = some x) : guardK ops fr gd (fun _ => x = true) (fun _ => x = false) := by
  unfold wantB at h
  unfold guardK
  split at h
  · simpa using h.symm
  · rename_i j want
    split at h
    · rename_i hj; simp only [hj]; simpa using h.symm
    · rename_i t hj
      simp only [hj]
      split at h
      · rename_i b hb
        rw [hb]
        simp only [Option.some.injEq] at h
        exact ⟨fun e => by simp [← h, e], fun e => by simp [← h, e]⟩
      · rename_i hb; rw [hb]; simpa using h.symm
      · cases h
theorem wantB_sound {g : Gh} {fr : List DV} {a : Act} {o : Oper} {x : Bool} (hr : RepL g fr a.tmps.toList) (h : wantB ops fr o.guard = some x) : Region.wanted o (yielded ops a.tmps) = x := by
  rcases guard_sound (o := o) hr (want_guard h) with ⟨h1, _, _, h2⟩ | ⟨h1, _, _, h2⟩
  · rw [h1, h2]
  · rw [h1, h2]

theorem qOp_mono {i : Nat} {fr : List DV} {K K' : List DV → Prop} (h : ∀ fr, K fr → K' fr) (hh : qOp P w0 S ops i K fr) : qOp P w0 S ops i K' fr := by
  unfold qOp at *
  split
  · rename_i ho; simp only [ho] at hh; exact h _ hh
  · rename_i o ho
    simp only [ho] at hh
    rcases hh with ⟨h1, d, h2, h3⟩ | ⟨h1, h2⟩
    · exact .inl ⟨h1, d, h2, h _ h3⟩
    · exact .inr ⟨h1, h _ h2⟩
theorem YD.qOp {i : Nat} {o : Oper} {d : DV} {fr : List DV} (hi : ops[i]? = some o) (hy : YD P w0 S ops o d fr) {K : List DV → Prop} (h : K (pt fr o.dst d)) : qOp P w0 S ops i K fr := by
  unfold Aml.qOp
  simp only [hi]
  rcases hy with ⟨h1, h2⟩ | ⟨h1, rfl⟩
  · exact .inl ⟨h1, d, h2, h⟩
  · exact .inr ⟨h1, h⟩
theorem yd_of_qOp {i : Nat} {o : Oper} {fr : List DV} {K : List DV → Prop} (hi : ops[i]? = some o) (h : qOp P w0 S ops i K fr) : ∃ d, YD P w0 S ops o d fr ∧ K (pt fr o.dst d) := by
  unfold qOp at h
  simp only [hi] at h
  rcases h with ⟨h1, d, h2, h3⟩ | ⟨h1, h2⟩
  · exact ⟨d, .inl ⟨h1, h2⟩, h3⟩
  · exact ⟨ud, .inr ⟨h1, rfl⟩, h2⟩

theorem yields_congr {o : Oper} {ρD ρD' : Operand → DV} {K : DV → St → Prop} (h : ∀ x, x ∈ o.op.operands.toList → ρD x = ρD' x) (hy : YieldsE P w0 o ρD S K) : YieldsE P w0 o ρD' S K :=
  fun g w ρ h1 h2 h3 => hy g w ρ h1 (fun x hx => by rw [h x hx]; exact h2 x hx) h3
theorem getD_set {fr : List DV} {t t' : Nat} {d : DV} (h : t ≠ t') : (fr.set t d).getD t' ud = fr.getD t' ud := by
  simp only [List.getD_eq_getElem?_getD, List.getElem?_set, if_neg h]
theorem ev_put {fr : List DV} {dst : Option Tmp} {d : DV} {o : Oper} (h : ∀ t, dst = some t → t ∉ o.looksAt ops) : ∀ x, x ∈ o.op.operands.toList → ev (pt fr dst d) x = ev fr x := by
  intro x hx
  cases dst with
  | none => rfl
  | some t =>
    cases x with
    | tmp t' =>
      have : t ≠ t' := by
        rintro rfl
        exact h t rfl (List.mem_append_left _ (List.mem_filterMap.2 ⟨.tmp t, hx, rfl⟩))
      exact getD_set this
    | _ => rfl
theorem want_put {fr : List DV} {dst : Option Tmp} {d : DV} {o : Oper} (h : ∀ t, dst = some t → t ∉ o.looksAt ops) : wantB ops (pt fr dst d) o.guard = wantB ops fr o.guard := by
  cases dst with
  | none => rfl
  | some t =>
    unfold wantB
    cases hg : o.guard with
    | none => rfl
    | some gw =>
      obtain ⟨j, want⟩ := gw
      simp only
      cases ht : (ops[j]?).bind (·.dst) with
      | none => rfl
      | some t' =>
        have hne : t ≠ t' := fun e => h t rfl (by subst e; simp [Oper.looksAt, hg, ht])
        simp only [pt]
        rw [getD_set hne]
theorem pt_comm (fr : List DV) {x y : Option Tmp} (d e : DV) (h : ∀ t, x = some t → y ≠ some t) : pt (pt fr x d) y e = pt (pt fr y e) x d := by
  cases x with
  | none => rfl
  | some t =>
    cases y with
    | none => rfl
    | some u =>
      have hne : t ≠ u := fun he => h t rfl (he ▸ rfl)
      simp only [pt]
      exact List.set_comm _ _ hne
theorem YD.put {o : Oper} {d : DV} {fr : List DV} (hy : YD P w0 S ops o d fr) {dst : Option Tmp} {e : DV} (h : ∀ t, dst = some t → t ∉ o.looksAt ops) : YD P w0 S ops o d (pt fr dst e) := by
  unfold YD at *
  rw [want_put h]
  exact hy.imp (fun ⟨a, b⟩ => ⟨a, yields_congr (fun x hx => (ev_put (ops := ops) h x hx).symm) b⟩) id
theorem qOp_put {j : Nat} {oi oj : Oper} {d : DV} (hj : ops[j]? = some oj) (hap : oi.apart ops oj = true) {K : List DV → Prop} {fr : List DV} (hy : YD P w0 S ops oi d fr) (h : qOp P w0 S ops j K (pt fr oi.dst d)) :
    qOp P w0 S ops j (fun fr' => YD P w0 S ops oi d fr' ∧ K (pt fr' oi.dst d)) fr := by
  obtain ⟨h1, h2, h3⟩ := Oper.apart_spec hap
  unfold Aml.qOp at *
  simp only [hj] at *
  rw [want_put h1] at h
  rcases h with ⟨hw, e, hq, hk⟩ | ⟨hw, hk⟩
  · exact .inl ⟨hw, e, yields_congr (fun x hx => ev_put (ops := ops) h1 x hx) hq, hy.put h3, by rw [← pt_comm fr d e h2]; exact hk⟩
  · exact .inr ⟨hw, hy.put h3, by rw [← pt_comm fr d ud h2]; exact hk⟩

theorem wpAnyD_first {K : List DV → Prop} {i : Nat} {oi : Oper} {d : DV} (hi : ops[i]? = some oi) :
    ∀ (fuel : Nat) (listed : Array Bool) (fr : List DV),
      (∀ j oj, ops[j]? = some oj → j ≠ i → listed.getD j true = false → (∀ e ∈ oj.after, Region.binds md e = true → e.on ≠ i) → oi.apart ops oj = true) →
      i ∈ Region.ready md ops listed → YD P w0 S ops oi d fr →
      wpAnyD P w0 S md ops K fuel (listed.setIfInBounds i true) (pt fr oi.dst d) → wpAnyD P w0 S md ops K (fuel + 1) listed fr := by
  intro fuel
  induction fuel with
  | zero =>
    intro listed fr _ hr hy H
    refine ⟨fun h => (by rw [h] at hr; cases hr), fun j hj => ?_⟩
    by_cases hji : j = i
    · subst hji; exact hy.qOp hi H
    · have := ready_mono hj hji
      rw [H.1] at this
      cases this
  | succ fuel ih =>
    intro listed fr hfree hr hy H
    refine ⟨fun h => (by rw [h] at hr; cases hr), fun j hj => ?_⟩
    by_cases hji : j = i
    · subst hji; exact hy.qOp hi H
    · have h1 := H.2 j (ready_mono hj hji)
      obtain ⟨hjun, oj, hoj, hall⟩ := mem_ready.1 hj
      have hnot : ∀ e ∈ oj.after, Region.binds md e = true → e.on ≠ i := fun e he hb heq => by
        have h1 := hall e he hb
        have h0 := (mem_ready.1 hr).1
        rw [heq] at h1
        rcases Nat.lt_or_ge i listed.size with h' | h'
        · simp [h'] at h0 h1; rw [h0] at h1; cases h1
        · simp [Array.getElem?_eq_none h'] at h1
      have h2 := qOp_put hoj (hfree j oj hoj hji hjun hnot) hy h1
      have hfree' : ∀ k ok, ops[k]? = some ok → k ≠ i → (listed.setIfInBounds j true).getD k true = false →
          (∀ e ∈ ok.after, Region.binds md e = true → e.on ≠ i) → oi.apart ops ok = true := fun k ok hk hki hun hno => by
        refine hfree k ok hk hki ?_ hno
        by_cases hjk : j = k
        · subst hjk; exact hjun
        · rw [getD_set_ne true hjk] at hun; exact hun
      refine qOp_mono (fun fr' h3 => ih (listed.setIfInBounds j true) fr' hfree' (ready_mono hr (Ne.symm hji)) h3.1 ?_) h2
      rw [Array.setIfInBounds_comm _ _ hji]
      exact h3.2

theorem wpAnyD_lex {K : List DV → Prop} : ∀ (l : List Oper) (k : Nat) (listed : Array Bool) (fr : List DV), (∀ j, l[j]? = ops[k + j]?) →
    Region.lexFrom md ops l.length k listed = true → LQ P w0 S ops K l fr → wpAnyD P w0 S md ops K l.length listed fr
  | [], _, _, _, _, hB, h => ⟨by simpa [Region.lexFrom] using hB, h⟩
  | o :: l, k, listed, fr, hl, hB, h => by
    have h0 : ops[k]? = some o := by simpa using (hl 0).symm
    simp only [List.length_cons, Region.lexFrom, Bool.and_eq_true] at hB
    obtain ⟨⟨hr, hf⟩, hB'⟩ := hB
    have hst : qOp P w0 S ops k (LQ P w0 S ops K l) fr := by
      unfold qOp
      simp only [h0]
      exact guardK_want h
    obtain ⟨d, hy, hK⟩ := yd_of_qOp h0 hst
    exact wpAnyD_first h0 l.length listed fr (Region.free_spec h0 hf) (by simpa using hr) hy
      (wpAnyD_lex l (k + 1) _ _ (fun j => by have := hl (j + 1); simpa [Nat.add_assoc, Nat.add_comm 1 j] using this) hB' hK)

end
end Aml

namespace Aml
open Go Go.RowKit
set_option linter.unusedVariables false
set_option linter.unusedSimpArgs false

section
variable {P : Program} {w0 : W0} {S : St} {K : DV → Prop}

theorem det_pick {c a b : DV} (h : vPick c a b K) : ∃ d, vPick c a b (· = d) ∧ K d := by
  unfold vPick at *
  split at h
  · rename_i t
    cases t
    · exact ⟨b, ⟨by simp, fun _ => rfl⟩, h.2 rfl⟩
    · exact ⟨a, ⟨fun _ => rfl, by simp⟩, h.1 rfl⟩
  · exact h.elim
theorem det_hd {ds : List DV} (h : hdK ds K) : ∃ d, hdK ds (· = d) ∧ K d := by
  unfold hdK at *
  split at h
  · exact ⟨_, rfl, h⟩
  · exact h.elim
theorem det_ld {k : TK} {ds : List DV} (h : ldK k ds K) : ∃ d, ldK k ds (· = d) ∧ K d := by
  unfold ldK at *
  split at h
  · exact ⟨_, ⟨h.1, rfl⟩, h.2⟩
  · exact ⟨_, ⟨h.1, rfl⟩, h.2⟩
  · exact h.elim
  · exact det_hd h
theorem det_load {k : TK} {x : DV} (h : vLoad k S x K) : ∃ d, vLoad k S x (· = d) ∧ K d := by
  unfold vLoad at *
  split at h
  · split at h
    · rename_i hb; (try simp only [hb]); exact det_ld h
    · exact h.elim
  · exact det_ld h
  · split at h
    · rename_i hb
      obtain ⟨h1, h2, d, h3, h4, h5⟩ := h
      obtain ⟨e, q1, q2⟩ := det_ld h5
      exact ⟨e, by first | exact ⟨h1, h2, d, h3, h4, q1⟩ | (simp only [hb]; exact ⟨h1, h2, d, h3, h4, q1⟩), q2⟩
    · rename_i hb
      obtain ⟨h1, h2, d, h3, h4, h5⟩ := h
      obtain ⟨e, q1, q2⟩ := det_ld h5
      exact ⟨e, by first | exact ⟨h1, h2, d, h3, h4, q1⟩ | (simp only [hb]; exact ⟨h1, h2, d, h3, h4, q1⟩), q2⟩
    · exact h.elim
  · exact h.elim
theorem det_field {k : TK} {f : Nat} {x : DV} (h : vField k f x K) : ∃ d, vField k f x (· = d) ∧ K d := by
  unfold vField at *
  split at h
  · split at h
    · rename_i hf
      try simp only [hf]
      obtain ⟨h1, h⟩ := h
      split at h
      · exact ⟨_, ⟨h1, rfl⟩, h⟩
      · exact ⟨_, ⟨h1, h.1, rfl⟩, h.2⟩
      · exact ⟨_, ⟨h1, rfl⟩, h⟩
      · exact h.elim
    · exact h.elim
  · exact h.elim
theorem det_indexAddr {k : TK} {x i : DV} (h : vIndexAddr k x i K) : ∃ d, vIndexAddr k x i (· = d) ∧ K d := by
  unfold vIndexAddr at *
  split at h
  · split at h
    · obtain ⟨h1, h2, h3, h4⟩ := h
      rename_i z _ _ _ xs
      have hlt : z.toNat < xs.length := by omega
      obtain ⟨h5, h6⟩ := h4 _ (List.getElem?_eq_getElem hlt)
      exact ⟨_, ⟨h1, h2, h3, fun d hd => by rw [List.getElem?_eq_getElem hlt] at hd; cases hd; exact ⟨h5, rfl⟩⟩, h6⟩
    · exact ⟨_, ⟨h.1, h.2.1, rfl⟩, h.2.2⟩
    · exact h.elim
  · exact h.elim
theorem det_index {k : TK} {x i : DV} (h : vIndex k x i K) : ∃ d, vIndex k x i (· = d) ∧ K d := by
  unfold vIndex at *
  split at h
  · obtain ⟨h1, h2, h3⟩ := h
    rename_i s _ z
    have hlt : z.toNat < s.data.toList.length := by simp; have : s.data.size = s.size := rfl; omega
    exact ⟨_, ⟨h1, h2, fun d hd => by rw [List.getElem?_eq_getElem hlt] at hd; cases hd; rfl⟩, h3 _ (List.getElem?_eq_getElem hlt)⟩
  · exact h.elim
theorem det_fieldV {k : TK} {f : Nat} {x : DV} (h : vFieldV k f x K) : ∃ d, vFieldV k f x (· = d) ∧ K d := by
  unfold vFieldV at *
  split at h
  · split at h
    · rename_i hf
      try simp only [hf]
      split at h
      · obtain ⟨h1, h⟩ := h
        split at h
        · exact ⟨_, ⟨h1, rfl⟩, h⟩
        · split at h
          · rename_i hd; (try simp only [hd]); exact ⟨_, ⟨h1, rfl⟩, h⟩
          · exact h.elim
      · exact h.elim
    · exact h.elim
  · exact h.elim
theorem det_extract {i : Nat} {x : DV} (h : vExtract i x K) : ∃ d, vExtract i x (· = d) ∧ K d := by
  unfold vExtract at *
  split at h
  · split at h
    · rename_i hd; (try simp only [hd]); exact ⟨_, rfl, h⟩
    · exact h.elim
  · exact h.elim
theorem det_binI {op : BinOp} {k : IntKind} {m n : Int} (h : vBinI op k m n K) : ∃ d, vBinI op k m n (· = d) ∧ K d := by
  cases op <;> simp only [vBinI] at h ⊢ <;> first | exact ⟨_, rfl, h⟩ | exact ⟨_, ⟨h.1, rfl⟩, h.2⟩
theorem det_binS {op : BinOp} {x y : ByteArray} (h : vBinS op x y K) : ∃ d, vBinS op x y (· = d) ∧ K d := by
  cases op <;> simp only [vBinS] at h ⊢ <;> first | exact ⟨_, rfl, h⟩ | exact ⟨_, ⟨h.1, rfl⟩, h.2⟩
theorem det_bin {op : BinOp} {t : TK} {cx cy : Bool} {x y : DV} (h : vBin op t cx cy x y K) : ∃ d, vBin op t cx cy x y (· = d) ∧ K d := by
  unfold vBin at *
  split at h
  · obtain ⟨d, q1, q2⟩ := det_binI h.2
    exact ⟨d, ⟨h.1, q1⟩, q2⟩
  · exact det_binS h
  · split at h <;> first | exact ⟨_, rfl, h⟩ | exact h.elim
  · split at h <;> first | exact ⟨_, ⟨h.1, rfl⟩, h.2⟩ | exact h.elim
  · split at h <;> first | exact ⟨_, rfl, h⟩ | exact h.elim
  · split at h <;> first | exact ⟨_, rfl, h⟩ | exact h.elim
  · split at h <;> first | exact ⟨_, ⟨h.1, rfl⟩, h.2⟩ | exact h.elim
  · exact h.elim
theorem det_binA {op : BinOp} {t : TypeId} {cx cy : Bool} {x y : DV} (h : vBinA P op t cx cy x y K) : ∃ d, vBinA P op t cx cy x y (· = d) ∧ K d := by
  unfold vBinA at *
  split at h
  · unfold vAggEq at *
    split at h
    · rename_i he
      obtain ⟨q, q1, q2⟩ := aggK_det h
      exact ⟨_, aggK_mono (fun r e => by rw [e]) q1, q2⟩
    · rename_i he
      obtain ⟨q, q1, q2⟩ := aggK_det h
      exact ⟨_, aggK_mono (fun r e => by rw [e]) q1, q2⟩
    · exact h.elim
  · exact det_bin h
theorem det_un {op : UnOp} {x : DV} (h : vUn op x K) : ∃ d, vUn op x (· = d) ∧ K d := by
  unfold vUn at *
  split at h <;> first | exact ⟨_, rfl, h⟩ | exact h.elim
theorem det_conv {a b : TK} {x : DV} (h : vConv a b x K) : ∃ d, vConv a b x (· = d) ∧ K d := by
  unfold vConv at *
  split at h <;> first | exact ⟨_, rfl, h⟩ | exact h.elim
theorem det_func {fn : Fn} {a b : List DV} (h : vFunc fn a b K) : ∃ d, vFunc fn a b (· = d) ∧ K d := by
  unfold vFunc at *
  split at h <;> first | exact ⟨_, rfl, h⟩ | exact h.elim
theorem det_bnd {x : Option DV} {z : Int} {F : (DV → Prop) → Int → Prop} (hF : ∀ n, F K n → ∃ d, F (· = d) n ∧ K d) (h : bnd x z (F K)) : ∃ d, bnd x z (F (· = d)) ∧ K d := by
  unfold bnd at *
  split at h <;> first | exact hF _ h | exact h.elim
theorem det_slice {k : TK} {x : DV} {lo hi mx : Option DV} (h : vSlice k x lo hi mx K) : ∃ d, vSlice k x lo hi mx (· = d) ∧ K d := by
  unfold vSlice at *
  split at h
  · obtain ⟨h1, h⟩ := h
    rename_i e s b s' f xs
    obtain ⟨d, q1, q2⟩ := det_bnd (F := fun K l => bnd hi xs.length fun h => bnd mx h fun m => 0 ≤ l ∧ l ≤ h ∧ h ≤ m ∧ m ≤ xs.length ∧
      K (.sl s (if mx.isSome then decide (m = h) else (f && (hi.isNone || xs.isEmpty))) ((xs.take h.toNat).drop l.toNat))) (fun l h => det_bnd (F := fun K h => bnd mx h fun m => 0 ≤ l ∧ l ≤ h ∧ h ≤ m ∧ m ≤ xs.length ∧
      K (.sl s (if mx.isSome then decide (m = h) else (f && (hi.isNone || xs.isEmpty))) ((xs.take h.toNat).drop l.toNat))) (fun hh h => det_bnd (F := fun K m => 0 ≤ l ∧ l ≤ hh ∧ hh ≤ m ∧ m ≤ xs.length ∧
      K (.sl s (if mx.isSome then decide (m = hh) else (f && (hi.isNone || xs.isEmpty))) ((xs.take hh.toNat).drop l.toNat))) (fun m h => ⟨_, ⟨h.1, h.2.1, h.2.2.1, h.2.2.2.1, rfl⟩, h.2.2.2.2⟩) h) h) h
    exact ⟨d, ⟨h1, q1⟩, q2⟩
  · obtain ⟨h1, h⟩ := h
    rename_i s
    obtain ⟨d, q1, q2⟩ := det_bnd (F := fun K l => bnd hi s.size fun h => 0 ≤ l ∧ l ≤ h ∧ h ≤ s.size ∧ K (.v (.string (s.extract l.toNat h.toNat)))) (fun l h => det_bnd (F := fun K h => 0 ≤ l ∧ l ≤ h ∧ h ≤ s.size ∧ K (.v (.string (s.extract l.toNat h.toNat))))
      (fun hh h => ⟨_, ⟨h.1, h.2.1, h.2.2.1, rfl⟩, h.2.2.2⟩) h) h
    exact ⟨d, ⟨h1, q1⟩, q2⟩
  · rename_i e s by' b o n c
    exact det_bnd (F := fun K l => bnd hi n fun h => bnd mx c fun m => 0 ≤ l ∧ l ≤ h ∧ h ≤ m ∧ m ≤ c ∧
      K (.v (.slice (some ⟨b, if m.toNat = l.toNat then o else o + l.toNat * s, none⟩) (h.toNat - l.toNat) (m.toNat - l.toNat)))) (fun l h => det_bnd (F := fun K h => bnd mx c fun m => 0 ≤ l ∧ l ≤ h ∧ h ≤ m ∧ m ≤ c ∧
      K (.v (.slice (some ⟨b, if m.toNat = l.toNat then o else o + l.toNat * s, none⟩) (h.toNat - l.toNat) (m.toNat - l.toNat)))) (fun hh h => det_bnd (F := fun K m => 0 ≤ l ∧ l ≤ hh ∧ hh ≤ m ∧ m ≤ c ∧
      K (.v (.slice (some ⟨b, if m.toNat = l.toNat then o else o + l.toNat * s, none⟩) (hh.toNat - l.toNat) (m.toNat - l.toNat)))) (fun m h => ⟨_, ⟨h.1, h.2.1, h.2.2.1, h.2.2.2.1, rfl⟩, h.2.2.2.2⟩) h) h) h
  · exact h.elim
theorem det_len {k : TK} {x : DV} (h : vLen k x K) : ∃ d, vLen k x (· = d) ∧ K d := by
  unfold vLen at *
  split at h <;> first | exact ⟨_, rfl, h⟩ | exact h.elim
theorem det_cap {k : TK} {x : DV} (h : vCap k x K) : ∃ d, vCap k x (· = d) ∧ K d := by
  unfold vCap at *
  split at h <;> first | exact ⟨_, rfl, h⟩ | exact h.elim
theorem det_min {x y : DV} (h : vMin x y K) : ∃ d, vMin x y (· = d) ∧ K d := by
  unfold vMin at *
  split at h <;> first | exact ⟨_, rfl, h⟩ | exact h.elim
theorem det_max {x y : DV} (h : vMax x y K) : ∃ d, vMax x y (· = d) ∧ K d := by
  unfold vMax at *
  split at h <;> first | exact ⟨_, rfl, h⟩ | exact h.elim
theorem det_build {t : TypeId} {parts : List (Nat × DV)} (h : vBuild P t parts K) : ∃ d, vBuild P t parts (· = d) ∧ K d := by
  unfold vBuild at *
  split at h
  · split at h
    · rename_i hf; (try simp only [hf]); exact ⟨_, rfl, h⟩
    · exact h.elim
  · exact h.elim
theorem det_buildSlice {k : TK} {z : DV} {len : Nat} {parts : List (Nat × DV)} (h : vBuildSlice k z len parts K) : ∃ d, vBuildSlice k z len parts (· = d) ∧ K d := by
  unfold vBuildSlice at *
  split at h
  · obtain ⟨h1, h2, h3, h⟩ := h
    split at h
    · rename_i hf; (try simp only [hf]); exact ⟨_, ⟨h1, h2, h3, rfl⟩, h⟩
    · exact h.elim
  · exact h.elim

def nacc : DV → Bool
  | .acc _ _ => false
  | _ => true
def naccA : DV → Bool
  | .agg ds => ds.all nacc
  | d => nacc d
theorem shr1_id {K : DV → St → Prop} {d : DV} (hd : nacc d = true) (h : K d S) : shr1 S d K := by
  cases d <;> first | (cases hd; done) | exact h
theorem sliceX_id {K : DV → St → Prop} {k : TK} {x : DV} {lo hi mx : Option DV} (hx : nacc x = true) (h : vSliceS k S x lo hi mx K) : vSliceX k S x lo hi mx K := by
  cases x <;> first | (cases hx; done) | exact h
theorem shr1s_id : ∀ {ds : List DV} {K : List DV → St → Prop}, ds.all nacc = true → K ds S → shr1s S ds K
  | [], K, _, h => h
  | d :: ds, K, hd, h => by
    simp only [List.all_cons, Bool.and_eq_true] at hd
    exact shr1_id hd.1 (shr1s_id hd.2 h)
theorem shr_id {K : DV → St → Prop} {d : DV} (hd : naccA d = true) (h : K d S) : shr S d K := by
  cases d with
  | agg ds => exact shr1s_id hd h
  | acc l n => cases hd
  | _ => exact h
theorem shrs_id : ∀ {ds : List DV} {K : List DV → St → Prop}, ds.all naccA = true → K ds S → shrs S ds K
  | [], K, _, h => h
  | d :: ds, K, hd, h => by
    simp only [List.all_cons, Bool.and_eq_true] at hd
    exact shr_id hd.1 (shrs_id hd.2 h)

theorem callK_id {ds : List DV} {F : List DV → St → Prop} (hd : ds.all naccA = true) (h : F ds S) : callK S ds F := by
  unfold callK
  split
  · exact .inl h
  · exact shrs_id hd h
/-- A call that hands back one value and leaves the store. -/
def vCallQ (P : Program) (w0 : W0) (cal : DV) (ds : List DV) (S : St) (K : DV → Prop) : Prop := match cal with
  | .v (.func (.func f) a cap) => a.size = 0 ∧ okF P f = true ∧ cap.toList.all (fun u => u.oneCell') = true ∧ ds.all naccA = true ∧ ∃ d, ACall P w0 f (ds ++ cap.toList.map .v) S (fun d' S' => d' = d ∧ S' = S) ∧ K d
  | _ => False
theorem det_lookup {m : Option (KK × DV)} {S : St} {x y : DV} {ok : Bool} {K : DV → Prop} (h : vLookup m S x y ok K) : ∃ d, vLookup m S x y ok (· = d) ∧ K d := by
  unfold vLookup at *
  cases m with
  | none => exact h.elim
  | some p =>
    simp only [oK] at h ⊢
    obtain ⟨h0, h⟩ := h
    cases hk : kVal y with
    | none => rw [hk] at h; exact h.elim
    | some k =>
      rw [hk] at h
      simp only at h ⊢
      obtain ⟨h1, h⟩ := h
      split at h
      · exact ⟨_, ⟨h0, h1, rfl⟩, h⟩
      · split at h
        · obtain ⟨h2, h⟩ := h
          cases hg : mGet _ k with
          | none => rw [hg] at h; exact ⟨_, ⟨h0, h1, h2, rfl⟩, h⟩
          | some d => rw [hg] at h; exact ⟨_, ⟨h0, h1, h2, rfl⟩, h⟩
        · exact h.elim
      · exact h.elim
def vcOpQ (P : Program) (w0 : W0) (op : Op) (fr : List DV) (S : St) (K : DV → Prop) : Prop := match op with
  | .move x => K (ev fr x)
  | .assign x => K (ev fr x)
  | .pick c a b => vPick (ev fr c) (ev fr a) (ev fr b) K
  | .load t x => vLoad (tk P t) S (ev fr x) K
  | .fieldAddr t x f => vField (tk P t) f (ev fr x) K
  | .indexAddr t x i => vIndexAddr (tk P t) (ev fr x) (ev fr i) K
  | .index t x i => vIndex (tk P t) (ev fr x) (ev fr i) K
  | .field t x f => vFieldV (tk P t) f (ev fr x) K
  | .extract x i => vExtract i (ev fr x) K
  | .nilCheck x => notNil (ev fr x) = true ∧ K (ev fr x)
  | .binOp b t x y _ => isNilC y = false ∧ vBinA P b t (isC x) (isC y) (ev fr x) (ev fr y) K
  | .unOp b _ x => vUn b (ev fr x) K
  | .convert s d x => vConv (tk P s) (tk P d) (ev fr x) K
  | .makeInterface t x => isIfc (tk P t) = false ∧ naccA (ev fr x) = true ∧ K (.ifc t (ev fr x))
  | .makeFunc fn a b => vFunc fn (a.toList.map (ev fr)) (b.toList.map (ev fr)) K
  | .slice t x lo hi mx => (mx.isSome = true → hi.isSome = true) ∧ nacc (ev fr x) = true ∧ vSlice (tk P t) (ev fr x) (lo.map (ev fr)) (hi.map (ev fr)) (mx.map (ev fr)) K
  | .build t parts => (parts.toList.map fun p => ev fr p.2).all naccA = true ∧ vBuild P t ((parts.toList.map (·.1)).zip (parts.toList.map fun p => ev fr p.2)) K
  | .buildSlice t len parts => (parts.toList.map fun p => ev fr p.2).all naccA = true ∧ vBuildSlice (tk P t) (zD P (elT P t)) len ((parts.toList.map (·.1)).zip (parts.toList.map fun p => ev fr p.2)) K
  | .lookup t x y ok => vLookup (mpT P t) S (ev fr x) (ev fr y) ok K
  | .call c => match c.callee with
    | .builtin .len => (match c.args.toList, c.argTypes.toList with
      | [x], [t] => vLen (tk P t) (ev fr x) K
      | _, _ => False)
    | .builtin .cap => (match c.args.toList, c.argTypes.toList with
      | [x], [t] => vCap (tk P t) (ev fr x) K
      | _, _ => False)
    | .builtin .min => (match c.args.toList with
      | [x, y] => vMin (ev fr x) (ev fr y) K
      | _ => False)
    | .builtin .max => (match c.args.toList with
      | [x, y] => vMax (ev fr x) (ev fr y) K
      | _ => False)
    | .value cal => vCallQ P w0 (ev fr cal) (c.args.toList.map (ev fr)) S K
    | _ => False
  | _ => False

theorem vcOpQ_sound {o : Oper} {fr : List DV} (hs : okSl o.op = true) (h : vcOpQ P w0 o.op fr S K) : ∃ d, QY P w0 S o fr d ∧ K d := by
  have fin : ∀ {d : DV}, vcOp P w0 o.op fr S (fun d' S' => d' = d ∧ S' = S) → K d → ∃ d, QY P w0 S o fr d ∧ K d := fun h1 h2 => ⟨_, vcOp_sound hs h1, h2⟩
  cases hop : o.op with
  | move x => rw [hop] at h; exact fin (by rw [hop]; exact ⟨rfl, rfl⟩) h
  | assign x => rw [hop] at h; exact fin (by rw [hop]; exact ⟨rfl, rfl⟩) h
  | pick c a b => rw [hop] at h; obtain ⟨d, q1, q2⟩ := det_pick h; exact fin (by rw [hop]; simpa [vcOp] using q1) q2
  | load t x => rw [hop] at h; obtain ⟨d, q1, q2⟩ := det_load h; exact fin (by rw [hop]; simpa [vcOp] using q1) q2
  | fieldAddr t x f => rw [hop] at h; obtain ⟨d, q1, q2⟩ := det_field h; exact fin (by rw [hop]; simpa [vcOp] using q1) q2
  | indexAddr t x i => rw [hop] at h; obtain ⟨d, q1, q2⟩ := det_indexAddr h; exact fin (by rw [hop]; simpa [vcOp] using q1) q2
  | index t x i => rw [hop] at h; obtain ⟨d, q1, q2⟩ := det_index h; exact fin (by rw [hop]; simpa [vcOp] using q1) q2
  | field t x f => rw [hop] at h; obtain ⟨d, q1, q2⟩ := det_fieldV h; exact fin (by rw [hop]; simpa [vcOp] using q1) q2
  | extract x i => rw [hop] at h; obtain ⟨d, q1, q2⟩ := det_extract h; exact fin (by rw [hop]; simpa [vcOp] using q1) q2
  | nilCheck x => rw [hop] at h; exact fin (by rw [hop]; exact ⟨h.1, rfl, rfl⟩) h.2
  | binOp b t x y t' => rw [hop] at h; obtain ⟨d, q1, q2⟩ := det_binA h.2; exact fin (by rw [hop]; simp only [vcOp, h.1]; simpa using q1) q2
  | unOp b t x => rw [hop] at h; obtain ⟨d, q1, q2⟩ := det_un h; exact fin (by rw [hop]; simpa [vcOp] using q1) q2
  | convert s d x => rw [hop] at h; obtain ⟨d', q1, q2⟩ := det_conv h; exact fin (by rw [hop]; simpa [vcOp] using vConvS_of (ke := tk P (elT P s)) (S := S) q1) q2
  | makeInterface t x => rw [hop] at h; exact fin (by rw [hop]; exact ⟨h.1, shr_id h.2.1 ⟨rfl, rfl⟩⟩) h.2.2
  | makeFunc fn a b => rw [hop] at h; obtain ⟨d, q1, q2⟩ := det_func h; exact fin (by rw [hop]; simpa [vcOp] using q1) q2
  | slice t x lo hi mx => rw [hop] at h; obtain ⟨d, q1, q2⟩ := det_slice h.2.2; exact fin (by rw [hop]; exact ⟨h.1, sliceX_id h.2.1 (shr1_id h.2.1 (by simpa using q1))⟩) q2
  | lookup t x y ok => rw [hop] at h; obtain ⟨d, q1, q2⟩ := det_lookup h; exact fin (by rw [hop]; simpa [vcOp] using q1) q2
  | build t parts => rw [hop] at h; obtain ⟨d, q1, q2⟩ := det_build h.2; exact fin (by rw [hop]; exact shrs_id h.1 (by simpa using q1)) q2
  | buildSlice t len parts => rw [hop] at h; obtain ⟨d, q1, q2⟩ := det_buildSlice h.2; exact fin (by rw [hop]; exact shrs_id h.1 (by simpa using q1)) q2
  | call c =>
    rw [hop] at h
    obtain ⟨callee, args, ts⟩ := c
    simp only [vcOpQ] at h
    split at h
    · split at h
      · rename_i x t e1 e2
        obtain ⟨d, q1, q2⟩ := det_len h
        exact fin (by rw [hop]; simp only [vcOp, e1, e2]; simpa using q1) q2
      · exact h.elim
    · split at h
      · rename_i x t e1 e2
        obtain ⟨d, q1, q2⟩ := det_cap h
        exact fin (by rw [hop]; simp only [vcOp, e1, e2]; simpa using q1) q2
      · exact h.elim
    · split at h
      · rename_i x y e1
        obtain ⟨d, q1, q2⟩ := det_min h
        exact fin (by rw [hop]; simp only [vcOp, e1]; simpa using q1) q2
      · exact h.elim
    · split at h
      · rename_i x y e1
        obtain ⟨d, q1, q2⟩ := det_max h
        exact fin (by rw [hop]; simp only [vcOp, e1]; simpa using q1) q2
      · exact h.elim
    · rename_i cal
      unfold vCallQ at h
      split at h
      · rename_i f a cap hcal
        obtain ⟨h1, h2, h3, h4, d, h5, h6⟩ := h
        exact fin (by rw [hop]; simp only [vcOp, vCall, hcal]; exact ⟨h1, h3, by rw [h2, gX_t]; exact callK_id h4 h5⟩) h6
      · exact h.elim
    · exact h.elim
  | _ => rw [hop] at h; exact h.elim

end
end Aml
