/- DERIVED, by program: the tables of the translation, as instances. -/
import Derived.Test.YtkogaiabldoafaaProg
import Derived.Test.YtkogaiabldoafaaSx14
import Derived.KernelRfl
namespace Go.Proofs.Ytkogaiabldoafaa.Sx
open Go
instance mixed : Mixed Try.prog := ⟨by kernel_rfl⟩
instance a1 : Agg Try.prog 1 false := ⟨by kernel_rfl⟩
instance i1 : Inf Try.prog 1 1 8 .nilFunc := ⟨by kernel_rfl⟩
instance u2 : Und Try.prog 2 (.int .i64) := ⟨by kernel_rfl⟩
instance a2 : Agg Try.prog 2 false := ⟨by kernel_rfl⟩
instance i2 : Inf Try.prog 2 1 8 (.int .i64 0) := ⟨by kernel_rfl⟩
instance u3 : Und Try.prog 3 (.int .i64) := ⟨by kernel_rfl⟩
instance a3 : Agg Try.prog 3 false := ⟨by kernel_rfl⟩
instance i3 : Inf Try.prog 3 1 8 (.int .i64 0) := ⟨by kernel_rfl⟩
instance u4 : Und Try.prog 4 .bool := ⟨by kernel_rfl⟩
instance a4 : Agg Try.prog 4 false := ⟨by kernel_rfl⟩
instance i4 : Inf Try.prog 4 1 1 (.bool false) := ⟨by kernel_rfl⟩
instance u5 : Und Try.prog 5 (.int .u8) := ⟨by kernel_rfl⟩
instance a5 : Agg Try.prog 5 false := ⟨by kernel_rfl⟩
instance i5 : Inf Try.prog 5 1 1 (.int .u8 0) := ⟨by kernel_rfl⟩
instance u6 : Und Try.prog 6 (.int .u8) := ⟨by kernel_rfl⟩
instance a6 : Agg Try.prog 6 false := ⟨by kernel_rfl⟩
instance i6 : Inf Try.prog 6 1 1 (.int .u8 0) := ⟨by kernel_rfl⟩
instance a7 : Agg Try.prog 7 true := ⟨by kernel_rfl⟩
instance i7 : Inf Try.prog 7 4 24 (.agg #[(.int .i64 0), (.int .i64 0), (.bool false), (.int .u8 0)]) := ⟨by kernel_rfl⟩
instance f7_0 : Fld Try.prog 7 0 0 1 2 := ⟨by kernel_rfl, by kernel_rfl⟩
instance f7_1 : Fld Try.prog 7 1 1 1 3 := ⟨by kernel_rfl, by kernel_rfl⟩
instance f7_2 : Fld Try.prog 7 2 2 1 4 := ⟨by kernel_rfl, by kernel_rfl⟩
instance f7_3 : Fld Try.prog 7 3 3 1 6 := ⟨by kernel_rfl, by kernel_rfl⟩
instance p7 : Plc Try.prog 7 [(0, 1), (1, 1), (2, 1), (3, 1)] := ⟨_, Try.underlying7, fun w => by kernel_rfl⟩
instance a8 : Agg Try.prog 8 true := ⟨by kernel_rfl⟩
instance i8 : Inf Try.prog 8 4 24 (.agg #[(.int .i64 0), (.int .i64 0), (.bool false), (.int .u8 0)]) := ⟨by kernel_rfl⟩
instance f8_0 : Fld Try.prog 8 0 0 1 2 := ⟨by kernel_rfl, by kernel_rfl⟩
instance f8_1 : Fld Try.prog 8 1 1 1 3 := ⟨by kernel_rfl, by kernel_rfl⟩
instance f8_2 : Fld Try.prog 8 2 2 1 4 := ⟨by kernel_rfl, by kernel_rfl⟩
instance f8_3 : Fld Try.prog 8 3 3 1 6 := ⟨by kernel_rfl, by kernel_rfl⟩
instance p8 : Plc Try.prog 8 [(0, 1), (1, 1), (2, 1), (3, 1)] := ⟨_, Try.underlying8, fun w => by kernel_rfl⟩
instance u9 : Und Try.prog 9 .string := ⟨by kernel_rfl⟩
instance a9 : Agg Try.prog 9 false := ⟨by kernel_rfl⟩
instance i9 : Inf Try.prog 9 1 16 (.string ⟨#[]⟩) := ⟨by kernel_rfl⟩
instance u10 : Und Try.prog 10 .string := ⟨by kernel_rfl⟩
instance a10 : Agg Try.prog 10 false := ⟨by kernel_rfl⟩
instance i10 : Inf Try.prog 10 1 16 (.string ⟨#[]⟩) := ⟨by kernel_rfl⟩
instance u11 : Und Try.prog 11 .string := ⟨by kernel_rfl⟩
instance a11 : Agg Try.prog 11 false := ⟨by kernel_rfl⟩
instance i11 : Inf Try.prog 11 1 16 (.string ⟨#[]⟩) := ⟨by kernel_rfl⟩
instance u12 : Und Try.prog 12 (.int .u64) := ⟨by kernel_rfl⟩
instance a12 : Agg Try.prog 12 false := ⟨by kernel_rfl⟩
instance i12 : Inf Try.prog 12 1 8 (.int .u64 0) := ⟨by kernel_rfl⟩
instance a13 : Agg Try.prog 13 true := ⟨by kernel_rfl⟩
instance i13 : Inf Try.prog 13 2 24 (.agg #[(.string ⟨#[]⟩), (.int .u64 0)]) := ⟨by kernel_rfl⟩
instance f13_0 : Fld Try.prog 13 0 0 1 9 := ⟨by kernel_rfl, by kernel_rfl⟩
instance f13_1 : Fld Try.prog 13 1 1 1 12 := ⟨by kernel_rfl, by kernel_rfl⟩
instance p13 : Plc Try.prog 13 [(0, 1), (1, 1)] := ⟨_, Try.underlying13, fun w => by kernel_rfl⟩
instance a14 : Agg Try.prog 14 true := ⟨by kernel_rfl⟩
instance i14 : Inf Try.prog 14 2 24 (.agg #[(.string ⟨#[]⟩), (.int .u64 0)]) := ⟨by kernel_rfl⟩
instance f14_0 : Fld Try.prog 14 0 0 1 9 := ⟨by kernel_rfl, by kernel_rfl⟩
instance f14_1 : Fld Try.prog 14 1 1 1 12 := ⟨by kernel_rfl, by kernel_rfl⟩
instance p14 : Plc Try.prog 14 [(0, 1), (1, 1)] := ⟨_, Try.underlying14, fun w => by kernel_rfl⟩
instance u15 : Und Try.prog 15 (.pointer 64) := ⟨by kernel_rfl⟩
instance a15 : Agg Try.prog 15 false := ⟨by kernel_rfl⟩
instance i15 : Inf Try.prog 15 1 8 (.pointer none) := ⟨by kernel_rfl⟩
instance u16 : Und Try.prog 16 (.pointer 67) := ⟨by kernel_rfl⟩
instance a16 : Agg Try.prog 16 false := ⟨by kernel_rfl⟩
instance i16 : Inf Try.prog 16 1 8 (.pointer none) := ⟨by kernel_rfl⟩
instance u17 : Und Try.prog 17 (.pointer 76) := ⟨by kernel_rfl⟩
instance a17 : Agg Try.prog 17 false := ⟨by kernel_rfl⟩
instance i17 : Inf Try.prog 17 1 8 (.pointer none) := ⟨by kernel_rfl⟩
instance a18 : Agg Try.prog 18 true := ⟨by kernel_rfl⟩
instance i18 : Inf Try.prog 18 1 8 (.agg #[(.pointer none)]) := ⟨by kernel_rfl⟩
instance f18_0 : Fld Try.prog 18 0 0 1 17 := ⟨by kernel_rfl, by kernel_rfl⟩
instance p18 : Plc Try.prog 18 [(0, 1)] := ⟨_, Try.underlying18, fun w => by kernel_rfl⟩
instance a19 : Agg Try.prog 19 true := ⟨by kernel_rfl⟩
instance i19 : Inf Try.prog 19 1 8 (.agg #[(.pointer none)]) := ⟨by kernel_rfl⟩
instance f19_0 : Fld Try.prog 19 0 0 1 17 := ⟨by kernel_rfl, by kernel_rfl⟩
instance p19 : Plc Try.prog 19 [(0, 1)] := ⟨_, Try.underlying19, fun w => by kernel_rfl⟩
instance a20 : Agg Try.prog 20 false := ⟨by kernel_rfl⟩
instance i20 : Inf Try.prog 20 1 16 .nilIface := ⟨by kernel_rfl⟩
instance u21 : Und Try.prog 21 (.int .i32) := ⟨by kernel_rfl⟩
instance a21 : Agg Try.prog 21 false := ⟨by kernel_rfl⟩
instance i21 : Inf Try.prog 21 1 4 (.int .i32 0) := ⟨by kernel_rfl⟩
instance u22 : Und Try.prog 22 (.slice 3) := ⟨by kernel_rfl⟩
instance a22 : Agg Try.prog 22 false := ⟨by kernel_rfl⟩
instance i22 : Inf Try.prog 22 1 24 (.slice none 0 0) := ⟨by kernel_rfl⟩
instance u23 : Und Try.prog 23 (.pointer 40) := ⟨by kernel_rfl⟩
instance a23 : Agg Try.prog 23 false := ⟨by kernel_rfl⟩
instance i23 : Inf Try.prog 23 1 8 (.pointer none) := ⟨by kernel_rfl⟩
instance a24 : Agg Try.prog 24 false := ⟨by kernel_rfl⟩
instance i24 : Inf Try.prog 24 1 8 .nilFunc := ⟨by kernel_rfl⟩
instance u25 : Und Try.prog 25 (.int .u64) := ⟨by kernel_rfl⟩
instance a25 : Agg Try.prog 25 false := ⟨by kernel_rfl⟩
instance i25 : Inf Try.prog 25 1 8 (.int .u64 0) := ⟨by kernel_rfl⟩
instance u26 : Und Try.prog 26 (.int .u64) := ⟨by kernel_rfl⟩
instance a26 : Agg Try.prog 26 false := ⟨by kernel_rfl⟩
instance i26 : Inf Try.prog 26 1 8 (.int .u64 0) := ⟨by kernel_rfl⟩
instance a27 : Agg Try.prog 27 true := ⟨by kernel_rfl⟩
instance i27 : Inf Try.prog 27 2 16 (.agg #[(.int .i64 0), (.int .u64 0)]) := ⟨by kernel_rfl⟩
instance f27_0 : Fld Try.prog 27 0 0 1 3 := ⟨by kernel_rfl, by kernel_rfl⟩
instance f27_1 : Fld Try.prog 27 1 1 1 26 := ⟨by kernel_rfl, by kernel_rfl⟩
instance p27 : Plc Try.prog 27 [(0, 1), (1, 1)] := ⟨_, Try.underlying27, fun w => by kernel_rfl⟩
instance a28 : Agg Try.prog 28 true := ⟨by kernel_rfl⟩
instance i28 : Inf Try.prog 28 2 16 (.agg #[(.int .i64 0), (.int .u64 0)]) := ⟨by kernel_rfl⟩
instance f28_0 : Fld Try.prog 28 0 0 1 3 := ⟨by kernel_rfl, by kernel_rfl⟩
instance f28_1 : Fld Try.prog 28 1 1 1 26 := ⟨by kernel_rfl, by kernel_rfl⟩
instance p28 : Plc Try.prog 28 [(0, 1), (1, 1)] := ⟨_, Try.underlying28, fun w => by kernel_rfl⟩
instance u29 : Und Try.prog 29 (.int .i64) := ⟨by kernel_rfl⟩
instance a29 : Agg Try.prog 29 false := ⟨by kernel_rfl⟩
instance i29 : Inf Try.prog 29 1 8 (.int .i64 0) := ⟨by kernel_rfl⟩
instance a30 : Agg Try.prog 30 false := ⟨by kernel_rfl⟩
instance i30 : Inf Try.prog 30 1 8 .nilFunc := ⟨by kernel_rfl⟩
instance a31 : Agg Try.prog 31 false := ⟨by kernel_rfl⟩
instance i31 : Inf Try.prog 31 1 8 .nilFunc := ⟨by kernel_rfl⟩
instance a32 : Agg Try.prog 32 false := ⟨by kernel_rfl⟩
instance i32 : Inf Try.prog 32 1 8 .nilFunc := ⟨by kernel_rfl⟩
instance u33 : Und Try.prog 33 (.pointer 46) := ⟨by kernel_rfl⟩
instance a33 : Agg Try.prog 33 false := ⟨by kernel_rfl⟩
instance i33 : Inf Try.prog 33 1 8 (.pointer none) := ⟨by kernel_rfl⟩
instance a34 : Agg Try.prog 34 false := ⟨by kernel_rfl⟩
instance i34 : Inf Try.prog 34 1 8 .nilFunc := ⟨by kernel_rfl⟩
instance u35 : Und Try.prog 35 (.int .i64) := ⟨by kernel_rfl⟩
instance a35 : Agg Try.prog 35 false := ⟨by kernel_rfl⟩
instance i35 : Inf Try.prog 35 1 8 (.int .i64 0) := ⟨by kernel_rfl⟩
instance u36 : Und Try.prog 36 (.pointer 51) := ⟨by kernel_rfl⟩
instance a36 : Agg Try.prog 36 false := ⟨by kernel_rfl⟩
instance i36 : Inf Try.prog 36 1 8 (.pointer none) := ⟨by kernel_rfl⟩
instance a37 : Agg Try.prog 37 false := ⟨by kernel_rfl⟩
instance i37 : Inf Try.prog 37 1 8 .nilFunc := ⟨by kernel_rfl⟩
instance u38 : Und Try.prog 38 (.slice 79) := ⟨by kernel_rfl⟩
instance a38 : Agg Try.prog 38 false := ⟨by kernel_rfl⟩
instance i38 : Inf Try.prog 38 1 24 (.slice none 0 0) := ⟨by kernel_rfl⟩
instance a39 : Agg Try.prog 39 true := ⟨by kernel_rfl⟩
instance i39 : Inf Try.prog 39 5 72 (.agg #[(.pointer none), (.pointer none), (.slice none 0 0), (.slice none 0 0), (.int .i64 0)]) := ⟨by kernel_rfl⟩
instance f39_0 : Fld Try.prog 39 0 0 1 33 := ⟨by kernel_rfl, by kernel_rfl⟩
instance f39_1 : Fld Try.prog 39 1 1 1 36 := ⟨by kernel_rfl, by kernel_rfl⟩
instance f39_2 : Fld Try.prog 39 2 2 1 22 := ⟨by kernel_rfl, by kernel_rfl⟩
instance f39_3 : Fld Try.prog 39 3 3 1 38 := ⟨by kernel_rfl, by kernel_rfl⟩
instance f39_4 : Fld Try.prog 39 4 4 1 3 := ⟨by kernel_rfl, by kernel_rfl⟩
instance p39 : Plc Try.prog 39 [(0, 1), (1, 1), (2, 1), (3, 1), (4, 1)] := ⟨_, Try.underlying39, fun w => by kernel_rfl⟩
instance a40 : Agg Try.prog 40 true := ⟨by kernel_rfl⟩
instance i40 : Inf Try.prog 40 5 72 (.agg #[(.pointer none), (.pointer none), (.slice none 0 0), (.slice none 0 0), (.int .i64 0)]) := ⟨by kernel_rfl⟩
instance f40_0 : Fld Try.prog 40 0 0 1 33 := ⟨by kernel_rfl, by kernel_rfl⟩
instance f40_1 : Fld Try.prog 40 1 1 1 36 := ⟨by kernel_rfl, by kernel_rfl⟩
instance f40_2 : Fld Try.prog 40 2 2 1 22 := ⟨by kernel_rfl, by kernel_rfl⟩
instance f40_3 : Fld Try.prog 40 3 3 1 38 := ⟨by kernel_rfl, by kernel_rfl⟩
instance f40_4 : Fld Try.prog 40 4 4 1 3 := ⟨by kernel_rfl, by kernel_rfl⟩
instance p40 : Plc Try.prog 40 [(0, 1), (1, 1), (2, 1), (3, 1), (4, 1)] := ⟨_, Try.underlying40, fun w => by kernel_rfl⟩
instance a41 : Agg Try.prog 41 false := ⟨by kernel_rfl⟩
instance i41 : Inf Try.prog 41 1 8 .nilFunc := ⟨by kernel_rfl⟩
instance a42 : Agg Try.prog 42 true := ⟨by kernel_rfl⟩
instance i42 : Inf Try.prog 42 2 16 (.agg #[(.int .i64 0), (.int .i64 0)]) := ⟨by kernel_rfl⟩
instance f42_0 : Fld Try.prog 42 0 0 1 35 := ⟨by kernel_rfl, by kernel_rfl⟩
instance f42_1 : Fld Try.prog 42 1 1 1 35 := ⟨by kernel_rfl, by kernel_rfl⟩
instance p42 : Plc Try.prog 42 [(0, 1), (1, 1)] := ⟨_, Try.underlying42, fun w => by kernel_rfl⟩
instance a43 : Agg Try.prog 43 true := ⟨by kernel_rfl⟩
instance i43 : Inf Try.prog 43 2 16 (.agg #[(.int .i64 0), (.int .i64 0)]) := ⟨by kernel_rfl⟩
instance f43_0 : Fld Try.prog 43 0 0 1 35 := ⟨by kernel_rfl, by kernel_rfl⟩
instance f43_1 : Fld Try.prog 43 1 1 1 35 := ⟨by kernel_rfl, by kernel_rfl⟩
instance p43 : Plc Try.prog 43 [(0, 1), (1, 1)] := ⟨_, Try.underlying43, fun w => by kernel_rfl⟩
instance a44 : Agg Try.prog 44 false := ⟨by kernel_rfl⟩
instance i44 : Inf Try.prog 44 1 8 .nilFunc := ⟨by kernel_rfl⟩
instance a45 : Agg Try.prog 45 true := ⟨by kernel_rfl⟩
instance i45 : Inf Try.prog 45 8 64 (.agg #[(.int .i64 0), (.int .i64 0), (.int .i64 0), (.int .u64 0), (.int .i64 0), (.int .i64 0), (.int .i64 0), (.int .i64 0)]) := ⟨by kernel_rfl⟩
instance f45_0 : Fld Try.prog 45 0 0 2 43 := ⟨by kernel_rfl, by kernel_rfl⟩
instance f45_1 : Fld Try.prog 45 1 2 2 28 := ⟨by kernel_rfl, by kernel_rfl⟩
instance f45_2 : Fld Try.prog 45 2 4 1 29 := ⟨by kernel_rfl, by kernel_rfl⟩
instance f45_3 : Fld Try.prog 45 3 5 1 35 := ⟨by kernel_rfl, by kernel_rfl⟩
instance f45_4 : Fld Try.prog 45 4 6 1 3 := ⟨by kernel_rfl, by kernel_rfl⟩
instance f45_5 : Fld Try.prog 45 5 7 1 3 := ⟨by kernel_rfl, by kernel_rfl⟩
instance p45 : Plc Try.prog 45 [(0, 2), (2, 2), (4, 1), (5, 1), (6, 1), (7, 1)] := ⟨_, Try.underlying45, fun w => by kernel_rfl⟩
instance a46 : Agg Try.prog 46 true := ⟨by kernel_rfl⟩
instance i46 : Inf Try.prog 46 8 64 (.agg #[(.int .i64 0), (.int .i64 0), (.int .i64 0), (.int .u64 0), (.int .i64 0), (.int .i64 0), (.int .i64 0), (.int .i64 0)]) := ⟨by kernel_rfl⟩
instance f46_0 : Fld Try.prog 46 0 0 2 43 := ⟨by kernel_rfl, by kernel_rfl⟩
instance f46_1 : Fld Try.prog 46 1 2 2 28 := ⟨by kernel_rfl, by kernel_rfl⟩
instance f46_2 : Fld Try.prog 46 2 4 1 29 := ⟨by kernel_rfl, by kernel_rfl⟩
instance f46_3 : Fld Try.prog 46 3 5 1 35 := ⟨by kernel_rfl, by kernel_rfl⟩
instance f46_4 : Fld Try.prog 46 4 6 1 3 := ⟨by kernel_rfl, by kernel_rfl⟩
instance f46_5 : Fld Try.prog 46 5 7 1 3 := ⟨by kernel_rfl, by kernel_rfl⟩
instance p46 : Plc Try.prog 46 [(0, 2), (2, 2), (4, 1), (5, 1), (6, 1), (7, 1)] := ⟨_, Try.underlying46, fun w => by kernel_rfl⟩
instance u47 : Und Try.prog 47 (.map 9 9) := ⟨by kernel_rfl⟩
instance a47 : Agg Try.prog 47 false := ⟨by kernel_rfl⟩
instance i47 : Inf Try.prog 47 1 8 (.map none) := ⟨by kernel_rfl⟩
instance a48 : Agg Try.prog 48 true := ⟨by kernel_rfl⟩
instance i48 : Inf Try.prog 48 6 64 (.agg #[(.string ⟨#[]⟩), (.string ⟨#[]⟩), (.bool false), (.string ⟨#[]⟩), (.bool false), (.bool false)]) := ⟨by kernel_rfl⟩
instance f48_0 : Fld Try.prog 48 0 0 1 9 := ⟨by kernel_rfl, by kernel_rfl⟩
instance f48_1 : Fld Try.prog 48 1 1 1 9 := ⟨by kernel_rfl, by kernel_rfl⟩
instance f48_2 : Fld Try.prog 48 2 2 1 4 := ⟨by kernel_rfl, by kernel_rfl⟩
instance f48_3 : Fld Try.prog 48 3 3 1 9 := ⟨by kernel_rfl, by kernel_rfl⟩
instance f48_4 : Fld Try.prog 48 4 4 1 4 := ⟨by kernel_rfl, by kernel_rfl⟩
instance f48_5 : Fld Try.prog 48 5 5 1 4 := ⟨by kernel_rfl, by kernel_rfl⟩
instance p48 : Plc Try.prog 48 [(0, 1), (1, 1), (2, 1), (3, 1), (4, 1), (5, 1)] := ⟨_, Try.underlying48, fun w => by kernel_rfl⟩
instance a49 : Agg Try.prog 49 true := ⟨by kernel_rfl⟩
instance i49 : Inf Try.prog 49 6 64 (.agg #[(.string ⟨#[]⟩), (.string ⟨#[]⟩), (.bool false), (.string ⟨#[]⟩), (.bool false), (.bool false)]) := ⟨by kernel_rfl⟩
instance f49_0 : Fld Try.prog 49 0 0 1 9 := ⟨by kernel_rfl, by kernel_rfl⟩
instance f49_1 : Fld Try.prog 49 1 1 1 9 := ⟨by kernel_rfl, by kernel_rfl⟩
instance f49_2 : Fld Try.prog 49 2 2 1 4 := ⟨by kernel_rfl, by kernel_rfl⟩
instance f49_3 : Fld Try.prog 49 3 3 1 9 := ⟨by kernel_rfl, by kernel_rfl⟩
instance f49_4 : Fld Try.prog 49 4 4 1 4 := ⟨by kernel_rfl, by kernel_rfl⟩
instance f49_5 : Fld Try.prog 49 5 5 1 4 := ⟨by kernel_rfl, by kernel_rfl⟩
instance p49 : Plc Try.prog 49 [(0, 1), (1, 1), (2, 1), (3, 1), (4, 1), (5, 1)] := ⟨_, Try.underlying49, fun w => by kernel_rfl⟩
instance a50 : Agg Try.prog 50 true := ⟨by kernel_rfl⟩
instance i50 : Inf Try.prog 50 7 72 (.agg #[(.map none), (.string ⟨#[]⟩), (.string ⟨#[]⟩), (.bool false), (.string ⟨#[]⟩), (.bool false), (.bool false)]) := ⟨by kernel_rfl⟩
instance f50_0 : Fld Try.prog 50 0 0 1 47 := ⟨by kernel_rfl, by kernel_rfl⟩
instance f50_1 : Fld Try.prog 50 1 1 6 49 := ⟨by kernel_rfl, by kernel_rfl⟩
instance p50 : Plc Try.prog 50 [(0, 1), (1, 6)] := ⟨_, Try.underlying50, fun w => by kernel_rfl⟩
instance a51 : Agg Try.prog 51 true := ⟨by kernel_rfl⟩
instance i51 : Inf Try.prog 51 7 72 (.agg #[(.map none), (.string ⟨#[]⟩), (.string ⟨#[]⟩), (.bool false), (.string ⟨#[]⟩), (.bool false), (.bool false)]) := ⟨by kernel_rfl⟩
instance f51_0 : Fld Try.prog 51 0 0 1 47 := ⟨by kernel_rfl, by kernel_rfl⟩
instance f51_1 : Fld Try.prog 51 1 1 6 49 := ⟨by kernel_rfl, by kernel_rfl⟩
instance p51 : Plc Try.prog 51 [(0, 1), (1, 6)] := ⟨_, Try.underlying51, fun w => by kernel_rfl⟩
instance a53 : Agg Try.prog 53 false := ⟨by kernel_rfl⟩
instance i53 : Inf Try.prog 53 1 8 .nilFunc := ⟨by kernel_rfl⟩
instance a54 : Agg Try.prog 54 true := ⟨by kernel_rfl⟩
instance i54 : Inf Try.prog 54 3 24 (.agg #[(.int .u64 0), (.int .u64 0), (.bool false)]) := ⟨by kernel_rfl⟩
instance f54_0 : Fld Try.prog 54 0 0 1 25 := ⟨by kernel_rfl, by kernel_rfl⟩
instance f54_1 : Fld Try.prog 54 1 1 1 25 := ⟨by kernel_rfl, by kernel_rfl⟩
instance f54_2 : Fld Try.prog 54 2 2 1 4 := ⟨by kernel_rfl, by kernel_rfl⟩
instance p54 : Plc Try.prog 54 [(0, 1), (1, 1), (2, 1)] := ⟨_, Try.underlying54, fun w => by kernel_rfl⟩
instance a55 : Agg Try.prog 55 true := ⟨by kernel_rfl⟩
instance i55 : Inf Try.prog 55 3 24 (.agg #[(.int .u64 0), (.int .u64 0), (.bool false)]) := ⟨by kernel_rfl⟩
instance f55_0 : Fld Try.prog 55 0 0 1 25 := ⟨by kernel_rfl, by kernel_rfl⟩
instance f55_1 : Fld Try.prog 55 1 1 1 25 := ⟨by kernel_rfl, by kernel_rfl⟩
instance f55_2 : Fld Try.prog 55 2 2 1 4 := ⟨by kernel_rfl, by kernel_rfl⟩
instance p55 : Plc Try.prog 55 [(0, 1), (1, 1), (2, 1)] := ⟨_, Try.underlying55, fun w => by kernel_rfl⟩
instance a56 : Agg Try.prog 56 false := ⟨by kernel_rfl⟩
instance i56 : Inf Try.prog 56 1 8 .nilFunc := ⟨by kernel_rfl⟩
instance a57 : Agg Try.prog 57 false := ⟨by kernel_rfl⟩
instance i57 : Inf Try.prog 57 1 8 .nilFunc := ⟨by kernel_rfl⟩
instance a58 : Agg Try.prog 58 false := ⟨by kernel_rfl⟩
instance i58 : Inf Try.prog 58 1 8 .nilFunc := ⟨by kernel_rfl⟩
instance a60 : Agg Try.prog 60 false := ⟨by kernel_rfl⟩
instance i60 : Inf Try.prog 60 1 8 .nilFunc := ⟨by kernel_rfl⟩
instance u61 : Und Try.prog 61 (.int .u64) := ⟨by kernel_rfl⟩
instance a61 : Agg Try.prog 61 false := ⟨by kernel_rfl⟩
instance i61 : Inf Try.prog 61 1 8 (.int .u64 0) := ⟨by kernel_rfl⟩
instance a62 : Agg Try.prog 62 false := ⟨by kernel_rfl⟩
instance i62 : Inf Try.prog 62 1 8 .nilFunc := ⟨by kernel_rfl⟩
instance a63 : Agg Try.prog 63 true := ⟨by kernel_rfl⟩
instance i63 : Inf Try.prog 63 4 40 (.agg #[(.pointer none), (.pointer none), (.pointer none), (.string ⟨#[]⟩)]) := ⟨by kernel_rfl⟩
instance f63_0 : Fld Try.prog 63 0 0 1 17 := ⟨by kernel_rfl, by kernel_rfl⟩
instance f63_1 : Fld Try.prog 63 1 1 1 17 := ⟨by kernel_rfl, by kernel_rfl⟩
instance f63_2 : Fld Try.prog 63 2 2 1 17 := ⟨by kernel_rfl, by kernel_rfl⟩
instance f63_3 : Fld Try.prog 63 3 3 1 9 := ⟨by kernel_rfl, by kernel_rfl⟩
instance p63 : Plc Try.prog 63 [(0, 1), (1, 1), (2, 1), (3, 1)] := ⟨_, Try.underlying63, fun w => by kernel_rfl⟩
instance a64 : Agg Try.prog 64 true := ⟨by kernel_rfl⟩
instance i64 : Inf Try.prog 64 4 40 (.agg #[(.pointer none), (.pointer none), (.pointer none), (.string ⟨#[]⟩)]) := ⟨by kernel_rfl⟩
instance f64_0 : Fld Try.prog 64 0 0 1 17 := ⟨by kernel_rfl, by kernel_rfl⟩
instance f64_1 : Fld Try.prog 64 1 1 1 17 := ⟨by kernel_rfl, by kernel_rfl⟩
instance f64_2 : Fld Try.prog 64 2 2 1 17 := ⟨by kernel_rfl, by kernel_rfl⟩
instance f64_3 : Fld Try.prog 64 3 3 1 9 := ⟨by kernel_rfl, by kernel_rfl⟩
instance p64 : Plc Try.prog 64 [(0, 1), (1, 1), (2, 1), (3, 1)] := ⟨_, Try.underlying64, fun w => by kernel_rfl⟩
instance u65 : Und Try.prog 65 (.array 0 16) := ⟨by kernel_rfl⟩
instance a65 : Agg Try.prog 65 true := ⟨by kernel_rfl⟩
instance i65 : Inf Try.prog 65 0 0 (.agg #[]) := ⟨by kernel_rfl⟩
instance a66 : Agg Try.prog 66 true := ⟨by kernel_rfl⟩
instance i66 : Inf Try.prog 66 0 0 (.agg #[]) := ⟨by kernel_rfl⟩
instance f66_0 : Fld Try.prog 66 0 0 0 65 := ⟨by kernel_rfl, by kernel_rfl⟩
instance p66 : Plc Try.prog 66 [(0, 0)] := ⟨_, Try.underlying66, fun w => by kernel_rfl⟩
instance a67 : Agg Try.prog 67 true := ⟨by kernel_rfl⟩
instance i67 : Inf Try.prog 67 0 0 (.agg #[]) := ⟨by kernel_rfl⟩
instance f67_0 : Fld Try.prog 67 0 0 0 65 := ⟨by kernel_rfl, by kernel_rfl⟩
instance p67 : Plc Try.prog 67 [(0, 0)] := ⟨_, Try.underlying67, fun w => by kernel_rfl⟩
instance u68 : Und Try.prog 68 (.int .u32) := ⟨by kernel_rfl⟩
instance a68 : Agg Try.prog 68 false := ⟨by kernel_rfl⟩
instance i68 : Inf Try.prog 68 1 4 (.int .u32 0) := ⟨by kernel_rfl⟩
instance u69 : Und Try.prog 69 (.int .u8) := ⟨by kernel_rfl⟩
instance a69 : Agg Try.prog 69 false := ⟨by kernel_rfl⟩
instance i69 : Inf Try.prog 69 1 1 (.int .u8 0) := ⟨by kernel_rfl⟩
instance u70 : Und Try.prog 70 (.int .u8) := ⟨by kernel_rfl⟩
instance a70 : Agg Try.prog 70 false := ⟨by kernel_rfl⟩
instance i70 : Inf Try.prog 70 1 1 (.int .u8 0) := ⟨by kernel_rfl⟩
instance a71 : Agg Try.prog 71 false := ⟨by kernel_rfl⟩
instance i71 : Inf Try.prog 71 1 8 .nilFunc := ⟨by kernel_rfl⟩
instance u72 : Und Try.prog 72 (.pointer 5) := ⟨by kernel_rfl⟩
instance a72 : Agg Try.prog 72 false := ⟨by kernel_rfl⟩
instance i72 : Inf Try.prog 72 1 8 (.pointer none) := ⟨by kernel_rfl⟩
instance u73 : Und Try.prog 73 (.int .i32) := ⟨by kernel_rfl⟩
instance a73 : Agg Try.prog 73 false := ⟨by kernel_rfl⟩
instance i73 : Inf Try.prog 73 1 4 (.int .i32 0) := ⟨by kernel_rfl⟩
instance u74 : Und Try.prog 74 (.int .i32) := ⟨by kernel_rfl⟩
instance a74 : Agg Try.prog 74 false := ⟨by kernel_rfl⟩
instance i74 : Inf Try.prog 74 1 4 (.int .i32 0) := ⟨by kernel_rfl⟩
instance a75 : Agg Try.prog 75 true := ⟨by kernel_rfl⟩
instance i75 : Inf Try.prog 75 11 48 (.agg #[(.int .u64 0), (.int .u64 0), (.int .u32 0), (.int .u8 0), (.int .u8 0), (.int .u8 0), (.int .u8 0), .nilFunc, (.pointer none), (.int .i32 0), (.int .i32 0)]) := ⟨by kernel_rfl⟩
instance f75_0 : Fld Try.prog 75 0 0 1 12 := ⟨by kernel_rfl, by kernel_rfl⟩
instance f75_1 : Fld Try.prog 75 1 1 1 12 := ⟨by kernel_rfl, by kernel_rfl⟩
instance f75_2 : Fld Try.prog 75 2 2 1 68 := ⟨by kernel_rfl, by kernel_rfl⟩
instance f75_3 : Fld Try.prog 75 3 3 1 69 := ⟨by kernel_rfl, by kernel_rfl⟩
instance f75_4 : Fld Try.prog 75 4 4 1 5 := ⟨by kernel_rfl, by kernel_rfl⟩
instance f75_5 : Fld Try.prog 75 5 5 1 5 := ⟨by kernel_rfl, by kernel_rfl⟩
instance f75_6 : Fld Try.prog 75 6 6 1 70 := ⟨by kernel_rfl, by kernel_rfl⟩
instance f75_7 : Fld Try.prog 75 7 7 1 71 := ⟨by kernel_rfl, by kernel_rfl⟩
instance f75_8 : Fld Try.prog 75 8 8 1 72 := ⟨by kernel_rfl, by kernel_rfl⟩
instance f75_9 : Fld Try.prog 75 9 9 1 73 := ⟨by kernel_rfl, by kernel_rfl⟩
instance f75_10 : Fld Try.prog 75 10 10 1 74 := ⟨by kernel_rfl, by kernel_rfl⟩
instance p75 : Plc Try.prog 75 [(0, 1), (1, 1), (2, 1), (3, 1), (4, 1), (5, 1), (6, 1), (7, 1), (8, 1), (9, 1), (10, 1)] := ⟨_, Try.underlying75, fun w => by kernel_rfl⟩
instance a76 : Agg Try.prog 76 true := ⟨by kernel_rfl⟩
instance i76 : Inf Try.prog 76 11 48 (.agg #[(.int .u64 0), (.int .u64 0), (.int .u32 0), (.int .u8 0), (.int .u8 0), (.int .u8 0), (.int .u8 0), .nilFunc, (.pointer none), (.int .i32 0), (.int .i32 0)]) := ⟨by kernel_rfl⟩
instance f76_0 : Fld Try.prog 76 0 0 1 12 := ⟨by kernel_rfl, by kernel_rfl⟩
instance f76_1 : Fld Try.prog 76 1 1 1 12 := ⟨by kernel_rfl, by kernel_rfl⟩
instance f76_2 : Fld Try.prog 76 2 2 1 68 := ⟨by kernel_rfl, by kernel_rfl⟩
instance f76_3 : Fld Try.prog 76 3 3 1 69 := ⟨by kernel_rfl, by kernel_rfl⟩
instance f76_4 : Fld Try.prog 76 4 4 1 5 := ⟨by kernel_rfl, by kernel_rfl⟩
instance f76_5 : Fld Try.prog 76 5 5 1 5 := ⟨by kernel_rfl, by kernel_rfl⟩
instance f76_6 : Fld Try.prog 76 6 6 1 70 := ⟨by kernel_rfl, by kernel_rfl⟩
instance f76_7 : Fld Try.prog 76 7 7 1 71 := ⟨by kernel_rfl, by kernel_rfl⟩
instance f76_8 : Fld Try.prog 76 8 8 1 72 := ⟨by kernel_rfl, by kernel_rfl⟩
instance f76_9 : Fld Try.prog 76 9 9 1 73 := ⟨by kernel_rfl, by kernel_rfl⟩
instance f76_10 : Fld Try.prog 76 10 10 1 74 := ⟨by kernel_rfl, by kernel_rfl⟩
instance p76 : Plc Try.prog 76 [(0, 1), (1, 1), (2, 1), (3, 1), (4, 1), (5, 1), (6, 1), (7, 1), (8, 1), (9, 1), (10, 1)] := ⟨_, Try.underlying76, fun w => by kernel_rfl⟩
instance u77 : Und Try.prog 77 (.slice 5) := ⟨by kernel_rfl⟩
instance a77 : Agg Try.prog 77 false := ⟨by kernel_rfl⟩
instance i77 : Inf Try.prog 77 1 24 (.slice none 0 0) := ⟨by kernel_rfl⟩
instance a78 : Agg Try.prog 78 true := ⟨by kernel_rfl⟩
instance i78 : Inf Try.prog 78 6 72 (.agg #[(.int .i64 0), (.int .u32 0), (.slice none 0 0), (.string ⟨#[]⟩), (.int .i64 0), (.int .i64 0)]) := ⟨by kernel_rfl⟩
instance f78_0 : Fld Try.prog 78 0 0 1 3 := ⟨by kernel_rfl, by kernel_rfl⟩
instance f78_1 : Fld Try.prog 78 1 1 1 68 := ⟨by kernel_rfl, by kernel_rfl⟩
instance f78_2 : Fld Try.prog 78 2 2 1 77 := ⟨by kernel_rfl, by kernel_rfl⟩
instance f78_3 : Fld Try.prog 78 3 3 1 9 := ⟨by kernel_rfl, by kernel_rfl⟩
instance f78_4 : Fld Try.prog 78 4 4 1 29 := ⟨by kernel_rfl, by kernel_rfl⟩
instance f78_5 : Fld Try.prog 78 5 5 1 35 := ⟨by kernel_rfl, by kernel_rfl⟩
instance p78 : Plc Try.prog 78 [(0, 1), (1, 1), (2, 1), (3, 1), (4, 1), (5, 1)] := ⟨_, Try.underlying78, fun w => by kernel_rfl⟩
instance a79 : Agg Try.prog 79 true := ⟨by kernel_rfl⟩
instance i79 : Inf Try.prog 79 6 72 (.agg #[(.int .i64 0), (.int .u32 0), (.slice none 0 0), (.string ⟨#[]⟩), (.int .i64 0), (.int .i64 0)]) := ⟨by kernel_rfl⟩
instance f79_0 : Fld Try.prog 79 0 0 1 3 := ⟨by kernel_rfl, by kernel_rfl⟩
instance f79_1 : Fld Try.prog 79 1 1 1 68 := ⟨by kernel_rfl, by kernel_rfl⟩
instance f79_2 : Fld Try.prog 79 2 2 1 77 := ⟨by kernel_rfl, by kernel_rfl⟩
instance f79_3 : Fld Try.prog 79 3 3 1 9 := ⟨by kernel_rfl, by kernel_rfl⟩
instance f79_4 : Fld Try.prog 79 4 4 1 29 := ⟨by kernel_rfl, by kernel_rfl⟩
instance f79_5 : Fld Try.prog 79 5 5 1 35 := ⟨by kernel_rfl, by kernel_rfl⟩
instance p79 : Plc Try.prog 79 [(0, 1), (1, 1), (2, 1), (3, 1), (4, 1), (5, 1)] := ⟨_, Try.underlying79, fun w => by kernel_rfl⟩
instance a80 : Agg Try.prog 80 false := ⟨by kernel_rfl⟩
instance i80 : Inf Try.prog 80 1 8 (.pointer none) := ⟨by kernel_rfl⟩
instance c3 : Callable Try.prog 3 := callable_of Try.func3 (by kernel_rfl) rfl
instance c4 : Callable Try.prog 4 := callable_of Try.func4 (by kernel_rfl) rfl
instance c5 : Callable Try.prog 5 := callable_of Try.func5 (by kernel_rfl) rfl
instance c6 : Callable Try.prog 6 := callable_of Try.func6 (by kernel_rfl) rfl
instance c7 : Callable Try.prog 7 := callable_of Try.func7 (by kernel_rfl) rfl
instance c8 : Callable Try.prog 8 := callable_of Try.func8 (by kernel_rfl) rfl
instance c9 : Callable Try.prog 9 := callable_of Try.func9 (by kernel_rfl) rfl
instance c10 : Callable Try.prog 10 := callable_of Try.func10 (by kernel_rfl) rfl
instance c11 : Callable Try.prog 11 := callable_of Try.func11 (by kernel_rfl) rfl
instance c12 : Callable Try.prog 12 := callable_of Try.func12 (by kernel_rfl) rfl
instance c13 : Callable Try.prog 13 := callable_of Try.func13 (by kernel_rfl) rfl
instance c14 : Callable Try.prog 14 := callable_of Try.func14 (by kernel_rfl) rfl
instance c15 : Callable Try.prog 15 := callable_of Try.func15 (by kernel_rfl) rfl
end Go.Proofs.Ytkogaiabldoafaa.Sx
