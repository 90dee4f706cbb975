/- DERIVED, by program: the tables of the translation, as instances. -/
import Derived.Test.YtndjfjpljigcmaaProg
import Derived.Test.YtndjfjpljigcmaaSx14
import Derived.KernelRfl
namespace Go.Proofs.Ytndjfjpljigcmaa.Sx
open Go
instance mixed : Mixed Try.prog := ⟨by kernel_rfl⟩
instance a1 : Agg Try.prog 1 false := ⟨by kernel_rfl⟩
instance i1 : Inf Try.prog 1 1 8 .nilFunc := ⟨by kernel_rfl⟩
instance u2 : Und Try.prog 2 (.int .i64) := ⟨by kernel_rfl⟩
instance a2 : Agg Try.prog 2 false := ⟨by kernel_rfl⟩
instance i2 : Inf Try.prog 2 1 8 (.int .i64 0) := ⟨by kernel_rfl⟩
instance u3 : Und Try.prog 3 (.int .i64) := ⟨by kernel_rfl⟩
instance a3 : Agg Try.prog 3 false := ⟨by kernel_rfl⟩
instance i3 : Inf Try.prog 3 1 8 (.int .i64 0) := ⟨by kernel_rfl⟩
instance u4 : Und Try.prog 4 .bool := ⟨by kernel_rfl⟩
instance a4 : Agg Try.prog 4 false := ⟨by kernel_rfl⟩
instance i4 : Inf Try.prog 4 1 1 (.bool false) := ⟨by kernel_rfl⟩
instance u5 : Und Try.prog 5 (.int .u8) := ⟨by kernel_rfl⟩
instance a5 : Agg Try.prog 5 false := ⟨by kernel_rfl⟩
instance i5 : Inf Try.prog 5 1 1 (.int .u8 0) := ⟨by kernel_rfl⟩
instance u6 : Und Try.prog 6 (.int .u8) := ⟨by kernel_rfl⟩
instance a6 : Agg Try.prog 6 false := ⟨by kernel_rfl⟩
instance i6 : Inf Try.prog 6 1 1 (.int .u8 0) := ⟨by kernel_rfl⟩
instance a7 : Agg Try.prog 7 true := ⟨by kernel_rfl⟩
instance i7 : Inf Try.prog 7 4 24 (.agg #[(.int .i64 0), (.int .i64 0), (.bool false), (.int .u8 0)]) := ⟨by kernel_rfl⟩
instance f7_0 : Fld Try.prog 7 0 0 1 2 := ⟨by kernel_rfl, by kernel_rfl⟩
instance f7_1 : Fld Try.prog 7 1 1 1 3 := ⟨by kernel_rfl, by kernel_rfl⟩
instance f7_2 : Fld Try.prog 7 2 2 1 4 := ⟨by kernel_rfl, by kernel_rfl⟩
instance f7_3 : Fld Try.prog 7 3 3 1 6 := ⟨by kernel_rfl, by kernel_rfl⟩
instance p7 : Plc Try.prog 7 [(0, 1), (1, 1), (2, 1), (3, 1)] := ⟨_, Try.underlying7, fun w => by kernel_rfl⟩
instance a8 : Agg Try.prog 8 true := ⟨by kernel_rfl⟩
instance i8 : Inf Try.prog 8 4 24 (.agg #[(.int .i64 0), (.int .i64 0), (.bool false), (.int .u8 0)]) := ⟨by kernel_rfl⟩
instance f8_0 : Fld Try.prog 8 0 0 1 2 := ⟨by kernel_rfl, by kernel_rfl⟩
instance f8_1 : Fld Try.prog 8 1 1 1 3 := ⟨by kernel_rfl, by kernel_rfl⟩
instance f8_2 : Fld Try.prog 8 2 2 1 4 := ⟨by kernel_rfl, by kernel_rfl⟩
instance f8_3 : Fld Try.prog 8 3 3 1 6 := ⟨by kernel_rfl, by kernel_rfl⟩
instance p8 : Plc Try.prog 8 [(0, 1), (1, 1), (2, 1), (3, 1)] := ⟨_, Try.underlying8, fun w => by kernel_rfl⟩
instance u9 : Und Try.prog 9 .string := ⟨by kernel_rfl⟩
instance a9 : Agg Try.prog 9 false := ⟨by kernel_rfl⟩
instance i9 : Inf Try.prog 9 1 16 (.string ⟨#[]⟩) := ⟨by kernel_rfl⟩
instance u10 : Und Try.prog 10 .string := ⟨by kernel_rfl⟩
instance a10 : Agg Try.prog 10 false := ⟨by kernel_rfl⟩
instance i10 : Inf Try.prog 10 1 16 (.string ⟨#[]⟩) := ⟨by kernel_rfl⟩
instance u11 : Und Try.prog 11 .string := ⟨by kernel_rfl⟩
instance a11 : Agg Try.prog 11 false := ⟨by kernel_rfl⟩
instance i11 : Inf Try.prog 11 1 16 (.string ⟨#[]⟩) := ⟨by kernel_rfl⟩
instance u12 : Und Try.prog 12 (.int .u64) := ⟨by kernel_rfl⟩
instance a12 : Agg Try.prog 12 false := ⟨by kernel_rfl⟩
instance i12 : Inf Try.prog 12 1 8 (.int .u64 0) := ⟨by kernel_rfl⟩
instance a13 : Agg Try.prog 13 true := ⟨by kernel_rfl⟩
instance i13 : Inf Try.prog 13 2 24 (.agg #[(.string ⟨#[]⟩), (.int .u64 0)]) := ⟨by kernel_rfl⟩
instance f13_0 : Fld Try.prog 13 0 0 1 9 := ⟨by kernel_rfl, by kernel_rfl⟩
instance f13_1 : Fld Try.prog 13 1 1 1 12 := ⟨by kernel_rfl, by kernel_rfl⟩
instance p13 : Plc Try.prog 13 [(0, 1), (1, 1)] := ⟨_, Try.underlying13, fun w => by kernel_rfl⟩
instance a14 : Agg Try.prog 14 true := ⟨by kernel_rfl⟩
instance i14 : Inf Try.prog 14 2 24 (.agg #[(.string ⟨#[]⟩), (.int .u64 0)]) := ⟨by kernel_rfl⟩
instance f14_0 : Fld Try.prog 14 0 0 1 9 := ⟨by kernel_rfl, by kernel_rfl⟩
instance f14_1 : Fld Try.prog 14 1 1 1 12 := ⟨by kernel_rfl, by kernel_rfl⟩
instance p14 : Plc Try.prog 14 [(0, 1), (1, 1)] := ⟨_, Try.underlying14, fun w => by kernel_rfl⟩
instance u15 : Und Try.prog 15 (.pointer 43) := ⟨by kernel_rfl⟩
instance a15 : Agg Try.prog 15 false := ⟨by kernel_rfl⟩
instance i15 : Inf Try.prog 15 1 8 (.pointer none) := ⟨by kernel_rfl⟩
instance u16 : Und Try.prog 16 (.pointer 46) := ⟨by kernel_rfl⟩
instance a16 : Agg Try.prog 16 false := ⟨by kernel_rfl⟩
instance i16 : Inf Try.prog 16 1 8 (.pointer none) := ⟨by kernel_rfl⟩
instance u17 : Und Try.prog 17 (.pointer 55) := ⟨by kernel_rfl⟩
instance a17 : Agg Try.prog 17 false := ⟨by kernel_rfl⟩
instance i17 : Inf Try.prog 17 1 8 (.pointer none) := ⟨by kernel_rfl⟩
instance a18 : Agg Try.prog 18 true := ⟨by kernel_rfl⟩
instance i18 : Inf Try.prog 18 1 8 (.agg #[(.pointer none)]) := ⟨by kernel_rfl⟩
instance f18_0 : Fld Try.prog 18 0 0 1 17 := ⟨by kernel_rfl, by kernel_rfl⟩
instance p18 : Plc Try.prog 18 [(0, 1)] := ⟨_, Try.underlying18, fun w => by kernel_rfl⟩
instance a19 : Agg Try.prog 19 true := ⟨by kernel_rfl⟩
instance i19 : Inf Try.prog 19 1 8 (.agg #[(.pointer none)]) := ⟨by kernel_rfl⟩
instance f19_0 : Fld Try.prog 19 0 0 1 17 := ⟨by kernel_rfl, by kernel_rfl⟩
instance p19 : Plc Try.prog 19 [(0, 1)] := ⟨_, Try.underlying19, fun w => by kernel_rfl⟩
instance a20 : Agg Try.prog 20 false := ⟨by kernel_rfl⟩
instance i20 : Inf Try.prog 20 1 16 .nilIface := ⟨by kernel_rfl⟩
instance u21 : Und Try.prog 21 (.int .i32) := ⟨by kernel_rfl⟩
instance a21 : Agg Try.prog 21 false := ⟨by kernel_rfl⟩
instance i21 : Inf Try.prog 21 1 4 (.int .i32 0) := ⟨by kernel_rfl⟩
instance u22 : Und Try.prog 22 (.slice 5) := ⟨by kernel_rfl⟩
instance a22 : Agg Try.prog 22 false := ⟨by kernel_rfl⟩
instance i22 : Inf Try.prog 22 1 24 (.slice none 0 0) := ⟨by kernel_rfl⟩
instance a23 : Agg Try.prog 23 false := ⟨by kernel_rfl⟩
instance i23 : Inf Try.prog 23 1 8 .nilFunc := ⟨by kernel_rfl⟩
instance u24 : Und Try.prog 24 (.pointer 37) := ⟨by kernel_rfl⟩
instance a24 : Agg Try.prog 24 false := ⟨by kernel_rfl⟩
instance i24 : Inf Try.prog 24 1 8 (.pointer none) := ⟨by kernel_rfl⟩
instance a25 : Agg Try.prog 25 false := ⟨by kernel_rfl⟩
instance i25 : Inf Try.prog 25 1 8 .nilFunc := ⟨by kernel_rfl⟩
instance u26 : Und Try.prog 26 (.slice 9) := ⟨by kernel_rfl⟩
instance a26 : Agg Try.prog 26 false := ⟨by kernel_rfl⟩
instance i26 : Inf Try.prog 26 1 24 (.slice none 0 0) := ⟨by kernel_rfl⟩
instance a27 : Agg Try.prog 27 false := ⟨by kernel_rfl⟩
instance i27 : Inf Try.prog 27 1 8 .nilFunc := ⟨by kernel_rfl⟩
instance a28 : Agg Try.prog 28 false := ⟨by kernel_rfl⟩
instance i28 : Inf Try.prog 28 1 8 .nilFunc := ⟨by kernel_rfl⟩
instance u29 : Und Try.prog 29 (.slice 22) := ⟨by kernel_rfl⟩
instance a29 : Agg Try.prog 29 false := ⟨by kernel_rfl⟩
instance i29 : Inf Try.prog 29 1 24 (.slice none 0 0) := ⟨by kernel_rfl⟩
instance a30 : Agg Try.prog 30 false := ⟨by kernel_rfl⟩
instance i30 : Inf Try.prog 30 1 8 .nilFunc := ⟨by kernel_rfl⟩
instance u31 : Und Try.prog 31 (.pointer 33) := ⟨by kernel_rfl⟩
instance a31 : Agg Try.prog 31 false := ⟨by kernel_rfl⟩
instance i31 : Inf Try.prog 31 1 8 (.pointer none) := ⟨by kernel_rfl⟩
instance a32 : Agg Try.prog 32 true := ⟨by kernel_rfl⟩
instance i32 : Inf Try.prog 32 3 32 (.agg #[(.bool false), (.string ⟨#[]⟩), (.int .i64 0)]) := ⟨by kernel_rfl⟩
instance f32_0 : Fld Try.prog 32 0 0 1 4 := ⟨by kernel_rfl, by kernel_rfl⟩
instance f32_1 : Fld Try.prog 32 1 1 1 9 := ⟨by kernel_rfl, by kernel_rfl⟩
instance f32_2 : Fld Try.prog 32 2 2 1 3 := ⟨by kernel_rfl, by kernel_rfl⟩
instance p32 : Plc Try.prog 32 [(0, 1), (1, 1), (2, 1)] := ⟨_, Try.underlying32, fun w => by kernel_rfl⟩
instance a33 : Agg Try.prog 33 true := ⟨by kernel_rfl⟩
instance i33 : Inf Try.prog 33 3 32 (.agg #[(.bool false), (.string ⟨#[]⟩), (.int .i64 0)]) := ⟨by kernel_rfl⟩
instance f33_0 : Fld Try.prog 33 0 0 1 4 := ⟨by kernel_rfl, by kernel_rfl⟩
instance f33_1 : Fld Try.prog 33 1 1 1 9 := ⟨by kernel_rfl, by kernel_rfl⟩
instance f33_2 : Fld Try.prog 33 2 2 1 3 := ⟨by kernel_rfl, by kernel_rfl⟩
instance p33 : Plc Try.prog 33 [(0, 1), (1, 1), (2, 1)] := ⟨_, Try.underlying33, fun w => by kernel_rfl⟩
instance a34 : Agg Try.prog 34 false := ⟨by kernel_rfl⟩
instance i34 : Inf Try.prog 34 1 8 .nilFunc := ⟨by kernel_rfl⟩
instance a35 : Agg Try.prog 35 false := ⟨by kernel_rfl⟩
instance i35 : Inf Try.prog 35 1 8 .nilFunc := ⟨by kernel_rfl⟩
instance a36 : Agg Try.prog 36 true := ⟨by kernel_rfl⟩
instance i36 : Inf Try.prog 36 3 40 (.agg #[(.bool false), (.slice none 0 0), (.int .i64 0)]) := ⟨by kernel_rfl⟩
instance f36_0 : Fld Try.prog 36 0 0 1 4 := ⟨by kernel_rfl, by kernel_rfl⟩
instance f36_1 : Fld Try.prog 36 1 1 1 22 := ⟨by kernel_rfl, by kernel_rfl⟩
instance f36_2 : Fld Try.prog 36 2 2 1 3 := ⟨by kernel_rfl, by kernel_rfl⟩
instance p36 : Plc Try.prog 36 [(0, 1), (1, 1), (2, 1)] := ⟨_, Try.underlying36, fun w => by kernel_rfl⟩
instance a37 : Agg Try.prog 37 true := ⟨by kernel_rfl⟩
instance i37 : Inf Try.prog 37 3 40 (.agg #[(.bool false), (.slice none 0 0), (.int .i64 0)]) := ⟨by kernel_rfl⟩
instance f37_0 : Fld Try.prog 37 0 0 1 4 := ⟨by kernel_rfl, by kernel_rfl⟩
instance f37_1 : Fld Try.prog 37 1 1 1 22 := ⟨by kernel_rfl, by kernel_rfl⟩
instance f37_2 : Fld Try.prog 37 2 2 1 3 := ⟨by kernel_rfl, by kernel_rfl⟩
instance p37 : Plc Try.prog 37 [(0, 1), (1, 1), (2, 1)] := ⟨_, Try.underlying37, fun w => by kernel_rfl⟩
instance a38 : Agg Try.prog 38 false := ⟨by kernel_rfl⟩
instance i38 : Inf Try.prog 38 1 8 .nilFunc := ⟨by kernel_rfl⟩
instance a39 : Agg Try.prog 39 false := ⟨by kernel_rfl⟩
instance i39 : Inf Try.prog 39 1 8 .nilFunc := ⟨by kernel_rfl⟩
instance a40 : Agg Try.prog 40 false := ⟨by kernel_rfl⟩
instance i40 : Inf Try.prog 40 1 8 .nilFunc := ⟨by kernel_rfl⟩
instance a41 : Agg Try.prog 41 false := ⟨by kernel_rfl⟩
instance i41 : Inf Try.prog 41 1 8 .nilFunc := ⟨by kernel_rfl⟩
instance a42 : Agg Try.prog 42 true := ⟨by kernel_rfl⟩
instance i42 : Inf Try.prog 42 4 40 (.agg #[(.pointer none), (.pointer none), (.pointer none), (.string ⟨#[]⟩)]) := ⟨by kernel_rfl⟩
instance f42_0 : Fld Try.prog 42 0 0 1 17 := ⟨by kernel_rfl, by kernel_rfl⟩
instance f42_1 : Fld Try.prog 42 1 1 1 17 := ⟨by kernel_rfl, by kernel_rfl⟩
instance f42_2 : Fld Try.prog 42 2 2 1 17 := ⟨by kernel_rfl, by kernel_rfl⟩
instance f42_3 : Fld Try.prog 42 3 3 1 9 := ⟨by kernel_rfl, by kernel_rfl⟩
instance p42 : Plc Try.prog 42 [(0, 1), (1, 1), (2, 1), (3, 1)] := ⟨_, Try.underlying42, fun w => by kernel_rfl⟩
instance a43 : Agg Try.prog 43 true := ⟨by kernel_rfl⟩
instance i43 : Inf Try.prog 43 4 40 (.agg #[(.pointer none), (.pointer none), (.pointer none), (.string ⟨#[]⟩)]) := ⟨by kernel_rfl⟩
instance f43_0 : Fld Try.prog 43 0 0 1 17 := ⟨by kernel_rfl, by kernel_rfl⟩
instance f43_1 : Fld Try.prog 43 1 1 1 17 := ⟨by kernel_rfl, by kernel_rfl⟩
instance f43_2 : Fld Try.prog 43 2 2 1 17 := ⟨by kernel_rfl, by kernel_rfl⟩
instance f43_3 : Fld Try.prog 43 3 3 1 9 := ⟨by kernel_rfl, by kernel_rfl⟩
instance p43 : Plc Try.prog 43 [(0, 1), (1, 1), (2, 1), (3, 1)] := ⟨_, Try.underlying43, fun w => by kernel_rfl⟩
instance u44 : Und Try.prog 44 (.array 0 16) := ⟨by kernel_rfl⟩
instance a44 : Agg Try.prog 44 true := ⟨by kernel_rfl⟩
instance i44 : Inf Try.prog 44 0 0 (.agg #[]) := ⟨by kernel_rfl⟩
instance a45 : Agg Try.prog 45 true := ⟨by kernel_rfl⟩
instance i45 : Inf Try.prog 45 0 0 (.agg #[]) := ⟨by kernel_rfl⟩
instance f45_0 : Fld Try.prog 45 0 0 0 44 := ⟨by kernel_rfl, by kernel_rfl⟩
instance p45 : Plc Try.prog 45 [(0, 0)] := ⟨_, Try.underlying45, fun w => by kernel_rfl⟩
instance a46 : Agg Try.prog 46 true := ⟨by kernel_rfl⟩
instance i46 : Inf Try.prog 46 0 0 (.agg #[]) := ⟨by kernel_rfl⟩
instance f46_0 : Fld Try.prog 46 0 0 0 44 := ⟨by kernel_rfl, by kernel_rfl⟩
instance p46 : Plc Try.prog 46 [(0, 0)] := ⟨_, Try.underlying46, fun w => by kernel_rfl⟩
instance u47 : Und Try.prog 47 (.int .u32) := ⟨by kernel_rfl⟩
instance a47 : Agg Try.prog 47 false := ⟨by kernel_rfl⟩
instance i47 : Inf Try.prog 47 1 4 (.int .u32 0) := ⟨by kernel_rfl⟩
instance u48 : Und Try.prog 48 (.int .u8) := ⟨by kernel_rfl⟩
instance a48 : Agg Try.prog 48 false := ⟨by kernel_rfl⟩
instance i48 : Inf Try.prog 48 1 1 (.int .u8 0) := ⟨by kernel_rfl⟩
instance u49 : Und Try.prog 49 (.int .u8) := ⟨by kernel_rfl⟩
instance a49 : Agg Try.prog 49 false := ⟨by kernel_rfl⟩
instance i49 : Inf Try.prog 49 1 1 (.int .u8 0) := ⟨by kernel_rfl⟩
instance a50 : Agg Try.prog 50 false := ⟨by kernel_rfl⟩
instance i50 : Inf Try.prog 50 1 8 .nilFunc := ⟨by kernel_rfl⟩
instance u51 : Und Try.prog 51 (.pointer 5) := ⟨by kernel_rfl⟩
instance a51 : Agg Try.prog 51 false := ⟨by kernel_rfl⟩
instance i51 : Inf Try.prog 51 1 8 (.pointer none) := ⟨by kernel_rfl⟩
instance u52 : Und Try.prog 52 (.int .i32) := ⟨by kernel_rfl⟩
instance a52 : Agg Try.prog 52 false := ⟨by kernel_rfl⟩
instance i52 : Inf Try.prog 52 1 4 (.int .i32 0) := ⟨by kernel_rfl⟩
instance u53 : Und Try.prog 53 (.int .i32) := ⟨by kernel_rfl⟩
instance a53 : Agg Try.prog 53 false := ⟨by kernel_rfl⟩
instance i53 : Inf Try.prog 53 1 4 (.int .i32 0) := ⟨by kernel_rfl⟩
instance a54 : Agg Try.prog 54 true := ⟨by kernel_rfl⟩
instance i54 : Inf Try.prog 54 11 48 (.agg #[(.int .u64 0), (.int .u64 0), (.int .u32 0), (.int .u8 0), (.int .u8 0), (.int .u8 0), (.int .u8 0), .nilFunc, (.pointer none), (.int .i32 0), (.int .i32 0)]) := ⟨by kernel_rfl⟩
instance f54_0 : Fld Try.prog 54 0 0 1 12 := ⟨by kernel_rfl, by kernel_rfl⟩
instance f54_1 : Fld Try.prog 54 1 1 1 12 := ⟨by kernel_rfl, by kernel_rfl⟩
instance f54_2 : Fld Try.prog 54 2 2 1 47 := ⟨by kernel_rfl, by kernel_rfl⟩
instance f54_3 : Fld Try.prog 54 3 3 1 48 := ⟨by kernel_rfl, by kernel_rfl⟩
instance f54_4 : Fld Try.prog 54 4 4 1 5 := ⟨by kernel_rfl, by kernel_rfl⟩
instance f54_5 : Fld Try.prog 54 5 5 1 5 := ⟨by kernel_rfl, by kernel_rfl⟩
instance f54_6 : Fld Try.prog 54 6 6 1 49 := ⟨by kernel_rfl, by kernel_rfl⟩
instance f54_7 : Fld Try.prog 54 7 7 1 50 := ⟨by kernel_rfl, by kernel_rfl⟩
instance f54_8 : Fld Try.prog 54 8 8 1 51 := ⟨by kernel_rfl, by kernel_rfl⟩
instance f54_9 : Fld Try.prog 54 9 9 1 52 := ⟨by kernel_rfl, by kernel_rfl⟩
instance f54_10 : Fld Try.prog 54 10 10 1 53 := ⟨by kernel_rfl, by kernel_rfl⟩
instance p54 : Plc Try.prog 54 [(0, 1), (1, 1), (2, 1), (3, 1), (4, 1), (5, 1), (6, 1), (7, 1), (8, 1), (9, 1), (10, 1)] := ⟨_, Try.underlying54, fun w => by kernel_rfl⟩
instance a55 : Agg Try.prog 55 true := ⟨by kernel_rfl⟩
instance i55 : Inf Try.prog 55 11 48 (.agg #[(.int .u64 0), (.int .u64 0), (.int .u32 0), (.int .u8 0), (.int .u8 0), (.int .u8 0), (.int .u8 0), .nilFunc, (.pointer none), (.int .i32 0), (.int .i32 0)]) := ⟨by kernel_rfl⟩
instance f55_0 : Fld Try.prog 55 0 0 1 12 := ⟨by kernel_rfl, by kernel_rfl⟩
instance f55_1 : Fld Try.prog 55 1 1 1 12 := ⟨by kernel_rfl, by kernel_rfl⟩
instance f55_2 : Fld Try.prog 55 2 2 1 47 := ⟨by kernel_rfl, by kernel_rfl⟩
instance f55_3 : Fld Try.prog 55 3 3 1 48 := ⟨by kernel_rfl, by kernel_rfl⟩
instance f55_4 : Fld Try.prog 55 4 4 1 5 := ⟨by kernel_rfl, by kernel_rfl⟩
instance f55_5 : Fld Try.prog 55 5 5 1 5 := ⟨by kernel_rfl, by kernel_rfl⟩
instance f55_6 : Fld Try.prog 55 6 6 1 49 := ⟨by kernel_rfl, by kernel_rfl⟩
instance f55_7 : Fld Try.prog 55 7 7 1 50 := ⟨by kernel_rfl, by kernel_rfl⟩
instance f55_8 : Fld Try.prog 55 8 8 1 51 := ⟨by kernel_rfl, by kernel_rfl⟩
instance f55_9 : Fld Try.prog 55 9 9 1 52 := ⟨by kernel_rfl, by kernel_rfl⟩
instance f55_10 : Fld Try.prog 55 10 10 1 53 := ⟨by kernel_rfl, by kernel_rfl⟩
instance p55 : Plc Try.prog 55 [(0, 1), (1, 1), (2, 1), (3, 1), (4, 1), (5, 1), (6, 1), (7, 1), (8, 1), (9, 1), (10, 1)] := ⟨_, Try.underlying55, fun w => by kernel_rfl⟩
instance a56 : Agg Try.prog 56 false := ⟨by kernel_rfl⟩
instance i56 : Inf Try.prog 56 1 8 (.pointer none) := ⟨by kernel_rfl⟩
instance c3 : Callable Try.prog 3 := callable_of Try.func3 (by kernel_rfl) rfl
instance c4 : Callable Try.prog 4 := callable_of Try.func4 (by kernel_rfl) rfl
instance c5 : Callable Try.prog 5 := callable_of Try.func5 (by kernel_rfl) rfl
instance c6 : Callable Try.prog 6 := callable_of Try.func6 (by kernel_rfl) rfl
instance c7 : Callable Try.prog 7 := callable_of Try.func7 (by kernel_rfl) rfl
instance c8 : Callable Try.prog 8 := callable_of Try.func8 (by kernel_rfl) rfl
instance c9 : Callable Try.prog 9 := callable_of Try.func9 (by kernel_rfl) rfl
instance c10 : Callable Try.prog 10 := callable_of Try.func10 (by kernel_rfl) rfl
instance c11 : Callable Try.prog 11 := callable_of Try.func11 (by kernel_rfl) rfl
instance c12 : Callable Try.prog 12 := callable_of Try.func12 (by kernel_rfl) rfl
instance c13 : Callable Try.prog 13 := callable_of Try.func13 (by kernel_rfl) rfl
instance c14 : Callable Try.prog 14 := callable_of Try.func14 (by kernel_rfl) rfl
instance c15 : Callable Try.prog 15 := callable_of Try.func15 (by kernel_rfl) rfl
instance c16 : Callable Try.prog 16 := callable_of Try.func16 (by kernel_rfl) rfl
instance c17 : Callable Try.prog 17 := callable_of Try.func17 (by kernel_rfl) rfl
end Go.Proofs.Ytndjfjpljigcmaa.Sx
