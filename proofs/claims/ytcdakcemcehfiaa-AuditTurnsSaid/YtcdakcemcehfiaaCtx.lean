/- Printed by wip/tools/ctx.py off the translation: the types that the walks ask for, held against the program by the kernel. -/
import Derived.Test.YtcdakcemcehfiaaProg
import Derived.Test.YtcdakcemcehfiaaSxd
namespace Go.Proofs.Ytcdakcemcehfiaa
open Go
set_option maxRecDepth 100000

def ty1 : TyE := ⟨.func #[] #[] false, 1, 8, [.nilFunc], false⟩
theorem ty1_ok : TyOk Try.prog 1 ty1 := ⟨by kernel_rfl, by kernel_rfl, rfl, rfl, by decide, by kernel_rfl, by kernel_rfl⟩
def ty2 : TyE := ⟨.int .i64, 1, 8, [.int .i64 0], false⟩
theorem ty2_ok : TyOk Try.prog 2 ty2 := ⟨by kernel_rfl, by kernel_rfl, rfl, rfl, by decide, by kernel_rfl, by kernel_rfl⟩
def ty3 : TyE := ⟨.int .i64, 1, 8, [.int .i64 0], false⟩
theorem ty3_ok : TyOk Try.prog 3 ty3 := ⟨by kernel_rfl, by kernel_rfl, rfl, rfl, by decide, by kernel_rfl, by kernel_rfl⟩
def ty4 : TyE := ⟨.bool, 1, 1, [.bool false], false⟩
theorem ty4_ok : TyOk Try.prog 4 ty4 := ⟨by kernel_rfl, by kernel_rfl, rfl, rfl, by decide, by kernel_rfl, by kernel_rfl⟩
def ty5 : TyE := ⟨.int .u8, 1, 1, [.int .u8 0], false⟩
theorem ty5_ok : TyOk Try.prog 5 ty5 := ⟨by kernel_rfl, by kernel_rfl, rfl, rfl, by decide, by kernel_rfl, by kernel_rfl⟩
def ty9 : TyE := ⟨.string, 1, 16, [.string ⟨#[]⟩], false⟩
theorem ty9_ok : TyOk Try.prog 9 ty9 := ⟨by kernel_rfl, by kernel_rfl, rfl, rfl, by decide, by kernel_rfl, by kernel_rfl⟩
def ty12 : TyE := ⟨.int .u64, 1, 8, [.int .u64 0], false⟩
theorem ty12_ok : TyOk Try.prog 12 ty12 := ⟨by kernel_rfl, by kernel_rfl, rfl, rfl, by decide, by kernel_rfl, by kernel_rfl⟩
def ty21 : TyE := ⟨.int .i32, 1, 4, [.int .i32 0], false⟩
theorem ty21_ok : TyOk Try.prog 21 ty21 := ⟨by kernel_rfl, by kernel_rfl, rfl, rfl, by decide, by kernel_rfl, by kernel_rfl⟩
def ty22 : TyE := ⟨.slice 52, 1, 24, [.slice none 0 0], false⟩
theorem ty22_ok : TyOk Try.prog 22 ty22 := ⟨by kernel_rfl, by kernel_rfl, rfl, rfl, by decide, by kernel_rfl, by kernel_rfl⟩
def ty23 : TyE := ⟨.slice 55, 1, 24, [.slice none 0 0], false⟩
theorem ty23_ok : TyOk Try.prog 23 ty23 := ⟨by kernel_rfl, by kernel_rfl, rfl, rfl, by decide, by kernel_rfl, by kernel_rfl⟩
def ty24 : TyE := ⟨.struct #[{ name := "Vertices", type := 22, offset := 0, embedded := false, tag := "", pkgPath := "", byteOffset := 0 }, { name := "Edges", type := 23, offset := 1, embedded := false, tag := "", pkgPath := "", byteOffset := 24 }], 2, 48, [.slice none 0 0, .slice none 0 0], true⟩
theorem ty24_ok : TyOk Try.prog 24 ty24 := ⟨by kernel_rfl, by kernel_rfl, rfl, rfl, by decide, by kernel_rfl, by kernel_rfl⟩
def ty25 : TyE := ⟨.struct #[{ name := "Vertices", type := 22, offset := 0, embedded := false, tag := "", pkgPath := "", byteOffset := 0 }, { name := "Edges", type := 23, offset := 1, embedded := false, tag := "", pkgPath := "", byteOffset := 24 }], 2, 48, [.slice none 0 0, .slice none 0 0], true⟩
theorem ty25_ok : TyOk Try.prog 25 ty25 := ⟨by kernel_rfl, by kernel_rfl, rfl, rfl, by decide, by kernel_rfl, by kernel_rfl⟩
def ty26 : TyE := ⟨.func #[] #[4] false, 1, 8, [.nilFunc], false⟩
theorem ty26_ok : TyOk Try.prog 26 ty26 := ⟨by kernel_rfl, by kernel_rfl, rfl, rfl, by decide, by kernel_rfl, by kernel_rfl⟩
def ty27 : TyE := ⟨.func #[25] #[4] false, 1, 8, [.nilFunc], false⟩
theorem ty27_ok : TyOk Try.prog 27 ty27 := ⟨by kernel_rfl, by kernel_rfl, rfl, rfl, by decide, by kernel_rfl, by kernel_rfl⟩
def ty28 : TyE := ⟨.slice 78, 1, 24, [.slice none 0 0], false⟩
theorem ty28_ok : TyOk Try.prog 28 ty28 := ⟨by kernel_rfl, by kernel_rfl, rfl, rfl, by decide, by kernel_rfl, by kernel_rfl⟩
def ty29 : TyE := ⟨.slice 44, 1, 24, [.slice none 0 0], false⟩
theorem ty29_ok : TyOk Try.prog 29 ty29 := ⟨by kernel_rfl, by kernel_rfl, rfl, rfl, by decide, by kernel_rfl, by kernel_rfl⟩
def ty30 : TyE := ⟨.slice 46, 1, 24, [.slice none 0 0], false⟩
theorem ty30_ok : TyOk Try.prog 30 ty30 := ⟨by kernel_rfl, by kernel_rfl, rfl, rfl, by decide, by kernel_rfl, by kernel_rfl⟩
def ty31 : TyE := ⟨.struct #[{ name := "LastVertex", type := 3, offset := 0, embedded := false, tag := "", pkgPath := "", byteOffset := 0 }, { name := "LastEdge", type := 3, offset := 1, embedded := false, tag := "", pkgPath := "", byteOffset := 8 }, { name := "LastFace", type := 3, offset := 2, embedded := false, tag := "", pkgPath := "", byteOffset := 16 }, { name := "Vertices", type := 28, offset := 3, embedded := false, tag := "", pkgPath := "", byteOffset := 24 }, { name := "Edges", type := 29, offset := 4, embedded := false, tag := "", pkgPath := "", byteOffset := 48 }, { name := "Faces", type := 30, offset := 5, embedded := false, tag := "", pkgPath := "", byteOffset := 72 }], 6, 96, [.int .i64 0, .int .i64 0, .int .i64 0, .slice none 0 0, .slice none 0 0, .slice none 0 0], true⟩
theorem ty31_ok : TyOk Try.prog 31 ty31 := ⟨by kernel_rfl, by kernel_rfl, rfl, rfl, by decide, by kernel_rfl, by kernel_rfl⟩
def ty32 : TyE := ⟨.struct #[{ name := "LastVertex", type := 3, offset := 0, embedded := false, tag := "", pkgPath := "", byteOffset := 0 }, { name := "LastEdge", type := 3, offset := 1, embedded := false, tag := "", pkgPath := "", byteOffset := 8 }, { name := "LastFace", type := 3, offset := 2, embedded := false, tag := "", pkgPath := "", byteOffset := 16 }, { name := "Vertices", type := 28, offset := 3, embedded := false, tag := "", pkgPath := "", byteOffset := 24 }, { name := "Edges", type := 29, offset := 4, embedded := false, tag := "", pkgPath := "", byteOffset := 48 }, { name := "Faces", type := 30, offset := 5, embedded := false, tag := "", pkgPath := "", byteOffset := 72 }], 6, 96, [.int .i64 0, .int .i64 0, .int .i64 0, .slice none 0 0, .slice none 0 0, .slice none 0 0], true⟩
theorem ty32_ok : TyOk Try.prog 32 ty32 := ⟨by kernel_rfl, by kernel_rfl, rfl, rfl, by decide, by kernel_rfl, by kernel_rfl⟩
def ty33 : TyE := ⟨.int .i64, 1, 8, [.int .i64 0], false⟩
theorem ty33_ok : TyOk Try.prog 33 ty33 := ⟨by kernel_rfl, by kernel_rfl, rfl, rfl, by decide, by kernel_rfl, by kernel_rfl⟩
def ty35 : TyE := ⟨.func #[36, 61] #[32, 33] false, 1, 8, [.nilFunc], false⟩
theorem ty35_ok : TyOk Try.prog 35 ty35 := ⟨by kernel_rfl, by kernel_rfl, rfl, rfl, by decide, by kernel_rfl, by kernel_rfl⟩
def ty36 : TyE := ⟨.struct #[{ name := "Vertices", type := 22, offset := 0, embedded := false, tag := "", pkgPath := "", byteOffset := 0 }, { name := "Edges", type := 23, offset := 1, embedded := false, tag := "", pkgPath := "", byteOffset := 24 }], 2, 48, [.slice none 0 0, .slice none 0 0], true⟩
theorem ty36_ok : TyOk Try.prog 36 ty36 := ⟨by kernel_rfl, by kernel_rfl, rfl, rfl, by decide, by kernel_rfl, by kernel_rfl⟩
def ty37 : TyE := ⟨.int .u64, 1, 8, [.int .u64 0], false⟩
theorem ty37_ok : TyOk Try.prog 37 ty37 := ⟨by kernel_rfl, by kernel_rfl, rfl, rfl, by decide, by kernel_rfl, by kernel_rfl⟩
def ty38 : TyE := ⟨.pointer 44, 1, 8, [.pointer none], false⟩
theorem ty38_ok : TyOk Try.prog 38 ty38 := ⟨by kernel_rfl, by kernel_rfl, rfl, rfl, by decide, by kernel_rfl, by kernel_rfl⟩
def ty39 : TyE := ⟨.struct #[{ name := "Edge", type := 3, offset := 0, embedded := false, tag := "", pkgPath := "", byteOffset := 0 }, { name := "Back", type := 4, offset := 1, embedded := false, tag := "", pkgPath := "", byteOffset := 8 }], 2, 16, [.int .i64 0, .bool false], true⟩
theorem ty39_ok : TyOk Try.prog 39 ty39 := ⟨by kernel_rfl, by kernel_rfl, rfl, rfl, by decide, by kernel_rfl, by kernel_rfl⟩
def ty40 : TyE := ⟨.struct #[{ name := "Edge", type := 3, offset := 0, embedded := false, tag := "", pkgPath := "", byteOffset := 0 }, { name := "Back", type := 4, offset := 1, embedded := false, tag := "", pkgPath := "", byteOffset := 8 }], 2, 16, [.int .i64 0, .bool false], true⟩
theorem ty40_ok : TyOk Try.prog 40 ty40 := ⟨by kernel_rfl, by kernel_rfl, rfl, rfl, by decide, by kernel_rfl, by kernel_rfl⟩
def ty41 : TyE := ⟨.array 2 40, 4, 32, [.int .i64 0, .bool false, .int .i64 0, .bool false], true⟩
theorem ty41_ok : TyOk Try.prog 41 ty41 := ⟨by kernel_rfl, by kernel_rfl, rfl, rfl, by decide, by kernel_rfl, by kernel_rfl⟩
def ty42 : TyE := ⟨.array 2 3, 2, 16, [.int .i64 0, .int .i64 0], true⟩
theorem ty42_ok : TyOk Try.prog 42 ty42 := ⟨by kernel_rfl, by kernel_rfl, rfl, rfl, by decide, by kernel_rfl, by kernel_rfl⟩
def ty43 : TyE := ⟨.struct #[{ name := "Id", type := 3, offset := 0, embedded := false, tag := "", pkgPath := "", byteOffset := 0 }, { name := "A", type := 3, offset := 1, embedded := false, tag := "", pkgPath := "", byteOffset := 8 }, { name := "B", type := 3, offset := 2, embedded := false, tag := "", pkgPath := "", byteOffset := 16 }, { name := "Next", type := 41, offset := 3, embedded := false, tag := "", pkgPath := "", byteOffset := 24 }, { name := "Prev", type := 41, offset := 7, embedded := false, tag := "", pkgPath := "", byteOffset := 56 }, { name := "Face", type := 42, offset := 11, embedded := false, tag := "", pkgPath := "", byteOffset := 88 }], 13, 104, [.int .i64 0, .int .i64 0, .int .i64 0, .int .i64 0, .bool false, .int .i64 0, .bool false, .int .i64 0, .bool false, .int .i64 0, .bool false, .int .i64 0, .int .i64 0], true⟩
theorem ty43_ok : TyOk Try.prog 43 ty43 := ⟨by kernel_rfl, by kernel_rfl, rfl, rfl, by decide, by kernel_rfl, by kernel_rfl⟩
def ty44 : TyE := ⟨.struct #[{ name := "Id", type := 3, offset := 0, embedded := false, tag := "", pkgPath := "", byteOffset := 0 }, { name := "A", type := 3, offset := 1, embedded := false, tag := "", pkgPath := "", byteOffset := 8 }, { name := "B", type := 3, offset := 2, embedded := false, tag := "", pkgPath := "", byteOffset := 16 }, { name := "Next", type := 41, offset := 3, embedded := false, tag := "", pkgPath := "", byteOffset := 24 }, { name := "Prev", type := 41, offset := 7, embedded := false, tag := "", pkgPath := "", byteOffset := 56 }, { name := "Face", type := 42, offset := 11, embedded := false, tag := "", pkgPath := "", byteOffset := 88 }], 13, 104, [.int .i64 0, .int .i64 0, .int .i64 0, .int .i64 0, .bool false, .int .i64 0, .bool false, .int .i64 0, .bool false, .int .i64 0, .bool false, .int .i64 0, .int .i64 0], true⟩
theorem ty44_ok : TyOk Try.prog 44 ty44 := ⟨by kernel_rfl, by kernel_rfl, rfl, rfl, by decide, by kernel_rfl, by kernel_rfl⟩
def ty45 : TyE := ⟨.struct #[{ name := "Id", type := 3, offset := 0, embedded := false, tag := "", pkgPath := "", byteOffset := 0 }, { name := "Attr", type := 3, offset := 1, embedded := false, tag := "", pkgPath := "", byteOffset := 8 }], 2, 16, [.int .i64 0, .int .i64 0], true⟩
theorem ty45_ok : TyOk Try.prog 45 ty45 := ⟨by kernel_rfl, by kernel_rfl, rfl, rfl, by decide, by kernel_rfl, by kernel_rfl⟩
def ty46 : TyE := ⟨.struct #[{ name := "Id", type := 3, offset := 0, embedded := false, tag := "", pkgPath := "", byteOffset := 0 }, { name := "Attr", type := 3, offset := 1, embedded := false, tag := "", pkgPath := "", byteOffset := 8 }], 2, 16, [.int .i64 0, .int .i64 0], true⟩
theorem ty46_ok : TyOk Try.prog 46 ty46 := ⟨by kernel_rfl, by kernel_rfl, rfl, rfl, by decide, by kernel_rfl, by kernel_rfl⟩
def ty47 : TyE := ⟨.func #[32] #[33] false, 1, 8, [.nilFunc], false⟩
theorem ty47_ok : TyOk Try.prog 47 ty47 := ⟨by kernel_rfl, by kernel_rfl, rfl, rfl, by decide, by kernel_rfl, by kernel_rfl⟩
def ty48 : TyE := ⟨.func #[25, 5, 3, 3] #[4] false, 1, 8, [.nilFunc], false⟩
theorem ty48_ok : TyOk Try.prog 48 ty48 := ⟨by kernel_rfl, by kernel_rfl, rfl, rfl, by decide, by kernel_rfl, by kernel_rfl⟩
def ty49 : TyE := ⟨.struct #[{ name := "X", type := 3, offset := 0, embedded := false, tag := "", pkgPath := "", byteOffset := 0 }, { name := "Y", type := 3, offset := 1, embedded := false, tag := "", pkgPath := "", byteOffset := 8 }], 2, 16, [.int .i64 0, .int .i64 0], true⟩
theorem ty49_ok : TyOk Try.prog 49 ty49 := ⟨by kernel_rfl, by kernel_rfl, rfl, rfl, by decide, by kernel_rfl, by kernel_rfl⟩
def ty50 : TyE := ⟨.struct #[{ name := "X", type := 3, offset := 0, embedded := false, tag := "", pkgPath := "", byteOffset := 0 }, { name := "Y", type := 3, offset := 1, embedded := false, tag := "", pkgPath := "", byteOffset := 8 }], 2, 16, [.int .i64 0, .int .i64 0], true⟩
theorem ty50_ok : TyOk Try.prog 50 ty50 := ⟨by kernel_rfl, by kernel_rfl, rfl, rfl, by decide, by kernel_rfl, by kernel_rfl⟩
def ty51 : TyE := ⟨.struct #[{ name := "Id", type := 3, offset := 0, embedded := false, tag := "", pkgPath := "", byteOffset := 0 }, { name := "At", type := 50, offset := 1, embedded := false, tag := "", pkgPath := "", byteOffset := 8 }], 3, 24, [.int .i64 0, .int .i64 0, .int .i64 0], true⟩
theorem ty51_ok : TyOk Try.prog 51 ty51 := ⟨by kernel_rfl, by kernel_rfl, rfl, rfl, by decide, by kernel_rfl, by kernel_rfl⟩
def ty52 : TyE := ⟨.struct #[{ name := "Id", type := 3, offset := 0, embedded := false, tag := "", pkgPath := "", byteOffset := 0 }, { name := "At", type := 50, offset := 1, embedded := false, tag := "", pkgPath := "", byteOffset := 8 }], 3, 24, [.int .i64 0, .int .i64 0, .int .i64 0], true⟩
theorem ty52_ok : TyOk Try.prog 52 ty52 := ⟨by kernel_rfl, by kernel_rfl, rfl, rfl, by decide, by kernel_rfl, by kernel_rfl⟩
def ty53 : TyE := ⟨.func #[50] #[4] false, 1, 8, [.nilFunc], false⟩
theorem ty53_ok : TyOk Try.prog 53 ty53 := ⟨by kernel_rfl, by kernel_rfl, rfl, rfl, by decide, by kernel_rfl, by kernel_rfl⟩
def ty54 : TyE := ⟨.struct #[{ name := "Id", type := 3, offset := 0, embedded := false, tag := "", pkgPath := "", byteOffset := 0 }, { name := "A", type := 3, offset := 1, embedded := false, tag := "", pkgPath := "", byteOffset := 8 }, { name := "B", type := 3, offset := 2, embedded := false, tag := "", pkgPath := "", byteOffset := 16 }], 3, 24, [.int .i64 0, .int .i64 0, .int .i64 0], true⟩
theorem ty54_ok : TyOk Try.prog 54 ty54 := ⟨by kernel_rfl, by kernel_rfl, rfl, rfl, by decide, by kernel_rfl, by kernel_rfl⟩
def ty55 : TyE := ⟨.struct #[{ name := "Id", type := 3, offset := 0, embedded := false, tag := "", pkgPath := "", byteOffset := 0 }, { name := "A", type := 3, offset := 1, embedded := false, tag := "", pkgPath := "", byteOffset := 8 }, { name := "B", type := 3, offset := 2, embedded := false, tag := "", pkgPath := "", byteOffset := 16 }], 3, 24, [.int .i64 0, .int .i64 0, .int .i64 0], true⟩
theorem ty55_ok : TyOk Try.prog 55 ty55 := ⟨by kernel_rfl, by kernel_rfl, rfl, rfl, by decide, by kernel_rfl, by kernel_rfl⟩
def ty56 : TyE := ⟨.func #[3] #[3] false, 1, 8, [.nilFunc], false⟩
theorem ty56_ok : TyOk Try.prog 56 ty56 := ⟨by kernel_rfl, by kernel_rfl, rfl, rfl, by decide, by kernel_rfl, by kernel_rfl⟩
def ty57 : TyE := ⟨.func #[3, 3] #[4] false, 1, 8, [.nilFunc], false⟩
theorem ty57_ok : TyOk Try.prog 57 ty57 := ⟨by kernel_rfl, by kernel_rfl, rfl, rfl, by decide, by kernel_rfl, by kernel_rfl⟩
def ty58 : TyE := ⟨.func #[50, 50] #[4] false, 1, 8, [.nilFunc], false⟩
theorem ty58_ok : TyOk Try.prog 58 ty58 := ⟨by kernel_rfl, by kernel_rfl, rfl, rfl, by decide, by kernel_rfl, by kernel_rfl⟩
def ty59 : TyE := ⟨.func #[3] #[50] false, 1, 8, [.nilFunc], false⟩
theorem ty59_ok : TyOk Try.prog 59 ty59 := ⟨by kernel_rfl, by kernel_rfl, rfl, rfl, by decide, by kernel_rfl, by kernel_rfl⟩
def ty60 : TyE := ⟨.func #[50, 50, 3] #[4] false, 1, 8, [.nilFunc], false⟩
theorem ty60_ok : TyOk Try.prog 60 ty60 := ⟨by kernel_rfl, by kernel_rfl, rfl, rfl, by decide, by kernel_rfl, by kernel_rfl⟩
def ty61 : TyE := ⟨.slice 3, 1, 24, [.slice none 0 0], false⟩
theorem ty61_ok : TyOk Try.prog 61 ty61 := ⟨by kernel_rfl, by kernel_rfl, rfl, rfl, by decide, by kernel_rfl, by kernel_rfl⟩
def ty62 : TyE := ⟨.func #[36] #[4] false, 1, 8, [.nilFunc], false⟩
theorem ty62_ok : TyOk Try.prog 62 ty62 := ⟨by kernel_rfl, by kernel_rfl, rfl, rfl, by decide, by kernel_rfl, by kernel_rfl⟩
def ty63 : TyE := ⟨.func #[61, 64] #[4] false, 1, 8, [.nilFunc], false⟩
theorem ty63_ok : TyOk Try.prog 63 ty63 := ⟨by kernel_rfl, by kernel_rfl, rfl, rfl, by decide, by kernel_rfl, by kernel_rfl⟩
def ty64 : TyE := ⟨.func #[3] #[4] false, 1, 8, [.nilFunc], false⟩
theorem ty64_ok : TyOk Try.prog 64 ty64 := ⟨by kernel_rfl, by kernel_rfl, rfl, rfl, by decide, by kernel_rfl, by kernel_rfl⟩
def ty65 : TyE := ⟨.map 40 40, 1, 8, [.map none], false⟩
theorem ty65_ok : TyOk Try.prog 65 ty65 := ⟨by kernel_rfl, by kernel_rfl, rfl, rfl, by decide, by kernel_rfl, by kernel_rfl⟩
def ty67 : TyE := ⟨.func #[36] #[65, 65] false, 1, 8, [.nilFunc], false⟩
theorem ty67_ok : TyOk Try.prog 67 ty67 := ⟨by kernel_rfl, by kernel_rfl, rfl, rfl, by decide, by kernel_rfl, by kernel_rfl⟩
def ty68 : TyE := ⟨.map 40 3, 1, 8, [.map none], false⟩
theorem ty68_ok : TyOk Try.prog 68 ty68 := ⟨by kernel_rfl, by kernel_rfl, rfl, rfl, by decide, by kernel_rfl, by kernel_rfl⟩
def ty69 : TyE := ⟨.map 3 3, 1, 8, [.map none], false⟩
theorem ty69_ok : TyOk Try.prog 69 ty69 := ⟨by kernel_rfl, by kernel_rfl, rfl, rfl, by decide, by kernel_rfl, by kernel_rfl⟩
def ty70 : TyE := ⟨.slice 75, 1, 24, [.slice none 0 0], false⟩
theorem ty70_ok : TyOk Try.prog 70 ty70 := ⟨by kernel_rfl, by kernel_rfl, rfl, rfl, by decide, by kernel_rfl, by kernel_rfl⟩
def ty71 : TyE := ⟨.func #[36] #[70] false, 1, 8, [.nilFunc], false⟩
theorem ty71_ok : TyOk Try.prog 71 ty71 := ⟨by kernel_rfl, by kernel_rfl, rfl, rfl, by decide, by kernel_rfl, by kernel_rfl⟩
def ty72 : TyE := ⟨.slice 40, 1, 24, [.slice none 0 0], false⟩
theorem ty72_ok : TyOk Try.prog 72 ty72 := ⟨by kernel_rfl, by kernel_rfl, rfl, rfl, by decide, by kernel_rfl, by kernel_rfl⟩
def ty73 : TyE := ⟨.slice 72, 1, 24, [.slice none 0 0], false⟩
theorem ty73_ok : TyOk Try.prog 73 ty73 := ⟨by kernel_rfl, by kernel_rfl, rfl, rfl, by decide, by kernel_rfl, by kernel_rfl⟩
def ty74 : TyE := ⟨.struct #[{ name := "Outer", type := 72, offset := 0, embedded := false, tag := "", pkgPath := "", byteOffset := 0 }, { name := "Inner", type := 73, offset := 1, embedded := false, tag := "", pkgPath := "", byteOffset := 24 }, { name := "Alone", type := 61, offset := 2, embedded := false, tag := "", pkgPath := "", byteOffset := 48 }], 3, 72, [.slice none 0 0, .slice none 0 0, .slice none 0 0], true⟩
theorem ty74_ok : TyOk Try.prog 74 ty74 := ⟨by kernel_rfl, by kernel_rfl, rfl, rfl, by decide, by kernel_rfl, by kernel_rfl⟩
def ty75 : TyE := ⟨.struct #[{ name := "Outer", type := 72, offset := 0, embedded := false, tag := "", pkgPath := "", byteOffset := 0 }, { name := "Inner", type := 73, offset := 1, embedded := false, tag := "", pkgPath := "", byteOffset := 24 }, { name := "Alone", type := 61, offset := 2, embedded := false, tag := "", pkgPath := "", byteOffset := 48 }], 3, 72, [.slice none 0 0, .slice none 0 0, .slice none 0 0], true⟩
theorem ty75_ok : TyOk Try.prog 75 ty75 := ⟨by kernel_rfl, by kernel_rfl, rfl, rfl, by decide, by kernel_rfl, by kernel_rfl⟩
def ty77 : TyE := ⟨.struct #[{ name := "Id", type := 3, offset := 0, embedded := false, tag := "", pkgPath := "", byteOffset := 0 }, { name := "At", type := 50, offset := 1, embedded := false, tag := "", pkgPath := "", byteOffset := 8 }, { name := "Face", type := 3, offset := 3, embedded := false, tag := "", pkgPath := "", byteOffset := 24 }], 4, 32, [.int .i64 0, .int .i64 0, .int .i64 0, .int .i64 0], true⟩
theorem ty77_ok : TyOk Try.prog 77 ty77 := ⟨by kernel_rfl, by kernel_rfl, rfl, rfl, by decide, by kernel_rfl, by kernel_rfl⟩
def ty78 : TyE := ⟨.struct #[{ name := "Id", type := 3, offset := 0, embedded := false, tag := "", pkgPath := "", byteOffset := 0 }, { name := "At", type := 50, offset := 1, embedded := false, tag := "", pkgPath := "", byteOffset := 8 }, { name := "Face", type := 3, offset := 3, embedded := false, tag := "", pkgPath := "", byteOffset := 24 }], 4, 32, [.int .i64 0, .int .i64 0, .int .i64 0, .int .i64 0], true⟩
theorem ty78_ok : TyOk Try.prog 78 ty78 := ⟨by kernel_rfl, by kernel_rfl, rfl, rfl, by decide, by kernel_rfl, by kernel_rfl⟩
def ty79 : TyE := ⟨.slice 4, 1, 24, [.slice none 0 0], false⟩
theorem ty79_ok : TyOk Try.prog 79 ty79 := ⟨by kernel_rfl, by kernel_rfl, rfl, rfl, by decide, by kernel_rfl, by kernel_rfl⟩
def ty80 : TyE := ⟨.func #[40] #[3] false, 1, 8, [.nilFunc], false⟩
theorem ty80_ok : TyOk Try.prog 80 ty80 := ⟨by kernel_rfl, by kernel_rfl, rfl, rfl, by decide, by kernel_rfl, by kernel_rfl⟩
def ty81 : TyE := ⟨.func #[32] #[36] false, 1, 8, [.nilFunc], false⟩
theorem ty81_ok : TyOk Try.prog 81 ty81 := ⟨by kernel_rfl, by kernel_rfl, rfl, rfl, by decide, by kernel_rfl, by kernel_rfl⟩
def ty82 : TyE := ⟨.func #[32] #[4] false, 1, 8, [.nilFunc], false⟩
theorem ty82_ok : TyOk Try.prog 82 ty82 := ⟨by kernel_rfl, by kernel_rfl, rfl, rfl, by decide, by kernel_rfl, by kernel_rfl⟩
def ty83 : TyE := ⟨.func #[36, 3] #[3] false, 1, 8, [.nilFunc], false⟩
theorem ty83_ok : TyOk Try.prog 83 ty83 := ⟨by kernel_rfl, by kernel_rfl, rfl, rfl, by decide, by kernel_rfl, by kernel_rfl⟩
def ty84 : TyE := ⟨.map 3 4, 1, 8, [.map none], false⟩
theorem ty84_ok : TyOk Try.prog 84 ty84 := ⟨by kernel_rfl, by kernel_rfl, rfl, rfl, by decide, by kernel_rfl, by kernel_rfl⟩
def ty85 : TyE := ⟨.func #[75, 3, 68, 69] #[4] false, 1, 8, [.nilFunc], false⟩
theorem ty85_ok : TyOk Try.prog 85 ty85 := ⟨by kernel_rfl, by kernel_rfl, rfl, rfl, by decide, by kernel_rfl, by kernel_rfl⟩
def ty86 : TyE := ⟨.func #[50, 50, 50] #[4] false, 1, 8, [.nilFunc], false⟩
theorem ty86_ok : TyOk Try.prog 86 ty86 := ⟨by kernel_rfl, by kernel_rfl, rfl, rfl, by decide, by kernel_rfl, by kernel_rfl⟩
def ty87 : TyE := ⟨.func #[50, 50, 50, 50] #[4] false, 1, 8, [.nilFunc], false⟩
theorem ty87_ok : TyOk Try.prog 87 ty87 := ⟨by kernel_rfl, by kernel_rfl, rfl, rfl, by decide, by kernel_rfl, by kernel_rfl⟩
def ty88 : TyE := ⟨.map 3 50, 1, 8, [.map none], false⟩
theorem ty88_ok : TyOk Try.prog 88 ty88 := ⟨by kernel_rfl, by kernel_rfl, rfl, rfl, by decide, by kernel_rfl, by kernel_rfl⟩
def ty89 : TyE := ⟨.map 50 4, 1, 8, [.map none], false⟩
theorem ty89_ok : TyOk Try.prog 89 ty89 := ⟨by kernel_rfl, by kernel_rfl, rfl, rfl, by decide, by kernel_rfl, by kernel_rfl⟩
def ty90 : TyE := ⟨.map 42 4, 1, 8, [.map none], false⟩
theorem ty90_ok : TyOk Try.prog 90 ty90 := ⟨by kernel_rfl, by kernel_rfl, rfl, rfl, by decide, by kernel_rfl, by kernel_rfl⟩
def ty92 : TyE := ⟨.func #[55] #[42] false, 1, 8, [.nilFunc], false⟩
theorem ty92_ok : TyOk Try.prog 92 ty92 := ⟨by kernel_rfl, by kernel_rfl, rfl, rfl, by decide, by kernel_rfl, by kernel_rfl⟩
def ty93 : TyE := ⟨.func #[36, 50, 50] #[4] false, 1, 8, [.nilFunc], false⟩
theorem ty93_ok : TyOk Try.prog 93 ty93 := ⟨by kernel_rfl, by kernel_rfl, rfl, rfl, by decide, by kernel_rfl, by kernel_rfl⟩
def ty94 : TyE := ⟨.func #[61, 64] #[3] false, 1, 8, [.nilFunc], false⟩
theorem ty94_ok : TyOk Try.prog 94 ty94 := ⟨by kernel_rfl, by kernel_rfl, rfl, rfl, by decide, by kernel_rfl, by kernel_rfl⟩
def ty95 : TyE := ⟨.func #[36] #[73] false, 1, 8, [.nilFunc], false⟩
theorem ty95_ok : TyOk Try.prog 95 ty95 := ⟨by kernel_rfl, by kernel_rfl, rfl, rfl, by decide, by kernel_rfl, by kernel_rfl⟩
def ty96 : TyE := ⟨.slice 119, 1, 24, [.slice none 0 0], false⟩
theorem ty96_ok : TyOk Try.prog 96 ty96 := ⟨by kernel_rfl, by kernel_rfl, rfl, rfl, by decide, by kernel_rfl, by kernel_rfl⟩
def ty98 : TyE := ⟨.func #[36] #[70, 96] false, 1, 8, [.nilFunc], false⟩
theorem ty98_ok : TyOk Try.prog 98 ty98 := ⟨by kernel_rfl, by kernel_rfl, rfl, rfl, by decide, by kernel_rfl, by kernel_rfl⟩
def ty99 : TyE := ⟨.func #[3, 61] #[4] false, 1, 8, [.nilFunc], false⟩
theorem ty99_ok : TyOk Try.prog 99 ty99 := ⟨by kernel_rfl, by kernel_rfl, rfl, rfl, by decide, by kernel_rfl, by kernel_rfl⟩
def ty100 : TyE := ⟨.func #[50, 50, 50] #[3] false, 1, 8, [.nilFunc], false⟩
theorem ty100_ok : TyOk Try.prog 100 ty100 := ⟨by kernel_rfl, by kernel_rfl, rfl, rfl, by decide, by kernel_rfl, by kernel_rfl⟩
def ty101 : TyE := ⟨.map 3 52, 1, 8, [.map none], false⟩
theorem ty101_ok : TyOk Try.prog 101 ty101 := ⟨by kernel_rfl, by kernel_rfl, rfl, rfl, by decide, by kernel_rfl, by kernel_rfl⟩
def ty102 : TyE := ⟨.map 3 72, 1, 8, [.map none], false⟩
theorem ty102_ok : TyOk Try.prog 102 ty102 := ⟨by kernel_rfl, by kernel_rfl, rfl, rfl, by decide, by kernel_rfl, by kernel_rfl⟩
def ty103 : TyE := ⟨.struct #[{ name := "at", type := 101, offset := 0, embedded := false, tag := "", pkgPath := "croft/spin", byteOffset := 0 }, { name := "from", type := 68, offset := 1, embedded := false, tag := "", pkgPath := "croft/spin", byteOffset := 8 }, { name := "out", type := 102, offset := 2, embedded := false, tag := "", pkgPath := "croft/spin", byteOffset := 16 }, { name := "next", type := 65, offset := 3, embedded := false, tag := "", pkgPath := "croft/spin", byteOffset := 24 }], 4, 32, [.map none, .map none, .map none, .map none], true⟩
theorem ty103_ok : TyOk Try.prog 103 ty103 := ⟨by kernel_rfl, by kernel_rfl, rfl, rfl, by decide, by kernel_rfl, by kernel_rfl⟩
def ty104 : TyE := ⟨.struct #[{ name := "at", type := 101, offset := 0, embedded := false, tag := "", pkgPath := "croft/spin", byteOffset := 0 }, { name := "from", type := 68, offset := 1, embedded := false, tag := "", pkgPath := "croft/spin", byteOffset := 8 }, { name := "out", type := 102, offset := 2, embedded := false, tag := "", pkgPath := "croft/spin", byteOffset := 16 }, { name := "next", type := 65, offset := 3, embedded := false, tag := "", pkgPath := "croft/spin", byteOffset := 24 }], 4, 32, [.map none, .map none, .map none, .map none], true⟩
theorem ty104_ok : TyOk Try.prog 104 ty104 := ⟨by kernel_rfl, by kernel_rfl, rfl, rfl, by decide, by kernel_rfl, by kernel_rfl⟩
def ty105 : TyE := ⟨.func #[36] #[104] false, 1, 8, [.nilFunc], false⟩
theorem ty105_ok : TyOk Try.prog 105 ty105 := ⟨by kernel_rfl, by kernel_rfl, rfl, rfl, by decide, by kernel_rfl, by kernel_rfl⟩
def ty106 : TyE := ⟨.map 40 4, 1, 8, [.map none], false⟩
theorem ty106_ok : TyOk Try.prog 106 ty106 := ⟨by kernel_rfl, by kernel_rfl, rfl, rfl, by decide, by kernel_rfl, by kernel_rfl⟩
def ty107 : TyE := ⟨.func #[36] #[56] false, 1, 8, [.nilFunc], false⟩
theorem ty107_ok : TyOk Try.prog 107 ty107 := ⟨by kernel_rfl, by kernel_rfl, rfl, rfl, by decide, by kernel_rfl, by kernel_rfl⟩
def ty108 : TyE := ⟨.slice 127, 1, 24, [.slice none 0 0], false⟩
theorem ty108_ok : TyOk Try.prog 108 ty108 := ⟨by kernel_rfl, by kernel_rfl, rfl, rfl, by decide, by kernel_rfl, by kernel_rfl⟩
def ty110 : TyE := ⟨.func #[36, 72] #[108, 4] false, 1, 8, [.nilFunc], false⟩
theorem ty110_ok : TyOk Try.prog 110 ty110 := ⟨by kernel_rfl, by kernel_rfl, rfl, rfl, by decide, by kernel_rfl, by kernel_rfl⟩
def ty111 : TyE := ⟨.int .u64, 1, 8, [.int .u64 0], false⟩
theorem ty111_ok : TyOk Try.prog 111 ty111 := ⟨by kernel_rfl, by kernel_rfl, rfl, rfl, by decide, by kernel_rfl, by kernel_rfl⟩
def ty112 : TyE := ⟨.array 4 111, 4, 32, [.int .u64 0, .int .u64 0, .int .u64 0, .int .u64 0], true⟩
theorem ty112_ok : TyOk Try.prog 112 ty112 := ⟨by kernel_rfl, by kernel_rfl, rfl, rfl, by decide, by kernel_rfl, by kernel_rfl⟩
def ty113 : TyE := ⟨.array 4 111, 4, 32, [.int .u64 0, .int .u64 0, .int .u64 0, .int .u64 0], true⟩
theorem ty113_ok : TyOk Try.prog 113 ty113 := ⟨by kernel_rfl, by kernel_rfl, rfl, rfl, by decide, by kernel_rfl, by kernel_rfl⟩
def ty114 : TyE := ⟨.func #[108] #[113] false, 1, 8, [.nilFunc], false⟩
theorem ty114_ok : TyOk Try.prog 114 ty114 := ⟨by kernel_rfl, by kernel_rfl, rfl, rfl, by decide, by kernel_rfl, by kernel_rfl⟩
def ty115 : TyE := ⟨.func #[113] #[3] false, 1, 8, [.nilFunc], false⟩
theorem ty115_ok : TyOk Try.prog 115 ty115 := ⟨by kernel_rfl, by kernel_rfl, rfl, rfl, by decide, by kernel_rfl, by kernel_rfl⟩
def ty117 : TyE := ⟨.func #[36, 3] #[55, 4] false, 1, 8, [.nilFunc], false⟩
theorem ty117_ok : TyOk Try.prog 117 ty117 := ⟨by kernel_rfl, by kernel_rfl, rfl, rfl, by decide, by kernel_rfl, by kernel_rfl⟩
def ty118 : TyE := ⟨.struct #[{ name := "lines", type := 108, offset := 0, embedded := false, tag := "", pkgPath := "croft/realm", byteOffset := 0 }, { name := "area", type := 113, offset := 1, embedded := false, tag := "", pkgPath := "croft/realm", byteOffset := 24 }, { name := "piece", type := 3, offset := 5, embedded := false, tag := "", pkgPath := "croft/realm", byteOffset := 56 }], 6, 64, [.slice none 0 0, .int .u64 0, .int .u64 0, .int .u64 0, .int .u64 0, .int .i64 0], true⟩
theorem ty118_ok : TyOk Try.prog 118 ty118 := ⟨by kernel_rfl, by kernel_rfl, rfl, rfl, by decide, by kernel_rfl, by kernel_rfl⟩
def ty119 : TyE := ⟨.struct #[{ name := "lines", type := 108, offset := 0, embedded := false, tag := "", pkgPath := "croft/realm", byteOffset := 0 }, { name := "area", type := 113, offset := 1, embedded := false, tag := "", pkgPath := "croft/realm", byteOffset := 24 }, { name := "piece", type := 3, offset := 5, embedded := false, tag := "", pkgPath := "croft/realm", byteOffset := 56 }], 6, 64, [.slice none 0 0, .int .u64 0, .int .u64 0, .int .u64 0, .int .u64 0, .int .i64 0], true⟩
theorem ty119_ok : TyOk Try.prog 119 ty119 := ⟨by kernel_rfl, by kernel_rfl, rfl, rfl, by decide, by kernel_rfl, by kernel_rfl⟩
def ty121 : TyE := ⟨.func #[36, 40] #[50, 50, 4] false, 1, 8, [.nilFunc], false⟩
theorem ty121_ok : TyOk Try.prog 121 ty121 := ⟨by kernel_rfl, by kernel_rfl, rfl, rfl, by decide, by kernel_rfl, by kernel_rfl⟩
def ty122 : TyE := ⟨.func #[96, 50, 3] #[3] false, 1, 8, [.nilFunc], false⟩
theorem ty122_ok : TyOk Try.prog 122 ty122 := ⟨by kernel_rfl, by kernel_rfl, rfl, rfl, by decide, by kernel_rfl, by kernel_rfl⟩
def ty123 : TyE := ⟨.func #[136] #[4] true, 1, 8, [.nilFunc], false⟩
theorem ty123_ok : TyOk Try.prog 123 ty123 := ⟨by kernel_rfl, by kernel_rfl, rfl, rfl, by decide, by kernel_rfl, by kernel_rfl⟩
def ty124 : TyE := ⟨.func #[72, 126] #[] false, 1, 8, [.nilFunc], false⟩
theorem ty124_ok : TyOk Try.prog 124 ty124 := ⟨by kernel_rfl, by kernel_rfl, rfl, rfl, by decide, by kernel_rfl, by kernel_rfl⟩
def ty125 : TyE := ⟨.func #[40] #[40] false, 1, 8, [.nilFunc], false⟩
theorem ty125_ok : TyOk Try.prog 125 ty125 := ⟨by kernel_rfl, by kernel_rfl, rfl, rfl, by decide, by kernel_rfl, by kernel_rfl⟩
def ty126 : TyE := ⟨.func #[40, 40] #[3] false, 1, 8, [.nilFunc], false⟩
theorem ty126_ok : TyOk Try.prog 126 ty126 := ⟨by kernel_rfl, by kernel_rfl, rfl, rfl, by decide, by kernel_rfl, by kernel_rfl⟩
def ty127 : TyE := ⟨.array 2 50, 4, 32, [.int .i64 0, .int .i64 0, .int .i64 0, .int .i64 0], true⟩
theorem ty127_ok : TyOk Try.prog 127 ty127 := ⟨by kernel_rfl, by kernel_rfl, rfl, rfl, by decide, by kernel_rfl, by kernel_rfl⟩
def ty128 : TyE := ⟨.func #[2] #[113] false, 1, 8, [.nilFunc], false⟩
theorem ty128_ok : TyOk Try.prog 128 ty128 := ⟨by kernel_rfl, by kernel_rfl, rfl, rfl, by decide, by kernel_rfl, by kernel_rfl⟩
def ty130 : TyE := ⟨.func #[113, 113] #[113, 33] false, 1, 8, [.nilFunc], false⟩
theorem ty130_ok : TyOk Try.prog 130 ty130 := ⟨by kernel_rfl, by kernel_rfl, rfl, rfl, by decide, by kernel_rfl, by kernel_rfl⟩
def ty131 : TyE := ⟨.func #[113] #[4] false, 1, 8, [.nilFunc], false⟩
theorem ty131_ok : TyOk Try.prog 131 ty131 := ⟨by kernel_rfl, by kernel_rfl, rfl, rfl, by decide, by kernel_rfl, by kernel_rfl⟩
def ty133 : TyE := ⟨.func #[36, 3] #[52, 4] false, 1, 8, [.nilFunc], false⟩
theorem ty133_ok : TyOk Try.prog 133 ty133 := ⟨by kernel_rfl, by kernel_rfl, rfl, rfl, by decide, by kernel_rfl, by kernel_rfl⟩
def ty134 : TyE := ⟨.func #[108, 50] #[4] false, 1, 8, [.nilFunc], false⟩
theorem ty134_ok : TyOk Try.prog 134 ty134 := ⟨by kernel_rfl, by kernel_rfl, rfl, rfl, by decide, by kernel_rfl, by kernel_rfl⟩
def ty135 : TyE := ⟨.func #[113, 113] #[3] false, 1, 8, [.nilFunc], false⟩
theorem ty135_ok : TyOk Try.prog 135 ty135 := ⟨by kernel_rfl, by kernel_rfl, rfl, rfl, by decide, by kernel_rfl, by kernel_rfl⟩
def ty136 : TyE := ⟨.slice 50, 1, 24, [.slice none 0 0], false⟩
theorem ty136_ok : TyOk Try.prog 136 ty136 := ⟨by kernel_rfl, by kernel_rfl, rfl, rfl, by decide, by kernel_rfl, by kernel_rfl⟩
def ty137 : TyE := ⟨.func #[72, 3, 3, 3, 126] #[] false, 1, 8, [.nilFunc], false⟩
theorem ty137_ok : TyOk Try.prog 137 ty137 := ⟨by kernel_rfl, by kernel_rfl, rfl, rfl, by decide, by kernel_rfl, by kernel_rfl⟩
def ty138 : TyE := ⟨.func #[37] #[3] false, 1, 8, [.nilFunc], false⟩
theorem ty138_ok : TyOk Try.prog 138 ty138 := ⟨by kernel_rfl, by kernel_rfl, rfl, rfl, by decide, by kernel_rfl, by kernel_rfl⟩
def ty139 : TyE := ⟨.func #[50, 50] #[3] false, 1, 8, [.nilFunc], false⟩
theorem ty139_ok : TyOk Try.prog 139 ty139 := ⟨by kernel_rfl, by kernel_rfl, rfl, rfl, by decide, by kernel_rfl, by kernel_rfl⟩
def ty141 : TyE := ⟨.func #[111, 111, 111] #[111, 111] false, 1, 8, [.nilFunc], false⟩
theorem ty141_ok : TyOk Try.prog 141 ty141 := ⟨by kernel_rfl, by kernel_rfl, rfl, rfl, by decide, by kernel_rfl, by kernel_rfl⟩
def ty142 : TyE := ⟨.func #[108, 143] #[4] false, 1, 8, [.nilFunc], false⟩
theorem ty142_ok : TyOk Try.prog 142 ty142 := ⟨by kernel_rfl, by kernel_rfl, rfl, rfl, by decide, by kernel_rfl, by kernel_rfl⟩
def ty143 : TyE := ⟨.func #[127] #[4] false, 1, 8, [.nilFunc], false⟩
theorem ty143_ok : TyOk Try.prog 143 ty143 := ⟨by kernel_rfl, by kernel_rfl, rfl, rfl, by decide, by kernel_rfl, by kernel_rfl⟩
def ty144 : TyE := ⟨.func #[72, 3, 3, 126] #[] false, 1, 8, [.nilFunc], false⟩
theorem ty144_ok : TyOk Try.prog 144 ty144 := ⟨by kernel_rfl, by kernel_rfl, rfl, rfl, by decide, by kernel_rfl, by kernel_rfl⟩
def ty145 : TyE := ⟨.int .i64, 1, 8, [.int .i64 0], false⟩
theorem ty145_ok : TyOk Try.prog 145 ty145 := ⟨by kernel_rfl, by kernel_rfl, rfl, rfl, by decide, by kernel_rfl, by kernel_rfl⟩
def ty147 : TyE := ⟨.func #[72, 3, 3, 126] #[3, 145] false, 1, 8, [.nilFunc], false⟩
theorem ty147_ok : TyOk Try.prog 147 ty147 := ⟨by kernel_rfl, by kernel_rfl, rfl, rfl, by decide, by kernel_rfl, by kernel_rfl⟩
def ty148 : TyE := ⟨.func #[72, 3, 3, 126] #[4] false, 1, 8, [.nilFunc], false⟩
theorem ty148_ok : TyOk Try.prog 148 ty148 := ⟨by kernel_rfl, by kernel_rfl, rfl, rfl, by decide, by kernel_rfl, by kernel_rfl⟩
def ty149 : TyE := ⟨.func #[72, 3, 3, 3, 126] #[3] false, 1, 8, [.nilFunc], false⟩
theorem ty149_ok : TyOk Try.prog 149 ty149 := ⟨by kernel_rfl, by kernel_rfl, rfl, rfl, by decide, by kernel_rfl, by kernel_rfl⟩
def ty150 : TyE := ⟨.func #[72, 3, 3, 3, 126] #[3, 4] false, 1, 8, [.nilFunc], false⟩
theorem ty150_ok : TyOk Try.prog 150 ty150 := ⟨by kernel_rfl, by kernel_rfl, rfl, rfl, by decide, by kernel_rfl, by kernel_rfl⟩
def ty151 : TyE := ⟨.func #[152] #[3] false, 1, 8, [.nilFunc], false⟩
theorem ty151_ok : TyOk Try.prog 151 ty151 := ⟨by kernel_rfl, by kernel_rfl, rfl, rfl, by decide, by kernel_rfl, by kernel_rfl⟩
def ty152 : TyE := ⟨.int .u32, 1, 4, [.int .u32 0], false⟩
theorem ty152_ok : TyOk Try.prog 152 ty152 := ⟨by kernel_rfl, by kernel_rfl, rfl, rfl, by decide, by kernel_rfl, by kernel_rfl⟩
def ty153 : TyE := ⟨.func #[111] #[3] false, 1, 8, [.nilFunc], false⟩
theorem ty153_ok : TyOk Try.prog 153 ty153 := ⟨by kernel_rfl, by kernel_rfl, rfl, rfl, by decide, by kernel_rfl, by kernel_rfl⟩
def ty154 : TyE := ⟨.func #[108, 143] #[3] false, 1, 8, [.nilFunc], false⟩
theorem ty154_ok : TyOk Try.prog 154 ty154 := ⟨by kernel_rfl, by kernel_rfl, rfl, rfl, by decide, by kernel_rfl, by kernel_rfl⟩
def ty155 : TyE := ⟨.int .u64, 1, 8, [.int .u64 0], false⟩
theorem ty155_ok : TyOk Try.prog 155 ty155 := ⟨by kernel_rfl, by kernel_rfl, rfl, rfl, by decide, by kernel_rfl, by kernel_rfl⟩
def ty156 : TyE := ⟨.func #[3] #[37] false, 1, 8, [.nilFunc], false⟩
theorem ty156_ok : TyOk Try.prog 156 ty156 := ⟨by kernel_rfl, by kernel_rfl, rfl, rfl, by decide, by kernel_rfl, by kernel_rfl⟩
def ty157 : TyE := ⟨.func #[] #[111] false, 1, 8, [.nilFunc], false⟩
theorem ty157_ok : TyOk Try.prog 157 ty157 := ⟨by kernel_rfl, by kernel_rfl, rfl, rfl, by decide, by kernel_rfl, by kernel_rfl⟩
def ty158 : TyE := ⟨.func #[72, 3, 159, 126] #[3] false, 1, 8, [.nilFunc], false⟩
theorem ty158_ok : TyOk Try.prog 158 ty158 := ⟨by kernel_rfl, by kernel_rfl, rfl, rfl, by decide, by kernel_rfl, by kernel_rfl⟩
def ty159 : TyE := ⟨.pointer 3, 1, 8, [.pointer none], false⟩
theorem ty159_ok : TyOk Try.prog 159 ty159 := ⟨by kernel_rfl, by kernel_rfl, rfl, rfl, by decide, by kernel_rfl, by kernel_rfl⟩
def ty160 : TyE := ⟨.func #[72, 3, 3, 3, 159, 126] #[3] false, 1, 8, [.nilFunc], false⟩
theorem ty160_ok : TyOk Try.prog 160 ty160 := ⟨by kernel_rfl, by kernel_rfl, rfl, rfl, by decide, by kernel_rfl, by kernel_rfl⟩
def ty161 : TyE := ⟨.pointer 155, 1, 8, [.pointer none], false⟩
theorem ty161_ok : TyOk Try.prog 161 ty161 := ⟨by kernel_rfl, by kernel_rfl, rfl, rfl, by decide, by kernel_rfl, by kernel_rfl⟩
def ty163 : TyE := ⟨.func #[72, 3, 3, 159, 126] #[3, 3] false, 1, 8, [.nilFunc], false⟩
theorem ty163_ok : TyOk Try.prog 163 ty163 := ⟨by kernel_rfl, by kernel_rfl, rfl, rfl, by decide, by kernel_rfl, by kernel_rfl⟩
def ty164 : TyE := ⟨.func #[] #[9] false, 1, 8, [.nilFunc], false⟩
theorem ty164_ok : TyOk Try.prog 164 ty164 := ⟨by kernel_rfl, by kernel_rfl, rfl, rfl, by decide, by kernel_rfl, by kernel_rfl⟩
def ty170 : TyE := ⟨.func #[] #[3] false, 1, 8, [.nilFunc], false⟩
theorem ty170_ok : TyOk Try.prog 170 ty170 := ⟨by kernel_rfl, by kernel_rfl, rfl, rfl, by decide, by kernel_rfl, by kernel_rfl⟩
def ty173 : TyE := ⟨.func #[179, 179] #[4] false, 1, 8, [.nilFunc], false⟩
theorem ty173_ok : TyOk Try.prog 173 ty173 := ⟨by kernel_rfl, by kernel_rfl, rfl, rfl, by decide, by kernel_rfl, by kernel_rfl⟩
def ty174 : TyE := ⟨.pointer 5, 1, 8, [.pointer none], false⟩
theorem ty174_ok : TyOk Try.prog 174 ty174 := ⟨by kernel_rfl, by kernel_rfl, rfl, rfl, by decide, by kernel_rfl, by kernel_rfl⟩
def tys : List (Nat × TyE) := [(1, ty1), (2, ty2), (3, ty3), (4, ty4), (5, ty5), (9, ty9), (12, ty12), (21, ty21), (22, ty22), (23, ty23), (24, ty24), (25, ty25), (26, ty26), (27, ty27), (28, ty28), (29, ty29), (30, ty30), (31, ty31), (32, ty32), (33, ty33), (35, ty35), (36, ty36), (37, ty37), (38, ty38), (39, ty39), (40, ty40), (41, ty41), (42, ty42), (43, ty43), (44, ty44), (45, ty45), (46, ty46), (47, ty47), (48, ty48), (49, ty49), (50, ty50), (51, ty51), (52, ty52), (53, ty53), (54, ty54), (55, ty55), (56, ty56), (57, ty57), (58, ty58), (59, ty59), (60, ty60), (61, ty61), (62, ty62), (63, ty63), (64, ty64), (65, ty65), (67, ty67), (68, ty68), (69, ty69), (70, ty70), (71, ty71), (72, ty72), (73, ty73), (74, ty74), (75, ty75), (77, ty77), (78, ty78), (79, ty79), (80, ty80), (81, ty81), (82, ty82), (83, ty83), (84, ty84), (85, ty85), (86, ty86), (87, ty87), (88, ty88), (89, ty89), (90, ty90), (92, ty92), (93, ty93), (94, ty94), (95, ty95), (96, ty96), (98, ty98), (99, ty99), (100, ty100), (101, ty101), (102, ty102), (103, ty103), (104, ty104), (105, ty105), (106, ty106), (107, ty107), (108, ty108), (110, ty110), (111, ty111), (112, ty112), (113, ty113), (114, ty114), (115, ty115), (117, ty117), (118, ty118), (119, ty119), (121, ty121), (122, ty122), (123, ty123), (124, ty124), (125, ty125), (126, ty126), (127, ty127), (128, ty128), (130, ty130), (131, ty131), (133, ty133), (134, ty134), (135, ty135), (136, ty136), (137, ty137), (138, ty138), (139, ty139), (141, ty141), (142, ty142), (143, ty143), (144, ty144), (145, ty145), (147, ty147), (148, ty148), (149, ty149), (150, ty150), (151, ty151), (152, ty152), (153, ty153), (154, ty154), (155, ty155), (156, ty156), (157, ty157), (158, ty158), (159, ty159), (160, ty160), (161, ty161), (163, ty163), (164, ty164), (170, ty170), (173, ty173), (174, ty174)]
theorem tys_ok : ∀ p ∈ tys, TyOk Try.prog p.1 p.2 := by
  simp only [tys, List.mem_cons, List.not_mem_nil, or_false, forall_eq_or_imp, forall_eq]
  exact ⟨ty1_ok, ty2_ok, ty3_ok, ty4_ok, ty5_ok, ty9_ok, ty12_ok, ty21_ok, ty22_ok, ty23_ok, ty24_ok, ty25_ok, ty26_ok, ty27_ok, ty28_ok, ty29_ok, ty30_ok, ty31_ok, ty32_ok, ty33_ok, ty35_ok, ty36_ok, ty37_ok, ty38_ok, ty39_ok, ty40_ok, ty41_ok, ty42_ok, ty43_ok, ty44_ok, ty45_ok, ty46_ok, ty47_ok, ty48_ok, ty49_ok, ty50_ok, ty51_ok, ty52_ok, ty53_ok, ty54_ok, ty55_ok, ty56_ok, ty57_ok, ty58_ok, ty59_ok, ty60_ok, ty61_ok, ty62_ok, ty63_ok, ty64_ok, ty65_ok, ty67_ok, ty68_ok, ty69_ok, ty70_ok, ty71_ok, ty72_ok, ty73_ok, ty74_ok, ty75_ok, ty77_ok, ty78_ok, ty79_ok, ty80_ok, ty81_ok, ty82_ok, ty83_ok, ty84_ok, ty85_ok, ty86_ok, ty87_ok, ty88_ok, ty89_ok, ty90_ok, ty92_ok, ty93_ok, ty94_ok, ty95_ok, ty96_ok, ty98_ok, ty99_ok, ty100_ok, ty101_ok, ty102_ok, ty103_ok, ty104_ok, ty105_ok, ty106_ok, ty107_ok, ty108_ok, ty110_ok, ty111_ok, ty112_ok, ty113_ok, ty114_ok, ty115_ok, ty117_ok, ty118_ok, ty119_ok, ty121_ok, ty122_ok, ty123_ok, ty124_ok, ty125_ok, ty126_ok, ty127_ok, ty128_ok, ty130_ok, ty131_ok, ty133_ok, ty134_ok, ty135_ok, ty136_ok, ty137_ok, ty138_ok, ty139_ok, ty141_ok, ty142_ok, ty143_ok, ty144_ok, ty145_ok, ty147_ok, ty148_ok, ty149_ok, ty150_ok, ty151_ok, ty152_ok, ty153_ok, ty154_ok, ty155_ok, ty156_ok, ty157_ok, ty158_ok, ty159_ok, ty160_ok, ty161_ok, ty163_ok, ty164_ok, ty170_ok, ty173_ok, ty174_ok⟩
noncomputable def cx : Cx := ⟨Try.prog, tys, tys_ok, by kernel_rfl⟩
end Go.Proofs.Ytcdakcemcehfiaa
