/- The types of the translation, as a table; each row asked of the program. -/
import Derived.Test.YtijakklhklcjhaaAb21
import Derived.Test.YtijakklhklcjhaaProg
import Derived.KernelRfl
namespace Go.Proofs.YtijakklhklcjhaaA
open Go
def ty1 : TI := ⟨.other, 1, 8, [.nilFunc]⟩
theorem ty1_ok : tinfo Try.prog 1 = some ty1 := by kernel_rfl
def ty2 : TI := ⟨.int .i64, 1, 8, [.int .i64 0]⟩
theorem ty2_ok : tinfo Try.prog 2 = some ty2 := by kernel_rfl
def ty3 : TI := ⟨.int .i64, 1, 8, [.int .i64 0]⟩
theorem ty3_ok : tinfo Try.prog 3 = some ty3 := by kernel_rfl
def ty4 : TI := ⟨.bool, 1, 1, [.bool false]⟩
theorem ty4_ok : tinfo Try.prog 4 = some ty4 := by kernel_rfl
def ty5 : TI := ⟨.int .u8, 1, 1, [.int .u8 0]⟩
theorem ty5_ok : tinfo Try.prog 5 = some ty5 := by kernel_rfl
def ty9 : TI := ⟨.str, 1, 16, [.string ⟨#[]⟩]⟩
theorem ty9_ok : tinfo Try.prog 9 = some ty9 := by kernel_rfl
def ty12 : TI := ⟨.int .u64, 1, 8, [.int .u64 0]⟩
theorem ty12_ok : tinfo Try.prog 12 = some ty12 := by kernel_rfl
def ty15 : TI := ⟨.ptr 71, 1, 8, [.pointer none]⟩
theorem ty15_ok : tinfo Try.prog 15 = some ty15 := by kernel_rfl
def ty16 : TI := ⟨.ptr 74, 1, 8, [.pointer none]⟩
theorem ty16_ok : tinfo Try.prog 16 = some ty16 := by kernel_rfl
def ty20 : TI := ⟨.other, 1, 16, [.nilIface]⟩
theorem ty20_ok : tinfo Try.prog 20 = some ty20 := by kernel_rfl
def ty21 : TI := ⟨.int .i32, 1, 4, [.int .i32 0]⟩
theorem ty21_ok : tinfo Try.prog 21 = some ty21 := by kernel_rfl
def ty22 : TI := ⟨.int .u32, 1, 4, [.int .u32 0]⟩
theorem ty22_ok : tinfo Try.prog 22 = some ty22 := by kernel_rfl
def ty23 : TI := ⟨.strct [(0, 9, false), (1, 4, false), (2, 4, false), (3, 4, false), (4, 4, false), (5, 3, false)], 6, 32, [.string ⟨#[]⟩, .bool false, .bool false, .bool false, .bool false, .int .i64 0]⟩
theorem ty23_ok : tinfo Try.prog 23 = some ty23 := by kernel_rfl
def ty24 : TI := ⟨.strct [(0, 9, false), (1, 4, false), (2, 4, false), (3, 4, false), (4, 4, false), (5, 3, false)], 6, 32, [.string ⟨#[]⟩, .bool false, .bool false, .bool false, .bool false, .int .i64 0]⟩
theorem ty24_ok : tinfo Try.prog 24 = some ty24 := by kernel_rfl
def ty26 : TI := ⟨.other, 1, 8, [.nilFunc]⟩
theorem ty26_ok : tinfo Try.prog 26 = some ty26 := by kernel_rfl
def ty27 : TI := ⟨.strct [(0, 3, false), (1, 3, false), (2, 22, false), (3, 3, false), (4, 3, false)], 5, 40, [.int .i64 0, .int .i64 0, .int .u32 0, .int .i64 0, .int .i64 0]⟩
theorem ty27_ok : tinfo Try.prog 27 = some ty27 := by kernel_rfl
def ty28 : TI := ⟨.strct [(0, 3, false), (1, 3, false), (2, 22, false), (3, 3, false), (4, 3, false)], 5, 40, [.int .i64 0, .int .i64 0, .int .u32 0, .int .i64 0, .int .i64 0]⟩
theorem ty28_ok : tinfo Try.prog 28 = some ty28 := by kernel_rfl
def ty29 : TI := ⟨.int .i64, 1, 8, [.int .i64 0]⟩
theorem ty29_ok : tinfo Try.prog 29 = some ty29 := by kernel_rfl
def ty31 : TI := ⟨.other, 1, 8, [.nilFunc]⟩
theorem ty31_ok : tinfo Try.prog 31 = some ty31 := by kernel_rfl
def ty32 : TI := ⟨.arr 16 22, 16, 64, [.int .u32 0, .int .u32 0, .int .u32 0, .int .u32 0, .int .u32 0, .int .u32 0, .int .u32 0, .int .u32 0, .int .u32 0, .int .u32 0, .int .u32 0, .int .u32 0, .int .u32 0, .int .u32 0, .int .u32 0, .int .u32 0]⟩
theorem ty32_ok : tinfo Try.prog 32 = some ty32 := by kernel_rfl
def ty33 : TI := ⟨.other, 1, 8, [.nilFunc]⟩
theorem ty33_ok : tinfo Try.prog 33 = some ty33 := by kernel_rfl
def ty34 : TI := ⟨.int .u64, 1, 8, [.int .u64 0]⟩
theorem ty34_ok : tinfo Try.prog 34 = some ty34 := by kernel_rfl
def ty35 : TI := ⟨.slice 4, 1, 24, [.slice none 0 0]⟩
theorem ty35_ok : tinfo Try.prog 35 = some ty35 := by kernel_rfl
def ty36 : TI := ⟨.slice 22, 1, 24, [.slice none 0 0]⟩
theorem ty36_ok : tinfo Try.prog 36 = some ty36 := by kernel_rfl
def ty37 : TI := ⟨.other, 1, 8, [.nilFunc]⟩
theorem ty37_ok : tinfo Try.prog 37 = some ty37 := by kernel_rfl
def ty38 : TI := ⟨.other, 1, 8, [.nilFunc]⟩
theorem ty38_ok : tinfo Try.prog 38 = some ty38 := by kernel_rfl
def ty39 : TI := ⟨.other, 1, 8, [.nilFunc]⟩
theorem ty39_ok : tinfo Try.prog 39 = some ty39 := by kernel_rfl
def ty40 : TI := ⟨.other, 1, 8, [.nilFunc]⟩
theorem ty40_ok : tinfo Try.prog 40 = some ty40 := by kernel_rfl
def ty41 : TI := ⟨.strct [(0, 29, false), (1, 22, false), (2, 3, false)], 3, 24, [.int .i64 0, .int .u32 0, .int .i64 0]⟩
theorem ty41_ok : tinfo Try.prog 41 = some ty41 := by kernel_rfl
def ty42 : TI := ⟨.strct [(0, 29, false), (1, 22, false), (2, 3, false)], 3, 24, [.int .i64 0, .int .u32 0, .int .i64 0]⟩
theorem ty42_ok : tinfo Try.prog 42 = some ty42 := by kernel_rfl
def ty43 : TI := ⟨.other, 1, 8, [.nilFunc]⟩
theorem ty43_ok : tinfo Try.prog 43 = some ty43 := by kernel_rfl
def ty44 : TI := ⟨.other, 1, 8, [.nilFunc]⟩
theorem ty44_ok : tinfo Try.prog 44 = some ty44 := by kernel_rfl
def ty45 : TI := ⟨.strct [(0, 3, false), (1, 3, false), (2, 22, false), (3, 3, false), (4, 3, false)], 5, 40, [.int .i64 0, .int .i64 0, .int .u32 0, .int .i64 0, .int .i64 0]⟩
theorem ty45_ok : tinfo Try.prog 45 = some ty45 := by kernel_rfl
def ty47 : TI := ⟨.other, 1, 8, [.nilFunc]⟩
theorem ty47_ok : tinfo Try.prog 47 = some ty47 := by kernel_rfl
def ty48 : TI := ⟨.other, 1, 8, [.nilFunc]⟩
theorem ty48_ok : tinfo Try.prog 48 = some ty48 := by kernel_rfl
def ty49 : TI := ⟨.other, 1, 8, [.nilFunc]⟩
theorem ty49_ok : tinfo Try.prog 49 = some ty49 := by kernel_rfl
def ty50 : TI := ⟨.other, 1, 8, [.nilFunc]⟩
theorem ty50_ok : tinfo Try.prog 50 = some ty50 := by kernel_rfl
def ty51 : TI := ⟨.other, 1, 8, [.nilFunc]⟩
theorem ty51_ok : tinfo Try.prog 51 = some ty51 := by kernel_rfl
def ty52 : TI := ⟨.other, 1, 8, [.nilFunc]⟩
theorem ty52_ok : tinfo Try.prog 52 = some ty52 := by kernel_rfl
def ty53 : TI := ⟨.other, 1, 8, [.nilFunc]⟩
theorem ty53_ok : tinfo Try.prog 53 = some ty53 := by kernel_rfl
def ty54 : TI := ⟨.other, 1, 8, [.nilFunc]⟩
theorem ty54_ok : tinfo Try.prog 54 = some ty54 := by kernel_rfl
def ty56 : TI := ⟨.other, 1, 8, [.nilFunc]⟩
theorem ty56_ok : tinfo Try.prog 56 = some ty56 := by kernel_rfl
def ty57 : TI := ⟨.other, 1, 8, [.nilFunc]⟩
theorem ty57_ok : tinfo Try.prog 57 = some ty57 := by kernel_rfl
def ty58 : TI := ⟨.slice 24, 1, 24, [.slice none 0 0]⟩
theorem ty58_ok : tinfo Try.prog 58 = some ty58 := by kernel_rfl
def ty59 : TI := ⟨.strct [(0, 9, false), (1, 3, false), (2, 3, false)], 3, 32, [.string ⟨#[]⟩, .int .i64 0, .int .i64 0]⟩
theorem ty59_ok : tinfo Try.prog 59 = some ty59 := by kernel_rfl
def ty60 : TI := ⟨.strct [(0, 9, false), (1, 3, false), (2, 3, false)], 3, 32, [.string ⟨#[]⟩, .int .i64 0, .int .i64 0]⟩
theorem ty60_ok : tinfo Try.prog 60 = some ty60 := by kernel_rfl
def ty62 : TI := ⟨.other, 1, 8, [.nilFunc]⟩
theorem ty62_ok : tinfo Try.prog 62 = some ty62 := by kernel_rfl
def ty63 : TI := ⟨.other, 1, 8, [.nilFunc]⟩
theorem ty63_ok : tinfo Try.prog 63 = some ty63 := by kernel_rfl
def ty64 : TI := ⟨.other, 1, 8, [.nilFunc]⟩
theorem ty64_ok : tinfo Try.prog 64 = some ty64 := by kernel_rfl
def ty65 : TI := ⟨.other, 1, 8, [.nilFunc]⟩
theorem ty65_ok : tinfo Try.prog 65 = some ty65 := by kernel_rfl
def ty66 : TI := ⟨.arr 4 22, 4, 16, [.int .u32 0, .int .u32 0, .int .u32 0, .int .u32 0]⟩
theorem ty66_ok : tinfo Try.prog 66 = some ty66 := by kernel_rfl
def ty67 : TI := ⟨.arr 28 60, 84, 896, [.string ⟨#[]⟩, .int .i64 0, .int .i64 0, .string ⟨#[]⟩, .int .i64 0, .int .i64 0, .string ⟨#[]⟩, .int .i64 0, .int .i64 0, .string ⟨#[]⟩, .int .i64 0, .int .i64 0, .string ⟨#[]⟩, .int .i64 0, .int .i64 0, .string ⟨#[]⟩, .int .i64 0, .int .i64 0, .string ⟨#[]⟩, .int .i64 0, .int .i64 0, .string ⟨#[]⟩, .int .i64 0, .int .i64 0, .string ⟨#[]⟩, .int .i64 0, .int .i64 0, .string ⟨#[]⟩, .int .i64 0, .int .i64 0, .string ⟨#[]⟩, .int .i64 0, .int .i64 0, .string ⟨#[]⟩, .int .i64 0, .int .i64 0, .string ⟨#[]⟩, .int .i64 0, .int .i64 0, .string ⟨#[]⟩, .int .i64 0, .int .i64 0, .string ⟨#[]⟩, .int .i64 0, .int .i64 0, .string ⟨#[]⟩, .int .i64 0, .int .i64 0, .string ⟨#[]⟩, .int .i64 0, .int .i64 0, .string ⟨#[]⟩, .int .i64 0, .int .i64 0, .string ⟨#[]⟩, .int .i64 0, .int .i64 0, .string ⟨#[]⟩, .int .i64 0, .int .i64 0, .string ⟨#[]⟩, .int .i64 0, .int .i64 0, .string ⟨#[]⟩, .int .i64 0, .int .i64 0, .string ⟨#[]⟩, .int .i64 0, .int .i64 0, .string ⟨#[]⟩, .int .i64 0, .int .i64 0, .string ⟨#[]⟩, .int .i64 0, .int .i64 0, .string ⟨#[]⟩, .int .i64 0, .int .i64 0, .string ⟨#[]⟩, .int .i64 0, .int .i64 0, .string ⟨#[]⟩, .int .i64 0, .int .i64 0]⟩
theorem ty67_ok : tinfo Try.prog 67 = some ty67 := by kernel_rfl
def ty68 : TI := ⟨.other, 1, 8, [.nilFunc]⟩
theorem ty68_ok : tinfo Try.prog 68 = some ty68 := by kernel_rfl
def ty69 : TI := ⟨.other, 1, 8, [.nilFunc]⟩
theorem ty69_ok : tinfo Try.prog 69 = some ty69 := by kernel_rfl
def ty72 : TI := ⟨.arr 0 16, 0, 0, []⟩
theorem ty72_ok : tinfo Try.prog 72 = some ty72 := by kernel_rfl
def ty75 : TI := ⟨.other, 1, 8, [.nilFunc]⟩
theorem ty75_ok : tinfo Try.prog 75 = some ty75 := by kernel_rfl
def ty78 : TI := ⟨.other, 1, 8, [.nilFunc]⟩
theorem ty78_ok : tinfo Try.prog 78 = some ty78 := by kernel_rfl
def ty79 : TI := ⟨.ptr 5, 1, 8, [.pointer none]⟩
theorem ty79_ok : tinfo Try.prog 79 = some ty79 := by kernel_rfl
def ty84 : TI := ⟨.other, 1, 8, [.pointer none]⟩
theorem ty84_ok : tinfo Try.prog 84 = some ty84 := by kernel_rfl
def tys : TT := [(1, ty1), (2, ty2), (3, ty3), (4, ty4), (5, ty5), (9, ty9), (12, ty12), (15, ty15), (16, ty16), (20, ty20), (21, ty21), (22, ty22), (23, ty23), (24, ty24), (26, ty26), (27, ty27), (28, ty28), (29, ty29), (31, ty31), (32, ty32), (33, ty33), (34, ty34), (35, ty35), (36, ty36), (37, ty37), (38, ty38), (39, ty39), (40, ty40), (41, ty41), (42, ty42), (43, ty43), (44, ty44), (45, ty45), (47, ty47), (48, ty48), (49, ty49), (50, ty50), (51, ty51), (52, ty52), (53, ty53), (54, ty54), (56, ty56), (57, ty57), (58, ty58), (59, ty59), (60, ty60), (62, ty62), (63, ty63), (64, ty64), (65, ty65), (66, ty66), (67, ty67), (68, ty68), (69, ty69), (72, ty72), (75, ty75), (78, ty78), (79, ty79), (84, ty84)]
theorem tys_ok : TOk Try.prog tys :=
  .cons ty1_ok <| .cons ty2_ok <| .cons ty3_ok <| .cons ty4_ok <| .cons ty5_ok <| .cons ty9_ok <| .cons ty12_ok <| .cons ty15_ok <| .cons ty16_ok <| .cons ty20_ok <| .cons ty21_ok <| .cons ty22_ok <| .cons ty23_ok <| .cons ty24_ok <| .cons ty26_ok <| .cons ty27_ok <| .cons ty28_ok <| .cons ty29_ok <| .cons ty31_ok <| .cons ty32_ok <| .cons ty33_ok <| .cons ty34_ok <| .cons ty35_ok <| .cons ty36_ok <| .cons ty37_ok <| .cons ty38_ok <| .cons ty39_ok <| .cons ty40_ok <| .cons ty41_ok <| .cons ty42_ok <| .cons ty43_ok <| .cons ty44_ok <| .cons ty45_ok <| .cons ty47_ok <| .cons ty48_ok <| .cons ty49_ok <| .cons ty50_ok <| .cons ty51_ok <| .cons ty52_ok <| .cons ty53_ok <| .cons ty54_ok <| .cons ty56_ok <| .cons ty57_ok <| .cons ty58_ok <| .cons ty59_ok <| .cons ty60_ok <| .cons ty62_ok <| .cons ty63_ok <| .cons ty64_ok <| .cons ty65_ok <| .cons ty66_ok <| .cons ty67_ok <| .cons ty68_ok <| .cons ty69_ok <| .cons ty72_ok <| .cons ty75_ok <| .cons ty78_ok <| .cons ty79_ok <| .cons ty84_ok <| .nil _
end Go.Proofs.YtijakklhklcjhaaA
