/- Facts about the types. -/
import Derived.KernelRfl
import Derived.Test.YtkofbgicfmojjaaProg
import Derived.Test.YtkofbgicfmojjaaVaLB
namespace Go.Va
open Go.Proofs

theorem shape_3 : shape Try.prog 3 = some (false, 1) := by kernel_rfl
theorem shape_4 : shape Try.prog 4 = some (false, 1) := by kernel_rfl
theorem shape_22 : shape Try.prog 22 = some (false, 1) := by kernel_rfl
theorem shape_23 : shape Try.prog 23 = some (false, 1) := by kernel_rfl
theorem shape_25 : shape Try.prog 25 = some (true, 16) := by kernel_rfl
theorem shape_47 : shape Try.prog 47 = some (false, 1) := by kernel_rfl
theorem shape_56 : shape Try.prog 56 = some (true, 4) := by kernel_rfl
theorem shape_80 : shape Try.prog 80 = some (false, 1) := by kernel_rfl
theorem tSz_3 : tSz Try.prog 3 = some 1 := by kernel_rfl
theorem tSz_4 : tSz Try.prog 4 = some 1 := by kernel_rfl
theorem tSz_22 : tSz Try.prog 22 = some 1 := by kernel_rfl
theorem tSz_23 : tSz Try.prog 23 = some 1 := by kernel_rfl
theorem tSz_25 : tSz Try.prog 25 = some 16 := by kernel_rfl
theorem tSz_32 : tSz Try.prog 32 = some 1 := by kernel_rfl
theorem tSz_45 : tSz Try.prog 45 = some 1 := by kernel_rfl
theorem tSz_47 : tSz Try.prog 47 = some 1 := by kernel_rfl
theorem tSz_50 : tSz Try.prog 50 = some 1 := by kernel_rfl
theorem tSz_52 : tSz Try.prog 52 = some 1 := by kernel_rfl
theorem tSz_56 : tSz Try.prog 56 = some 4 := by kernel_rfl
theorem tSz_80 : tSz Try.prog 80 = some 1 := by kernel_rfl
theorem fOff_56_0 : fOff Try.prog 56 0 = some 0 := by kernel_rfl
theorem fOff_56_1 : fOff Try.prog 56 1 = some 1 := by kernel_rfl
theorem fOff_56_2 : fOff Try.prog 56 2 = some 2 := by kernel_rfl
theorem fOff_56_3 : fOff Try.prog 56 3 = some 3 := by kernel_rfl
theorem fOff_82_0 : fOff Try.prog 82 0 = some 0 := by kernel_rfl
theorem fOff_82_1 : fOff Try.prog 82 1 = some 1 := by kernel_rfl
theorem ixK_22 : ixK Try.prog 22 = some (true, 0, 4) := by kernel_rfl
theorem ixK_25 : ixK Try.prog 25 = some (false, 16, 1) := by kernel_rfl
theorem ixK_32 : ixK Try.prog 32 = some (true, 0, 1) := by kernel_rfl
theorem ixK_45 : ixK Try.prog 45 = some (true, 0, 1) := by kernel_rfl
theorem ixK_50 : ixK Try.prog 50 = some (true, 0, 1) := by kernel_rfl
theorem ixK_52 : ixK Try.prog 52 = some (true, 0, 1) := by kernel_rfl
theorem isSl_22 : isSl Try.prog 22 = true := by kernel_rfl
theorem isSl_32 : isSl Try.prog 32 = true := by kernel_rfl
theorem isSl_45 : isSl Try.prog 45 = true := by kernel_rfl
theorem isSl_50 : isSl Try.prog 50 = true := by kernel_rfl
theorem isSl_52 : isSl Try.prog 52 = true := by kernel_rfl
theorem slT_22 : slT Try.prog 22 = some (56, 4, 32, [.int .i64 0, .int .i64 0, .int .i64 0, .int .u32 0]) := by kernel_rfl
theorem slT_32 : slT Try.prog 32 = some (23, 1, 4, [.int .u32 0]) := by kernel_rfl
theorem slT_45 : slT Try.prog 45 = some (47, 1, 8, [.int .u64 0]) := by kernel_rfl
theorem slT_50 : slT Try.prog 50 = some (4, 1, 1, [.bool false]) := by kernel_rfl
theorem slT_52 : slT Try.prog 52 = some (3, 1, 8, [.int .i64 0]) := by kernel_rfl
theorem zeroA_25 : zeroA Try.prog 25 = some (.agg [.int .u32 0, .int .u32 0, .int .u32 0, .int .u32 0, .int .u32 0, .int .u32 0, .int .u32 0, .int .u32 0, .int .u32 0, .int .u32 0, .int .u32 0, .int .u32 0, .int .u32 0, .int .u32 0, .int .u32 0, .int .u32 0]) := by kernel_rfl
theorem zeroA_56 : zeroA Try.prog 56 = some (.agg [.int .i64 0, .int .i64 0, .int .i64 0, .int .u32 0]) := by kernel_rfl
theorem cvK_3_23 : cvK Try.prog 3 23 = some .u32 := by kernel_rfl
theorem cvK_23_47 : cvK Try.prog 23 47 = some .u64 := by kernel_rfl
theorem cvK_47_3 : cvK Try.prog 47 3 = some .i64 := by kernel_rfl
theorem cvK_47_23 : cvK Try.prog 47 23 = some .u32 := by kernel_rfl

end Go.Va
