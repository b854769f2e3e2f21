/- Part 2 of the proof: S0. -/
import Derived.KernelRfl
import Derived.Test.YtkofbgicfmojjaaProg
import Derived.Test.YtkofbgicfmojjaaVaK1
section
set_option maxRecDepth 100000
namespace Go.Va
open Go.Proofs

def S3L1 : SC :=
  (.seq (.reg [⟨some 90, .binOp .lss 3 (.tmp 89) (.tmp 88) 3, none⟩] [])
  (.seq (.cond (.tmp 90) .skip (.exit 0))
  (.seq (.block 1 (.seq (.reg [⟨some 91, .move (.tmp 89), none⟩,
    ⟨some 16, .assign (.tmp 91), none⟩] [])
  (.seq (.reg [⟨some 92, .move (.tmp 11), none⟩,
    ⟨some 93, .move (.tmp 16), none⟩,
    ⟨some 94, .indexAddr 32 (.tmp 92) (.tmp 93), none⟩,
    ⟨some 95, .load 23 (.tmp 94), none⟩,
    ⟨some 96, .move (.tmp 15), none⟩,
    ⟨some 97, .move (.tmp 16), none⟩,
    ⟨some 98, .indexAddr 32 (.tmp 96) (.tmp 97), none⟩,
    ⟨some 99, .load 23 (.tmp 98), none⟩,
    ⟨some 100, .binOp .neq 23 (.tmp 95) (.tmp 99) 23, none⟩] [])
  (.cond (.tmp 100) (.seq (.reg [⟨some 6, .assign (.const (.bool false)), none⟩] [])
  .ret) .skip))))
  (.reg [⟨some 101, .binOp .add 3 (.tmp 89) (.const (.int .i64 1)) 3, none⟩,
    ⟨some 89, .move (.tmp 101), none⟩] []))))
/-- tamis/tamislaw11.TermValues -/
def S3 : SC :=
  (.seq (.reg [⟨some 4, .box 25 (.tmp 1), none⟩,
    ⟨some 6, .assign (.const (.bool false)), none⟩] [])
  (.seq (.seq (.reg [⟨some 17, .call { callee := .value (.func 9), args := #[], argTypes := #[] }, none⟩,
    ⟨some 18, .unOp .not 4 (.tmp 17), none⟩,
    ⟨some 19, .move (.tmp 18), none⟩,
    ⟨some 20, .move (.tmp 0), some (19, false)⟩,
    ⟨some 21, .call { callee := .builtin .len, args := #[.tmp 20], argTypes := #[22] }, some (19, false)⟩,
    ⟨some 22, .binOp .gtr 3 (.tmp 21) (.const (.int .i64 300)) 3, some (19, false)⟩,
    ⟨some 23, .pick (.tmp 19) (.const (.bool true)) (.tmp 22), none⟩] [])
  (.cond (.tmp 23) (.seq (.reg [⟨some 24, .call { callee := .value (.func 9), args := #[], argTypes := #[] }, none⟩,
    ⟨some 6, .assign (.tmp 24), none⟩] [])
  .ret) .skip))
  (.seq (.reg [⟨some 26, .buildSlice 22 0 #[], none⟩,
    ⟨some 27, .move (.tmp 0), none⟩,
    ⟨some 28, .call { callee := .builtin .append, args := #[.tmp 26, .tmp 27], argTypes := #[22, 22] }, none⟩,
    ⟨some 29, .call { callee := .value (.func 10), args := #[.tmp 28], argTypes := #[22] }, none⟩,
    ⟨some 25, .move (.tmp 29), none⟩,
    ⟨some 30, .extract (.tmp 25) 0, none⟩,
    ⟨some 31, .extract (.tmp 25) 1, none⟩,
    ⟨some 7, .assign (.tmp 30), none⟩,
    ⟨some 8, .assign (.tmp 31), none⟩] [])
  (.seq (.reg [⟨some 33, .move (.tmp 0), none⟩,
    ⟨some 34, .call { callee := .value (.func 11), args := #[.tmp 33], argTypes := #[22] }, none⟩,
    ⟨some 32, .move (.tmp 34), none⟩,
    ⟨some 35, .extract (.tmp 32) 0, none⟩,
    ⟨some 36, .extract (.tmp 32) 1, none⟩,
    ⟨some 9, .assign (.tmp 35), none⟩,
    ⟨some 10, .assign (.tmp 36), none⟩] [])
  (.seq (.reg [⟨some 38, .move (.tmp 0), none⟩,
    ⟨some 39, .load 25 (.tmp 4), none⟩,
    ⟨some 40, .call { callee := .value (.func 12), args := #[.tmp 38, .tmp 39], argTypes := #[22, 25] }, none⟩,
    ⟨some 37, .move (.tmp 40), none⟩,
    ⟨some 41, .extract (.tmp 37) 0, none⟩,
    ⟨some 42, .extract (.tmp 37) 1, none⟩,
    ⟨some 11, .assign (.tmp 41), none⟩,
    ⟨some 12, .assign (.tmp 42), none⟩] [])
  (.seq (.reg [⟨some 44, .move (.tmp 0), none⟩,
    ⟨some 45, .move (.tmp 2), none⟩,
    ⟨some 46, .load 25 (.tmp 4), none⟩,
    ⟨some 47, .call { callee := .value (.func 13), args := #[.tmp 44, .tmp 45, .tmp 46], argTypes := #[22, 3, 25] }, none⟩,
    ⟨some 43, .move (.tmp 47), none⟩,
    ⟨some 48, .extract (.tmp 43) 0, none⟩,
    ⟨some 49, .extract (.tmp 43) 1, none⟩,
    ⟨some 13, .assign (.tmp 48), none⟩,
    ⟨some 14, .assign (.tmp 49), none⟩] [])
  (.seq (.seq (.reg [⟨some 50, .move (.tmp 7), none⟩,
    ⟨some 51, .move (.tmp 9), none⟩,
    ⟨some 52, .binOp .neq 3 (.tmp 50) (.tmp 51) 3, none⟩,
    ⟨some 53, .move (.tmp 52), none⟩,
    ⟨some 54, .move (.tmp 8), some (53, false)⟩,
    ⟨some 55, .move (.tmp 10), some (53, false)⟩,
    ⟨some 56, .binOp .neq 3 (.tmp 54) (.tmp 55) 3, some (53, false)⟩,
    ⟨some 57, .pick (.tmp 53) (.const (.bool true)) (.tmp 56), none⟩] [])
  (.cond (.tmp 57) (.seq (.reg [⟨some 6, .assign (.const (.bool false)), none⟩] [])
  .ret) .skip))
  (.seq (.seq (.reg [⟨some 58, .move (.tmp 10), none⟩,
    ⟨some 59, .binOp .neq 3 (.tmp 58) (.const (.int .i64 0)) 3, none⟩] [])
  (.cond (.tmp 59) (.seq (.reg [⟨some 60, .move (.tmp 11), none⟩,
    ⟨some 61, .call { callee := .builtin .len, args := #[.tmp 60], argTypes := #[32] }, none⟩,
    ⟨some 62, .binOp .eql 3 (.tmp 61) (.const (.int .i64 0)) 3, none⟩,
    ⟨some 63, .move (.tmp 62), none⟩,
    ⟨some 64, .move (.tmp 12), some (63, true)⟩,
    ⟨some 65, .binOp .eql 27 (.tmp 64) (.const (.int .i64 3)) 27, some (63, true)⟩,
    ⟨some 66, .pick (.tmp 63) (.tmp 65) (.const (.bool false)), none⟩,
    ⟨some 67, .move (.tmp 66), none⟩,
    ⟨some 68, .move (.tmp 13), some (67, true)⟩,
    ⟨some 69, .binOp .eql 23 (.tmp 68) (.const (.int .u32 0)) 23, some (67, true)⟩,
    ⟨some 70, .pick (.tmp 67) (.tmp 69) (.const (.bool false)), none⟩,
    ⟨some 71, .move (.tmp 70), none⟩,
    ⟨some 72, .move (.tmp 14), some (71, true)⟩,
    ⟨some 73, .binOp .eql 27 (.tmp 72) (.const (.int .i64 3)) 27, some (71, true)⟩,
    ⟨some 74, .pick (.tmp 71) (.tmp 73) (.const (.bool false)), none⟩,
    ⟨some 6, .assign (.tmp 74), none⟩] [])
  .ret) .skip))
  (.seq (.reg [⟨some 75, .move (.tmp 0), none⟩,
    ⟨some 76, .load 25 (.tmp 4), none⟩,
    ⟨some 77, .call { callee := .value (.func 14), args := #[.tmp 75, .tmp 76], argTypes := #[22, 25] }, none⟩,
    ⟨some 15, .assign (.tmp 77), none⟩] [])
  (.seq (.seq (.reg [⟨some 78, .move (.tmp 12), none⟩,
    ⟨some 79, .binOp .neq 27 (.tmp 78) (.const (.int .i64 0)) 27, none⟩,
    ⟨some 80, .move (.tmp 79), none⟩,
    ⟨some 81, .move (.tmp 11), some (80, false)⟩,
    ⟨some 82, .call { callee := .builtin .len, args := #[.tmp 81], argTypes := #[32] }, some (80, false)⟩,
    ⟨some 83, .move (.tmp 15), some (80, false)⟩,
    ⟨some 84, .call { callee := .builtin .len, args := #[.tmp 83], argTypes := #[32] }, some (80, false)⟩,
    ⟨some 85, .binOp .neq 3 (.tmp 82) (.tmp 84) 3, some (80, false)⟩,
    ⟨some 86, .pick (.tmp 80) (.const (.bool true)) (.tmp 85), none⟩] [])
  (.cond (.tmp 86) (.seq (.reg [⟨some 6, .assign (.const (.bool false)), none⟩] [])
  .ret) .skip))
  (.seq (.seq (.reg [⟨some 87, .move (.tmp 11), none⟩,
    ⟨some 88, .call { callee := .builtin .len, args := #[.tmp 87], argTypes := #[32] }, none⟩,
    ⟨some 89, .move (.const (.int .i64 0)), none⟩] [])
  (.block 0 (.loop S3L1)))
  (.seq (.seq (.reg [⟨some 102, .move (.tmp 2), none⟩,
    ⟨some 103, .binOp .lss 3 (.tmp 102) (.const (.int .i64 0)) 3, none⟩,
    ⟨some 104, .move (.tmp 103), none⟩,
    ⟨some 105, .move (.tmp 2), some (104, false)⟩,
    ⟨some 106, .move (.tmp 15), some (104, false)⟩,
    ⟨some 107, .call { callee := .builtin .len, args := #[.tmp 106], argTypes := #[32] }, some (104, false)⟩,
    ⟨some 108, .binOp .geq 3 (.tmp 105) (.tmp 107) 3, some (104, false)⟩,
    ⟨some 109, .pick (.tmp 104) (.const (.bool true)) (.tmp 108), none⟩] [])
  (.cond (.tmp 109) (.seq (.reg [⟨some 110, .move (.tmp 13), none⟩,
    ⟨some 111, .binOp .eql 23 (.tmp 110) (.const (.int .u32 0)) 23, none⟩,
    ⟨some 112, .move (.tmp 111), none⟩,
    ⟨some 113, .move (.tmp 14), some (112, true)⟩,
    ⟨some 114, .binOp .eql 27 (.tmp 113) (.const (.int .i64 2)) 27, some (112, true)⟩,
    ⟨some 115, .pick (.tmp 112) (.tmp 114) (.const (.bool false)), none⟩,
    ⟨some 6, .assign (.tmp 115), none⟩] [])
  .ret) .skip))
  (.seq (.reg [⟨some 116, .move (.tmp 13), none⟩,
    ⟨some 117, .move (.tmp 15), none⟩,
    ⟨some 118, .move (.tmp 2), none⟩,
    ⟨some 119, .indexAddr 32 (.tmp 117) (.tmp 118), none⟩,
    ⟨some 120, .load 23 (.tmp 119), none⟩,
    ⟨some 121, .binOp .eql 23 (.tmp 116) (.tmp 120) 23, none⟩,
    ⟨some 122, .move (.tmp 121), none⟩,
    ⟨some 123, .move (.tmp 14), some (122, true)⟩,
    ⟨some 124, .binOp .eql 27 (.tmp 123) (.const (.int .i64 0)) 27, some (122, true)⟩,
    ⟨some 125, .pick (.tmp 122) (.tmp 124) (.const (.bool false)), none⟩,
    ⟨some 6, .assign (.tmp 125), none⟩] [])
  .ret)))))))))))))
theorem S3_eq : slimF Try.prog 3 = some (126, [.tmp 6], S3) := by kernel_rfl

def S4L2 : SC :=
  (.seq (.reg [⟨some 42, .binOp .lss 3 (.tmp 41) (.const (.int .i64 16)) 3, none⟩] [])
  (.seq (.cond (.tmp 42) .skip (.exit 2))
  (.seq (.block 3 (.seq (.reg [⟨some 43, .move (.tmp 41), none⟩,
    ⟨some 11, .assign (.tmp 43), none⟩] [])
  (.seq (.reg [⟨some 44, .move (.tmp 8), none⟩,
    ⟨some 45, .move (.tmp 11), none⟩,
    ⟨some 46, .binOp .shr 40 (.tmp 44) (.tmp 45) 3, none⟩,
    ⟨some 47, .binOp .and 40 (.tmp 46) (.const (.int .u16 1)) 40, none⟩,
    ⟨some 48, .binOp .neq 40 (.tmp 47) (.const (.int .u16 0)) 40, none⟩] [])
  (.cond (.tmp 48) (.reg [⟨some 49, .move (.tmp 11), none⟩,
    ⟨some 50, .move (.tmp 11), none⟩,
    ⟨some 51, .indexAddr 25 (.tmp 4) (.tmp 50), none⟩,
    ⟨some 52, .load 23 (.tmp 51), none⟩,
    ⟨some 53, .indexAddr 25 (.tmp 10) (.tmp 49), none⟩,
    ⟨none, .store 23 (.tmp 53) (.tmp 52), none⟩] []) .skip))))
  (.reg [⟨some 54, .binOp .add 3 (.tmp 41) (.const (.int .i64 1)) 3, none⟩,
    ⟨some 41, .move (.tmp 54), none⟩] []))))
def S4L1 : SC :=
  (.seq (.reg [⟨some 32, .binOp .lss 3 (.tmp 31) (.tmp 30) 3, none⟩] [])
  (.seq (.cond (.tmp 32) .skip (.exit 0))
  (.seq (.block 1 (.seq (.reg [⟨some 33, .move (.tmp 31), none⟩,
    ⟨some 7, .assign (.tmp 33), none⟩] [])
  (.seq (.reg [⟨some 35, .move (.tmp 0), none⟩,
    ⟨some 36, .move (.tmp 7), none⟩,
    ⟨some 37, .call { callee := .value (.func 16), args := #[.tmp 35, .tmp 36], argTypes := #[22, 3] }, none⟩,
    ⟨some 34, .move (.tmp 37), none⟩,
    ⟨some 38, .extract (.tmp 34) 0, none⟩,
    ⟨some 39, .extract (.tmp 34) 1, none⟩,
    ⟨some 8, .assign (.tmp 38), none⟩,
    ⟨some 9, .assign (.tmp 39), none⟩] [])
  (.seq (.reg [⟨some 40, .load 25 (.tmp 5), none⟩,
    ⟨some 10, .alloc 25, none⟩,
    ⟨none, .store 25 (.tmp 10) (.tmp 40), none⟩] [])
  (.seq (.seq (.reg [⟨some 41, .move (.const (.int .i64 0)), none⟩] [])
  (.block 2 (.loop S4L2)))
  (.seq (.reg [⟨some 56, .move (.tmp 0), none⟩,
    ⟨some 57, .move (.tmp 7), none⟩,
    ⟨some 58, .load 25 (.tmp 4), none⟩,
    ⟨some 59, .call { callee := .value (.func 13), args := #[.tmp 56, .tmp 57, .tmp 58], argTypes := #[22, 3, 25] }, none⟩,
    ⟨some 55, .move (.tmp 59), none⟩,
    ⟨some 60, .extract (.tmp 55) 0, none⟩,
    ⟨some 61, .extract (.tmp 55) 1, none⟩,
    ⟨some 12, .assign (.tmp 60), none⟩,
    ⟨some 13, .assign (.tmp 61), none⟩] [])
  (.seq (.reg [⟨some 63, .move (.tmp 0), none⟩,
    ⟨some 64, .move (.tmp 7), none⟩,
    ⟨some 65, .load 25 (.tmp 10), none⟩,
    ⟨some 66, .call { callee := .value (.func 13), args := #[.tmp 63, .tmp 64, .tmp 65], argTypes := #[22, 3, 25] }, none⟩,
    ⟨some 62, .move (.tmp 66), none⟩,
    ⟨some 67, .extract (.tmp 62) 0, none⟩,
    ⟨some 68, .extract (.tmp 62) 1, none⟩,
    ⟨some 14, .assign (.tmp 67), none⟩,
    ⟨some 15, .assign (.tmp 68), none⟩] [])
  (.seq (.reg [⟨some 69, .move (.tmp 9), none⟩,
    ⟨some 70, .binOp .neq 27 (.tmp 69) (.const (.int .i64 0)) 27, none⟩,
    ⟨some 71, .move (.tmp 70), none⟩,
    ⟨some 72, .move (.tmp 13), some (71, false)⟩,
    ⟨some 73, .binOp .neq 27 (.tmp 72) (.const (.int .i64 0)) 27, some (71, false)⟩,
    ⟨some 74, .pick (.tmp 71) (.const (.bool true)) (.tmp 73), none⟩,
    ⟨some 75, .move (.tmp 74), none⟩,
    ⟨some 76, .move (.tmp 15), some (75, false)⟩,
    ⟨some 77, .binOp .neq 27 (.tmp 76) (.const (.int .i64 0)) 27, some (75, false)⟩,
    ⟨some 78, .pick (.tmp 75) (.const (.bool true)) (.tmp 77), none⟩,
    ⟨some 79, .move (.tmp 78), none⟩,
    ⟨some 80, .move (.tmp 12), some (79, false)⟩,
    ⟨some 81, .move (.tmp 14), some (79, false)⟩,
    ⟨some 82, .binOp .neq 23 (.tmp 80) (.tmp 81) 23, some (79, false)⟩,
    ⟨some 83, .pick (.tmp 79) (.const (.bool true)) (.tmp 82), none⟩,
    ⟨some 84, .move (.tmp 83), none⟩,
    ⟨some 85, .move (.tmp 8), some (84, false)⟩,
    ⟨some 86, .move (.tmp 0), some (84, false)⟩,
    ⟨some 87, .move (.tmp 7), some (84, false)⟩,
    ⟨some 88, .call { callee := .value (.func 17), args := #[.tmp 86, .tmp 87], argTypes := #[22, 3] }, some (84, false)⟩,
    ⟨some 89, .binOp .neq 40 (.tmp 85) (.tmp 88) 40, some (84, false)⟩,
    ⟨some 90, .pick (.tmp 84) (.const (.bool true)) (.tmp 89), none⟩] [])
  (.cond (.tmp 90) (.seq (.reg [⟨some 6, .assign (.const (.bool false)), none⟩] [])
  .ret) .skip)))))))))
  (.reg [⟨some 91, .binOp .add 3 (.tmp 31) (.const (.int .i64 1)) 3, none⟩,
    ⟨some 31, .move (.tmp 91), none⟩] []))))
/-- tamis/tamislaw11.TermUses -/
def S4 : SC :=
  (.seq (.reg [⟨some 4, .box 25 (.tmp 1), none⟩,
    ⟨some 5, .box 25 (.tmp 2), none⟩,
    ⟨some 6, .assign (.const (.bool false)), none⟩] [])
  (.seq (.seq (.reg [⟨some 16, .call { callee := .value (.func 9), args := #[], argTypes := #[] }, none⟩,
    ⟨some 17, .unOp .not 4 (.tmp 16), none⟩,
    ⟨some 18, .move (.tmp 17), none⟩,
    ⟨some 19, .move (.tmp 0), some (18, false)⟩,
    ⟨some 20, .call { callee := .builtin .len, args := #[.tmp 19], argTypes := #[22] }, some (18, false)⟩,
    ⟨some 21, .binOp .gtr 3 (.tmp 20) (.const (.int .i64 40)) 3, some (18, false)⟩,
    ⟨some 22, .pick (.tmp 18) (.const (.bool true)) (.tmp 21), none⟩,
    ⟨some 23, .move (.tmp 22), none⟩,
    ⟨some 24, .move (.tmp 0), some (23, false)⟩,
    ⟨some 25, .call { callee := .value (.func 15), args := #[.tmp 24], argTypes := #[22] }, some (23, false)⟩,
    ⟨some 26, .unOp .not 4 (.tmp 25), some (23, false)⟩,
    ⟨some 27, .pick (.tmp 23) (.const (.bool true)) (.tmp 26), none⟩] [])
  (.cond (.tmp 27) (.seq (.reg [⟨some 28, .call { callee := .value (.func 9), args := #[], argTypes := #[] }, none⟩,
    ⟨some 6, .assign (.tmp 28), none⟩] [])
  .ret) .skip))
  (.seq (.seq (.reg [⟨some 29, .move (.tmp 0), none⟩,
    ⟨some 30, .call { callee := .builtin .len, args := #[.tmp 29], argTypes := #[22] }, none⟩,
    ⟨some 31, .move (.const (.int .i64 0)), none⟩] [])
  (.block 0 (.loop S4L1)))
  (.seq (.reg [⟨some 6, .assign (.const (.bool true)), none⟩] [])
  .ret))))
theorem S4_eq : slimF Try.prog 4 = some (92, [.tmp 6], S4) := by kernel_rfl

def S5L2 : SC :=
  (.seq (.reg [⟨some 45, .binOp .lss 3 (.tmp 44) (.tmp 43) 3, none⟩] [])
  (.seq (.cond (.tmp 45) .skip (.exit 2))
  (.seq (.block 3 (.seq (.reg [⟨some 46, .indexAddr 50 (.tmp 42) (.tmp 44), none⟩,
    ⟨some 47, .load 4 (.tmp 46), none⟩,
    ⟨some 9, .assign (.tmp 47), none⟩] [])
  (.seq (.reg [⟨some 48, .move (.tmp 9), none⟩] [])
  (.cond (.tmp 48) (.reg [⟨some 49, .move (.tmp 7), none⟩,
    ⟨some 50, .binOp .add 47 (.tmp 49) (.const (.int .u64 1)) 47, none⟩,
    ⟨some 7, .assign (.tmp 50), none⟩] []) .skip))))
  (.reg [⟨some 51, .binOp .add 3 (.tmp 44) (.const (.int .i64 1)) 3, none⟩,
    ⟨some 44, .move (.tmp 51), none⟩] []))))
def S5L1 : SC :=
  (.seq (.reg [⟨some 32, .binOp .lss 3 (.tmp 31) (.tmp 30) 3, none⟩] [])
  (.seq (.cond (.tmp 32) .skip (.exit 0))
  (.seq (.block 1 (.seq (.reg [⟨some 33, .move (.tmp 31), none⟩,
    ⟨some 4, .assign (.tmp 33), none⟩] [])
  (.seq (.reg [⟨some 35, .move (.tmp 0), none⟩,
    ⟨some 36, .move (.tmp 4), none⟩,
    ⟨some 37, .call { callee := .value (.func 19), args := #[.tmp 35, .tmp 36], argTypes := #[22, 3] }, none⟩,
    ⟨some 34, .move (.tmp 37), none⟩,
    ⟨some 38, .extract (.tmp 34) 0, none⟩,
    ⟨some 39, .extract (.tmp 34) 1, none⟩,
    ⟨some 5, .assign (.tmp 38), none⟩,
    ⟨some 6, .assign (.tmp 39), none⟩] [])
  (.seq (.reg [⟨some 7, .assign (.const (.int .u64 0)), none⟩] [])
  (.seq (.seq (.reg [⟨some 40, .move (.tmp 0), none⟩,
    ⟨some 41, .move (.tmp 4), none⟩,
    ⟨some 42, .call { callee := .value (.func 20), args := #[.tmp 40, .tmp 41], argTypes := #[22, 3] }, none⟩,
    ⟨some 43, .call { callee := .builtin .len, args := #[.tmp 42], argTypes := #[50] }, none⟩,
    ⟨some 44, .move (.const (.int .i64 0)), none⟩] [])
  (.block 2 (.loop S5L2)))
  (.seq (.reg [⟨some 52, .move (.tmp 6), none⟩,
    ⟨some 53, .binOp .neq 27 (.tmp 52) (.const (.int .i64 0)) 27, none⟩,
    ⟨some 54, .move (.tmp 53), none⟩,
    ⟨some 55, .move (.tmp 5), some (54, false)⟩,
    ⟨some 56, .move (.tmp 3), some (54, false)⟩,
    ⟨some 57, .move (.tmp 4), some (54, false)⟩,
    ⟨some 58, .indexAddr 45 (.tmp 56) (.tmp 57), some (54, false)⟩,
    ⟨some 59, .load 47 (.tmp 58), some (54, false)⟩,
    ⟨some 60, .binOp .neq 47 (.tmp 55) (.tmp 59) 47, some (54, false)⟩,
    ⟨some 61, .pick (.tmp 54) (.const (.bool true)) (.tmp 60), none⟩,
    ⟨some 62, .move (.tmp 61), none⟩,
    ⟨some 63, .move (.tmp 5), some (62, false)⟩,
    ⟨some 64, .move (.tmp 7), some (62, false)⟩,
    ⟨some 65, .binOp .lss 47 (.tmp 63) (.tmp 64) 47, some (62, false)⟩,
    ⟨some 66, .pick (.tmp 62) (.const (.bool true)) (.tmp 65), none⟩] [])
  (.cond (.tmp 66) (.seq (.reg [⟨some 2, .assign (.const (.bool false)), none⟩] [])
  .ret) .skip)))))))
  (.reg [⟨some 67, .binOp .add 3 (.tmp 31) (.const (.int .i64 1)) 3, none⟩,
    ⟨some 31, .move (.tmp 67), none⟩] []))))
/-- tamis/tamislaw11.TermSize -/
def S5 : SC :=
  (.seq (.reg [⟨some 2, .assign (.const (.bool false)), none⟩] [])
  (.seq (.seq (.reg [⟨some 14, .call { callee := .value (.func 9), args := #[], argTypes := #[] }, none⟩,
    ⟨some 15, .unOp .not 4 (.tmp 14), none⟩,
    ⟨some 16, .move (.tmp 15), none⟩,
    ⟨some 17, .move (.tmp 0), some (16, false)⟩,
    ⟨some 18, .call { callee := .builtin .len, args := #[.tmp 17], argTypes := #[22] }, some (16, false)⟩,
    ⟨some 19, .binOp .gtr 3 (.tmp 18) (.const (.int .i64 200)) 3, some (16, false)⟩,
    ⟨some 20, .pick (.tmp 16) (.const (.bool true)) (.tmp 19), none⟩,
    ⟨some 21, .move (.tmp 20), none⟩,
    ⟨some 22, .move (.tmp 0), some (21, false)⟩,
    ⟨some 23, .call { callee := .value (.func 15), args := #[.tmp 22], argTypes := #[22] }, some (21, false)⟩,
    ⟨some 24, .unOp .not 4 (.tmp 23), some (21, false)⟩,
    ⟨some 25, .pick (.tmp 21) (.const (.bool true)) (.tmp 24), none⟩] [])
  (.cond (.tmp 25) (.seq (.reg [⟨some 26, .call { callee := .value (.func 9), args := #[], argTypes := #[] }, none⟩,
    ⟨some 2, .assign (.tmp 26), none⟩] [])
  .ret) .skip))
  (.seq (.reg [⟨some 27, .move (.tmp 0), none⟩,
    ⟨some 28, .call { callee := .value (.func 18), args := #[.tmp 27], argTypes := #[22] }, none⟩,
    ⟨some 3, .assign (.tmp 28), none⟩] [])
  (.seq (.seq (.reg [⟨some 29, .move (.tmp 0), none⟩,
    ⟨some 30, .call { callee := .builtin .len, args := #[.tmp 29], argTypes := #[22] }, none⟩,
    ⟨some 31, .move (.const (.int .i64 0)), none⟩] [])
  (.block 0 (.loop S5L1)))
  (.seq (.reg [⟨some 69, .move (.tmp 0), none⟩,
    ⟨some 70, .move (.tmp 0), none⟩,
    ⟨some 71, .call { callee := .builtin .len, args := #[.tmp 70], argTypes := #[22] }, none⟩,
    ⟨some 72, .call { callee := .value (.func 19), args := #[.tmp 69, .tmp 71], argTypes := #[22, 3] }, none⟩,
    ⟨some 68, .move (.tmp 72), none⟩,
    ⟨some 73, .extract (.tmp 68) 0, none⟩,
    ⟨some 74, .extract (.tmp 68) 1, none⟩,
    ⟨some 10, .assign (.tmp 73), none⟩,
    ⟨some 11, .assign (.tmp 74), none⟩] [])
  (.seq (.reg [⟨some 76, .move (.tmp 0), none⟩,
    ⟨some 77, .call { callee := .value (.func 16), args := #[.tmp 76, .const (.int .i64 (-1))], argTypes := #[22, 3] }, none⟩,
    ⟨some 75, .move (.tmp 77), none⟩,
    ⟨some 78, .extract (.tmp 75) 0, none⟩,
    ⟨some 79, .extract (.tmp 75) 1, none⟩,
    ⟨some 12, .assign (.tmp 78), none⟩,
    ⟨some 13, .assign (.tmp 79), none⟩] [])
  (.seq (.reg [⟨some 80, .move (.tmp 11), none⟩,
    ⟨some 81, .binOp .eql 27 (.tmp 80) (.const (.int .i64 2)) 27, none⟩,
    ⟨some 82, .move (.tmp 81), none⟩,
    ⟨some 83, .move (.tmp 13), some (82, true)⟩,
    ⟨some 84, .binOp .eql 27 (.tmp 83) (.const (.int .i64 2)) 27, some (82, true)⟩,
    ⟨some 85, .pick (.tmp 82) (.tmp 84) (.const (.bool false)), none⟩,
    ⟨some 2, .assign (.tmp 85), none⟩] [])
  .ret)))))))
theorem S5_eq : slimF Try.prog 5 = some (86, [.tmp 2], S5) := by kernel_rfl

def S6L2 : SC :=
  (.seq (.reg [⟨some 94, .binOp .lss 3 (.tmp 93) (.tmp 92) 3, none⟩] [])
  (.seq (.cond (.tmp 94) .skip (.exit 2))
  (.seq (.block 3 (.seq (.reg [⟨some 95, .move (.tmp 93), none⟩,
    ⟨some 96, .indexAddr 50 (.tmp 91) (.tmp 93), none⟩,
    ⟨some 97, .load 4 (.tmp 96), none⟩,
    ⟨some 13, .assign (.tmp 95), none⟩,
    ⟨some 14, .assign (.tmp 97), none⟩] [])
  (.reg [⟨some 98, .move (.tmp 10), none⟩,
    ⟨some 99, .move (.tmp 13), none⟩,
    ⟨some 100, .move (.tmp 10), none⟩,
    ⟨some 101, .move (.tmp 13), none⟩,
    ⟨some 102, .indexAddr 50 (.tmp 100) (.tmp 101), none⟩,
    ⟨some 103, .load 4 (.tmp 102), none⟩,
    ⟨some 104, .move (.tmp 103), none⟩,
    ⟨some 105, .move (.tmp 14), some (104, false)⟩,
    ⟨some 106, .pick (.tmp 104) (.const (.bool true)) (.tmp 105), none⟩,
    ⟨some 107, .indexAddr 50 (.tmp 98) (.tmp 99), none⟩,
    ⟨none, .store 4 (.tmp 107) (.tmp 106), none⟩] [])))
  (.reg [⟨some 108, .binOp .add 3 (.tmp 93) (.const (.int .i64 1)) 3, none⟩,
    ⟨some 93, .move (.tmp 108), none⟩] []))))
def S6L1 : SC :=
  (.seq (.reg [⟨some 66, .binOp .lss 3 (.tmp 65) (.tmp 64) 3, none⟩] [])
  (.seq (.cond (.tmp 66) .skip (.exit 0))
  (.seq (.block 1 (.seq (.reg [⟨some 67, .indexAddr 52 (.tmp 63) (.tmp 65), none⟩,
    ⟨some 68, .load 3 (.tmp 67), none⟩,
    ⟨some 12, .assign (.tmp 68), none⟩] [])
  (.seq (.seq (.reg [⟨some 69, .move (.tmp 12), none⟩,
    ⟨some 70, .binOp .lss 3 (.tmp 69) (.const (.int .i64 0)) 3, none⟩,
    ⟨some 71, .move (.tmp 70), none⟩,
    ⟨some 72, .move (.tmp 12), some (71, false)⟩,
    ⟨some 73, .move (.tmp 0), some (71, false)⟩,
    ⟨some 74, .call { callee := .builtin .len, args := #[.tmp 73], argTypes := #[22] }, some (71, false)⟩,
    ⟨some 75, .binOp .geq 3 (.tmp 72) (.tmp 74) 3, some (71, false)⟩,
    ⟨some 76, .pick (.tmp 71) (.const (.bool true)) (.tmp 75), none⟩] [])
  (.cond (.tmp 76) (.seq (.reg [⟨some 77, .move (.tmp 9), none⟩,
    ⟨some 78, .binOp .eql 27 (.tmp 77) (.const (.int .i64 2)) 27, none⟩,
    ⟨some 79, .move (.tmp 78), none⟩,
    ⟨some 80, .move (.tmp 7), some (79, true)⟩,
    ⟨some 81, .call { callee := .builtin .len, args := #[.tmp 80], argTypes := #[22] }, some (79, true)⟩,
    ⟨some 82, .binOp .eql 3 (.tmp 81) (.const (.int .i64 0)) 3, some (79, true)⟩,
    ⟨some 83, .pick (.tmp 79) (.tmp 82) (.const (.bool false)), none⟩,
    ⟨some 84, .move (.tmp 83), none⟩,
    ⟨some 85, .move (.tmp 8), some (84, true)⟩,
    ⟨some 86, .call { callee := .builtin .len, args := #[.tmp 85], argTypes := #[52] }, some (84, true)⟩,
    ⟨some 87, .binOp .eql 3 (.tmp 86) (.const (.int .i64 0)) 3, some (84, true)⟩,
    ⟨some 88, .pick (.tmp 84) (.tmp 87) (.const (.bool false)), none⟩,
    ⟨some 6, .assign (.tmp 88), none⟩] [])
  .ret) .skip))
  (.seq (.reg [⟨some 89, .move (.tmp 0), none⟩,
    ⟨some 90, .move (.tmp 12), none⟩,
    ⟨some 91, .call { callee := .value (.func 20), args := #[.tmp 89, .tmp 90], argTypes := #[22, 3] }, none⟩,
    ⟨some 92, .call { callee := .builtin .len, args := #[.tmp 91], argTypes := #[50] }, none⟩,
    ⟨some 93, .move (.const (.int .i64 0)), none⟩] [])
  (.block 2 (.loop S6L2))))))
  (.reg [⟨some 109, .binOp .add 3 (.tmp 65) (.const (.int .i64 1)) 3, none⟩,
    ⟨some 65, .move (.tmp 109), none⟩] []))))
def S6L3 : SC :=
  (.seq (.reg [⟨some 133, .binOp .lss 3 (.tmp 132) (.tmp 131) 3, none⟩] [])
  (.seq (.cond (.tmp 133) .skip (.exit 4))
  (.seq (.block 5 (.seq (.reg [⟨some 134, .move (.tmp 132), none⟩,
    ⟨some 18, .assign (.tmp 134), none⟩] [])
  (.seq (.seq (.reg [⟨some 135, .move (.tmp 10), none⟩,
    ⟨some 136, .move (.tmp 18), none⟩,
    ⟨some 137, .indexAddr 50 (.tmp 135) (.tmp 136), none⟩,
    ⟨some 138, .load 4 (.tmp 137), none⟩,
    ⟨some 139, .unOp .not 4 (.tmp 138), none⟩] [])
  (.cond (.tmp 139) (.exit 5) .skip))
  (.seq (.seq (.reg [⟨some 140, .move (.tmp 17), none⟩,
    ⟨some 141, .move (.tmp 7), none⟩,
    ⟨some 142, .call { callee := .builtin .len, args := #[.tmp 141], argTypes := #[22] }, none⟩,
    ⟨some 143, .binOp .geq 3 (.tmp 140) (.tmp 142) 3, none⟩,
    ⟨some 144, .move (.tmp 143), none⟩,
    ⟨some 145, .move (.tmp 7), some (144, false)⟩,
    ⟨some 146, .move (.tmp 17), some (144, false)⟩,
    ⟨some 147, .indexAddr 22 (.tmp 145) (.tmp 146), some (144, false)⟩,
    ⟨some 148, .fieldAddr 56 (.tmp 147) 0, some (144, false)⟩,
    ⟨some 149, .load 3 (.tmp 148), some (144, false)⟩,
    ⟨some 150, .move (.tmp 0), some (144, false)⟩,
    ⟨some 151, .move (.tmp 18), some (144, false)⟩,
    ⟨some 152, .indexAddr 22 (.tmp 150) (.tmp 151), some (144, false)⟩,
    ⟨some 153, .fieldAddr 56 (.tmp 152) 0, some (144, false)⟩,
    ⟨some 154, .load 3 (.tmp 153), some (144, false)⟩,
    ⟨some 155, .binOp .neq 3 (.tmp 149) (.tmp 154) 3, some (144, false)⟩,
    ⟨some 156, .pick (.tmp 144) (.const (.bool true)) (.tmp 155), none⟩,
    ⟨some 157, .move (.tmp 156), none⟩,
    ⟨some 158, .move (.tmp 7), some (157, false)⟩,
    ⟨some 159, .move (.tmp 17), some (157, false)⟩,
    ⟨some 160, .indexAddr 22 (.tmp 158) (.tmp 159), some (157, false)⟩,
    ⟨some 161, .fieldAddr 56 (.tmp 160) 3, some (157, false)⟩,
    ⟨some 162, .load 23 (.tmp 161), some (157, false)⟩,
    ⟨some 163, .move (.tmp 0), some (157, false)⟩,
    ⟨some 164, .move (.tmp 18), some (157, false)⟩,
    ⟨some 165, .indexAddr 22 (.tmp 163) (.tmp 164), some (157, false)⟩,
    ⟨some 166, .fieldAddr 56 (.tmp 165) 3, some (157, false)⟩,
    ⟨some 167, .load 23 (.tmp 166), some (157, false)⟩,
    ⟨some 168, .binOp .neq 23 (.tmp 162) (.tmp 167) 23, some (157, false)⟩,
    ⟨some 169, .pick (.tmp 157) (.const (.bool true)) (.tmp 168), none⟩,
    ⟨some 170, .move (.tmp 169), none⟩,
    ⟨some 171, .move (.tmp 16), some (170, false)⟩,
    ⟨some 172, .move (.tmp 17), some (170, false)⟩,
    ⟨some 173, .indexAddr 32 (.tmp 171) (.tmp 172), some (170, false)⟩,
    ⟨some 174, .load 23 (.tmp 173), some (170, false)⟩,
    ⟨some 175, .move (.tmp 15), some (170, false)⟩,
    ⟨some 176, .move (.tmp 18), some (170, false)⟩,
    ⟨some 177, .indexAddr 32 (.tmp 175) (.tmp 176), some (170, false)⟩,
    ⟨some 178, .load 23 (.tmp 177), some (170, false)⟩,
    ⟨some 179, .binOp .neq 23 (.tmp 174) (.tmp 178) 23, some (170, false)⟩,
    ⟨some 180, .pick (.tmp 170) (.const (.bool true)) (.tmp 179), none⟩] [])
  (.cond (.tmp 180) (.seq (.reg [⟨some 6, .assign (.const (.bool false)), none⟩] [])
  .ret) .skip))
  (.reg [⟨some 181, .move (.tmp 17), none⟩,
    ⟨some 182, .binOp .add 3 (.tmp 181) (.const (.int .i64 1)) 3, none⟩,
    ⟨some 17, .assign (.tmp 182), none⟩] [])))))
  (.reg [⟨some 183, .binOp .add 3 (.tmp 132) (.const (.int .i64 1)) 3, none⟩,
    ⟨some 132, .move (.tmp 183), none⟩] []))))
def S6L4 : SC :=
  (.seq (.reg [⟨some 187, .binOp .lss 3 (.tmp 186) (.tmp 185) 3, none⟩] [])
  (.seq (.cond (.tmp 187) .skip (.exit 6))
  (.seq (.block 7 (.seq (.reg [⟨some 188, .move (.tmp 186), none⟩,
    ⟨some 189, .indexAddr 52 (.tmp 184) (.tmp 186), none⟩,
    ⟨some 190, .load 3 (.tmp 189), none⟩,
    ⟨some 19, .assign (.tmp 188), none⟩,
    ⟨some 20, .assign (.tmp 190), none⟩] [])
  (.seq (.reg [⟨some 191, .move (.tmp 8), none⟩,
    ⟨some 192, .move (.tmp 19), none⟩,
    ⟨some 193, .indexAddr 52 (.tmp 191) (.tmp 192), none⟩,
    ⟨some 194, .load 3 (.tmp 193), none⟩,
    ⟨some 195, .binOp .lss 3 (.tmp 194) (.const (.int .i64 0)) 3, none⟩,
    ⟨some 196, .move (.tmp 195), none⟩,
    ⟨some 197, .move (.tmp 8), some (196, false)⟩,
    ⟨some 198, .move (.tmp 19), some (196, false)⟩,
    ⟨some 199, .indexAddr 52 (.tmp 197) (.tmp 198), some (196, false)⟩,
    ⟨some 200, .load 3 (.tmp 199), some (196, false)⟩,
    ⟨some 201, .move (.tmp 7), some (196, false)⟩,
    ⟨some 202, .call { callee := .builtin .len, args := #[.tmp 201], argTypes := #[22] }, some (196, false)⟩,
    ⟨some 203, .binOp .geq 3 (.tmp 200) (.tmp 202) 3, some (196, false)⟩,
    ⟨some 204, .pick (.tmp 196) (.const (.bool true)) (.tmp 203), none⟩,
    ⟨some 205, .move (.tmp 204), none⟩,
    ⟨some 206, .move (.tmp 16), some (205, false)⟩,
    ⟨some 207, .move (.tmp 8), some (205, false)⟩,
    ⟨some 208, .move (.tmp 19), some (205, false)⟩,
    ⟨some 209, .indexAddr 52 (.tmp 207) (.tmp 208), some (205, false)⟩,
    ⟨some 210, .load 3 (.tmp 209), some (205, false)⟩,
    ⟨some 211, .indexAddr 32 (.tmp 206) (.tmp 210), some (205, false)⟩,
    ⟨some 212, .load 23 (.tmp 211), some (205, false)⟩,
    ⟨some 213, .move (.tmp 15), some (205, false)⟩,
    ⟨some 214, .move (.tmp 20), some (205, false)⟩,
    ⟨some 215, .indexAddr 32 (.tmp 213) (.tmp 214), some (205, false)⟩,
    ⟨some 216, .load 23 (.tmp 215), some (205, false)⟩,
    ⟨some 217, .binOp .neq 23 (.tmp 212) (.tmp 216) 23, some (205, false)⟩,
    ⟨some 218, .pick (.tmp 205) (.const (.bool true)) (.tmp 217), none⟩,
    ⟨some 219, .move (.tmp 218), none⟩,
    ⟨some 220, .move (.tmp 7), some (219, false)⟩,
    ⟨some 221, .move (.tmp 8), some (219, false)⟩,
    ⟨some 222, .move (.tmp 19), some (219, false)⟩,
    ⟨some 223, .indexAddr 52 (.tmp 221) (.tmp 222), some (219, false)⟩,
    ⟨some 224, .load 3 (.tmp 223), some (219, false)⟩,
    ⟨some 225, .indexAddr 22 (.tmp 220) (.tmp 224), some (219, false)⟩,
    ⟨some 226, .fieldAddr 56 (.tmp 225) 0, some (219, false)⟩,
    ⟨some 227, .load 3 (.tmp 226), some (219, false)⟩,
    ⟨some 228, .move (.tmp 0), some (219, false)⟩,
    ⟨some 229, .move (.tmp 20), some (219, false)⟩,
    ⟨some 230, .indexAddr 22 (.tmp 228) (.tmp 229), some (219, false)⟩,
    ⟨some 231, .fieldAddr 56 (.tmp 230) 0, some (219, false)⟩,
    ⟨some 232, .load 3 (.tmp 231), some (219, false)⟩,
    ⟨some 233, .binOp .neq 3 (.tmp 227) (.tmp 232) 3, some (219, false)⟩,
    ⟨some 234, .pick (.tmp 219) (.const (.bool true)) (.tmp 233), none⟩,
    ⟨some 235, .move (.tmp 234), none⟩,
    ⟨some 236, .move (.tmp 7), some (235, false)⟩,
    ⟨some 237, .move (.tmp 8), some (235, false)⟩,
    ⟨some 238, .move (.tmp 19), some (235, false)⟩,
    ⟨some 239, .indexAddr 52 (.tmp 237) (.tmp 238), some (235, false)⟩,
    ⟨some 240, .load 3 (.tmp 239), some (235, false)⟩,
    ⟨some 241, .indexAddr 22 (.tmp 236) (.tmp 240), some (235, false)⟩,
    ⟨some 242, .fieldAddr 56 (.tmp 241) 3, some (235, false)⟩,
    ⟨some 243, .load 23 (.tmp 242), some (235, false)⟩,
    ⟨some 244, .move (.tmp 0), some (235, false)⟩,
    ⟨some 245, .move (.tmp 20), some (235, false)⟩,
    ⟨some 246, .indexAddr 22 (.tmp 244) (.tmp 245), some (235, false)⟩,
    ⟨some 247, .fieldAddr 56 (.tmp 246) 3, some (235, false)⟩,
    ⟨some 248, .load 23 (.tmp 247), some (235, false)⟩,
    ⟨some 249, .binOp .neq 23 (.tmp 243) (.tmp 248) 23, some (235, false)⟩,
    ⟨some 250, .pick (.tmp 235) (.const (.bool true)) (.tmp 249), none⟩] [])
  (.cond (.tmp 250) (.seq (.reg [⟨some 6, .assign (.const (.bool false)), none⟩] [])
  .ret) .skip))))
  (.reg [⟨some 251, .binOp .add 3 (.tmp 186) (.const (.int .i64 1)) 3, none⟩,
    ⟨some 186, .move (.tmp 251), none⟩] []))))
/-- tamis/tamislaw11.TermOnly -/
def S6 : SC :=
  (.seq (.reg [⟨some 5, .box 25 (.tmp 2), none⟩,
    ⟨some 6, .assign (.const (.bool false)), none⟩] [])
  (.seq (.seq (.reg [⟨some 21, .call { callee := .value (.func 9), args := #[], argTypes := #[] }, none⟩,
    ⟨some 22, .unOp .not 4 (.tmp 21), none⟩,
    ⟨some 23, .move (.tmp 22), none⟩,
    ⟨some 24, .move (.tmp 0), some (23, false)⟩,
    ⟨some 25, .call { callee := .builtin .len, args := #[.tmp 24], argTypes := #[22] }, some (23, false)⟩,
    ⟨some 26, .binOp .gtr 3 (.tmp 25) (.const (.int .i64 100)) 3, some (23, false)⟩,
    ⟨some 27, .pick (.tmp 23) (.const (.bool true)) (.tmp 26), none⟩,
    ⟨some 28, .move (.tmp 27), none⟩,
    ⟨some 29, .move (.tmp 1), some (28, false)⟩,
    ⟨some 30, .call { callee := .builtin .len, args := #[.tmp 29], argTypes := #[52] }, some (28, false)⟩,
    ⟨some 31, .binOp .gtr 3 (.tmp 30) (.const (.int .i64 20)) 3, some (28, false)⟩,
    ⟨some 32, .pick (.tmp 28) (.const (.bool true)) (.tmp 31), none⟩] [])
  (.cond (.tmp 32) (.seq (.reg [⟨some 33, .call { callee := .value (.func 9), args := #[], argTypes := #[] }, none⟩,
    ⟨some 6, .assign (.tmp 33), none⟩] [])
  .ret) .skip))
  (.seq (.reg [⟨some 35, .buildSlice 22 0 #[], none⟩,
    ⟨some 36, .move (.tmp 0), none⟩,
    ⟨some 37, .call { callee := .builtin .append, args := #[.tmp 35, .tmp 36], argTypes := #[22, 22] }, none⟩,
    ⟨some 38, .buildSlice 52 0 #[], none⟩,
    ⟨some 39, .move (.tmp 1), none⟩,
    ⟨some 40, .call { callee := .builtin .append, args := #[.tmp 38, .tmp 39], argTypes := #[52, 52] }, none⟩,
    ⟨some 41, .call { callee := .value (.func 21), args := #[.tmp 37, .tmp 40], argTypes := #[22, 52] }, none⟩,
    ⟨some 34, .move (.tmp 41), none⟩,
    ⟨some 42, .extract (.tmp 34) 0, none⟩,
    ⟨some 43, .extract (.tmp 34) 1, none⟩,
    ⟨some 44, .extract (.tmp 34) 2, none⟩,
    ⟨some 7, .assign (.tmp 42), none⟩,
    ⟨some 8, .assign (.tmp 43), none⟩,
    ⟨some 9, .assign (.tmp 44), none⟩] [])
  (.seq (.seq (.reg [⟨some 45, .move (.tmp 0), none⟩,
    ⟨some 46, .call { callee := .value (.func 15), args := #[.tmp 45], argTypes := #[22] }, none⟩,
    ⟨some 47, .unOp .not 4 (.tmp 46), none⟩] [])
  (.cond (.tmp 47) (.seq (.reg [⟨some 48, .move (.tmp 9), none⟩,
    ⟨some 49, .binOp .eql 27 (.tmp 48) (.const (.int .i64 3)) 27, none⟩,
    ⟨some 50, .move (.tmp 49), none⟩,
    ⟨some 51, .move (.tmp 7), some (50, true)⟩,
    ⟨some 52, .call { callee := .builtin .len, args := #[.tmp 51], argTypes := #[22] }, some (50, true)⟩,
    ⟨some 53, .binOp .eql 3 (.tmp 52) (.const (.int .i64 0)) 3, some (50, true)⟩,
    ⟨some 54, .pick (.tmp 50) (.tmp 53) (.const (.bool false)), none⟩,
    ⟨some 55, .move (.tmp 54), none⟩,
    ⟨some 56, .move (.tmp 8), some (55, true)⟩,
    ⟨some 57, .call { callee := .builtin .len, args := #[.tmp 56], argTypes := #[52] }, some (55, true)⟩,
    ⟨some 58, .binOp .eql 3 (.tmp 57) (.const (.int .i64 0)) 3, some (55, true)⟩,
    ⟨some 59, .pick (.tmp 55) (.tmp 58) (.const (.bool false)), none⟩,
    ⟨some 6, .assign (.tmp 59), none⟩] [])
  .ret) .skip))
  (.seq (.reg [⟨some 60, .move (.tmp 0), none⟩,
    ⟨some 61, .call { callee := .builtin .len, args := #[.tmp 60], argTypes := #[22] }, none⟩,
    ⟨some 62, .makeSlice 50 (.tmp 61) (.tmp 61), none⟩,
    ⟨some 10, .assign (.tmp 62), none⟩] [])
  (.seq (.seq (.reg [⟨some 63, .move (.tmp 1), none⟩,
    ⟨some 64, .call { callee := .builtin .len, args := #[.tmp 63], argTypes := #[52] }, none⟩,
    ⟨some 65, .move (.const (.int .i64 0)), none⟩] [])
  (.block 0 (.loop S6L1)))
  (.seq (.seq (.reg [⟨some 110, .move (.tmp 9), none⟩,
    ⟨some 111, .binOp .neq 27 (.tmp 110) (.const (.int .i64 0)) 27, none⟩,
    ⟨some 112, .move (.tmp 111), none⟩,
    ⟨some 113, .move (.tmp 8), some (112, false)⟩,
    ⟨some 114, .call { callee := .builtin .len, args := #[.tmp 113], argTypes := #[52] }, some (112, false)⟩,
    ⟨some 115, .move (.tmp 1), some (112, false)⟩,
    ⟨some 116, .call { callee := .builtin .len, args := #[.tmp 115], argTypes := #[52] }, some (112, false)⟩,
    ⟨some 117, .binOp .neq 3 (.tmp 114) (.tmp 116) 3, some (112, false)⟩,
    ⟨some 118, .pick (.tmp 112) (.const (.bool true)) (.tmp 117), none⟩,
    ⟨some 119, .move (.tmp 118), none⟩,
    ⟨some 120, .move (.tmp 7), some (119, false)⟩,
    ⟨some 121, .call { callee := .value (.func 15), args := #[.tmp 120], argTypes := #[22] }, some (119, false)⟩,
    ⟨some 122, .unOp .not 4 (.tmp 121), some (119, false)⟩,
    ⟨some 123, .pick (.tmp 119) (.const (.bool true)) (.tmp 122), none⟩] [])
  (.cond (.tmp 123) (.seq (.reg [⟨some 6, .assign (.const (.bool false)), none⟩] [])
  .ret) .skip))
  (.seq (.reg [⟨some 124, .move (.tmp 0), none⟩,
    ⟨some 125, .load 25 (.tmp 5), none⟩,
    ⟨some 126, .call { callee := .value (.func 14), args := #[.tmp 124, .tmp 125], argTypes := #[22, 25] }, none⟩,
    ⟨some 127, .move (.tmp 7), none⟩,
    ⟨some 128, .load 25 (.tmp 5), none⟩,
    ⟨some 129, .call { callee := .value (.func 14), args := #[.tmp 127, .tmp 128], argTypes := #[22, 25] }, none⟩,
    ⟨some 15, .assign (.tmp 126), none⟩,
    ⟨some 16, .assign (.tmp 129), none⟩] [(4, 2)])
  (.seq (.reg [⟨some 17, .assign (.const (.int .i64 0)), none⟩] [])
  (.seq (.seq (.reg [⟨some 130, .move (.tmp 0), none⟩,
    ⟨some 131, .call { callee := .builtin .len, args := #[.tmp 130], argTypes := #[22] }, none⟩,
    ⟨some 132, .move (.const (.int .i64 0)), none⟩] [])
  (.block 4 (.loop S6L3)))
  (.seq (.seq (.reg [⟨some 184, .move (.tmp 1), none⟩,
    ⟨some 185, .call { callee := .builtin .len, args := #[.tmp 184], argTypes := #[52] }, none⟩,
    ⟨some 186, .move (.const (.int .i64 0)), none⟩] [])
  (.block 6 (.loop S6L4)))
  (.seq (.reg [⟨some 252, .move (.tmp 17), none⟩,
    ⟨some 253, .move (.tmp 7), none⟩,
    ⟨some 254, .call { callee := .builtin .len, args := #[.tmp 253], argTypes := #[22] }, none⟩,
    ⟨some 255, .binOp .eql 3 (.tmp 252) (.tmp 254) 3, none⟩,
    ⟨some 6, .assign (.tmp 255), none⟩] [])
  .ret))))))))))))
theorem S6_eq : slimF Try.prog 6 = some (256, [.tmp 6], S6) := by kernel_rfl

def S7L1 : SC :=
  (.seq (.reg [⟨some 28, .binOp .lss 3 (.tmp 27) (.tmp 26) 3, none⟩] [])
  (.seq (.cond (.tmp 28) .skip (.exit 0))
  (.seq (.block 1 (.seq (.reg [⟨some 29, .indexAddr 22 (.tmp 25) (.tmp 27), none⟩,
    ⟨some 30, .load 56 (.tmp 29), none⟩,
    ⟨some 6, .alloc 56, none⟩,
    ⟨none, .store 56 (.tmp 6) (.tmp 30), none⟩] [])
  (.seq (.reg [⟨some 32, .move (.tmp 3), none⟩,
    ⟨some 33, .load 56 (.tmp 6), none⟩,
    ⟨some 34, .call { callee := .value (.func 23), args := #[.tmp 32, .tmp 33], argTypes := #[58, 56] }, none⟩,
    ⟨some 31, .move (.tmp 34), none⟩,
    ⟨some 35, .extract (.tmp 31) 0, none⟩,
    ⟨some 36, .extract (.tmp 31) 1, none⟩,
    ⟨some 7, .assign (.tmp 35), none⟩,
    ⟨some 8, .assign (.tmp 36), none⟩] [])
  (.seq (.seq (.reg [⟨some 37, .load 56 (.tmp 6), none⟩,
    ⟨some 38, .move (.tmp 4), none⟩,
    ⟨some 39, .call { callee := .builtin .len, args := #[.tmp 38], argTypes := #[22] }, none⟩,
    ⟨some 40, .call { callee := .value (.func 24), args := #[.tmp 37, .tmp 39], argTypes := #[56, 3] }, none⟩,
    ⟨some 41, .unOp .not 4 (.tmp 40), none⟩] [])
  (.cond (.tmp 41) (.seq (.seq (.reg [⟨some 42, .move (.tmp 8), none⟩,
    ⟨some 43, .binOp .neq 27 (.tmp 42) (.const (.int .i64 3)) 27, none⟩,
    ⟨some 44, .move (.tmp 43), none⟩,
    ⟨some 45, .move (.tmp 7), some (44, false)⟩,
    ⟨some 46, .binOp .neq 3 (.tmp 45) (.const (.int .i64 0)) 3, some (44, false)⟩,
    ⟨some 47, .pick (.tmp 44) (.const (.bool true)) (.tmp 46), none⟩] [])
  (.cond (.tmp 47) (.seq (.reg [⟨some 2, .assign (.const (.bool false)), none⟩] [])
  .ret) .skip))
  (.exit 1)) .skip))
  (.seq (.reg [⟨some 9, .assign (.const (.int .i64 0)), none⟩] [])
  (.seq (.reg [⟨some 49, .move (.tmp 4), none⟩,
    ⟨some 50, .load 56 (.tmp 6), none⟩,
    ⟨some 51, .call { callee := .value (.func 25), args := #[.tmp 49, .tmp 50], argTypes := #[22, 56] }, none⟩,
    ⟨some 48, .move (.tmp 51), none⟩,
    ⟨some 52, .extract (.tmp 48) 0, none⟩,
    ⟨some 53, .extract (.tmp 48) 1, none⟩,
    ⟨some 4, .assign (.tmp 52), none⟩,
    ⟨some 9, .assign (.tmp 53), none⟩] [])
  (.seq (.reg [⟨some 55, .move (.tmp 3), none⟩,
    ⟨some 56, .move (.tmp 9), none⟩,
    ⟨some 57, .call { callee := .value (.func 26), args := #[.tmp 55, .tmp 56], argTypes := #[58, 3] }, none⟩,
    ⟨some 54, .move (.tmp 57), none⟩,
    ⟨some 58, .extract (.tmp 54) 0, none⟩,
    ⟨some 59, .extract (.tmp 54) 1, none⟩,
    ⟨some 10, .alloc 56, none⟩,
    ⟨none, .store 56 (.tmp 10) (.tmp 58), none⟩,
    ⟨some 11, .assign (.tmp 59), none⟩] [])
  (.seq (.reg [⟨some 60, .move (.tmp 8), none⟩,
    ⟨some 61, .binOp .neq 27 (.tmp 60) (.const (.int .i64 0)) 27, none⟩,
    ⟨some 62, .move (.tmp 61), none⟩,
    ⟨some 63, .move (.tmp 7), some (62, false)⟩,
    ⟨some 64, .move (.tmp 9), some (62, false)⟩,
    ⟨some 65, .binOp .neq 3 (.tmp 63) (.tmp 64) 3, some (62, false)⟩,
    ⟨some 66, .pick (.tmp 62) (.const (.bool true)) (.tmp 65), none⟩,
    ⟨some 67, .move (.tmp 66), none⟩,
    ⟨some 68, .load 56 (.tmp 10), some (67, false)⟩,
    ⟨some 69, .load 56 (.tmp 6), some (67, false)⟩,
    ⟨some 70, .binOp .neq 56 (.tmp 68) (.tmp 69) 56, some (67, false)⟩,
    ⟨some 71, .pick (.tmp 67) (.const (.bool true)) (.tmp 70), none⟩,
    ⟨some 72, .move (.tmp 71), none⟩,
    ⟨some 73, .move (.tmp 11), some (72, false)⟩,
    ⟨some 74, .unOp .not 4 (.tmp 73), some (72, false)⟩,
    ⟨some 75, .pick (.tmp 72) (.const (.bool true)) (.tmp 74), none⟩] [])
  (.cond (.tmp 75) (.seq (.reg [⟨some 2, .assign (.const (.bool false)), none⟩] [])
  .ret) .skip)))))))))
  (.reg [⟨some 76, .binOp .add 3 (.tmp 27) (.const (.int .i64 1)) 3, none⟩,
    ⟨some 27, .move (.tmp 76), none⟩] []))))
/-- tamis/tamislaw11.TermPool -/
def S7 : SC :=
  (.seq (.reg [⟨some 2, .assign (.const (.bool false)), none⟩] [])
  (.seq (.seq (.reg [⟨some 16, .call { callee := .value (.func 9), args := #[], argTypes := #[] }, none⟩,
    ⟨some 17, .unOp .not 4 (.tmp 16), none⟩,
    ⟨some 18, .move (.tmp 17), none⟩,
    ⟨some 19, .move (.tmp 0), some (18, false)⟩,
    ⟨some 20, .call { callee := .builtin .len, args := #[.tmp 19], argTypes := #[22] }, some (18, false)⟩,
    ⟨some 21, .binOp .gtr 3 (.tmp 20) (.const (.int .i64 100)) 3, some (18, false)⟩,
    ⟨some 22, .pick (.tmp 18) (.const (.bool true)) (.tmp 21), none⟩] [])
  (.cond (.tmp 22) (.seq (.reg [⟨some 23, .call { callee := .value (.func 9), args := #[], argTypes := #[] }, none⟩,
    ⟨some 2, .assign (.tmp 23), none⟩] [])
  .ret) .skip))
  (.seq (.reg [⟨some 24, .call { callee := .value (.func 22), args := #[], argTypes := #[] }, none⟩,
    ⟨some 3, .assign (.tmp 24), none⟩] [])
  (.seq (.reg [⟨some 4, .assign (.const (.slice none 0 0)), none⟩] [])
  (.seq (.seq (.reg [⟨some 25, .move (.tmp 0), none⟩,
    ⟨some 26, .call { callee := .builtin .len, args := #[.tmp 25], argTypes := #[22] }, none⟩,
    ⟨some 27, .move (.const (.int .i64 0)), none⟩] [])
  (.block 0 (.loop S7L1)))
  (.seq (.reg [⟨some 78, .move (.tmp 3), none⟩,
    ⟨some 79, .move (.tmp 4), none⟩,
    ⟨some 80, .call { callee := .builtin .len, args := #[.tmp 79], argTypes := #[22] }, none⟩,
    ⟨some 81, .call { callee := .value (.func 26), args := #[.tmp 78, .tmp 80], argTypes := #[58, 3] }, none⟩,
    ⟨some 77, .move (.tmp 81), none⟩,
    ⟨some 82, .extract (.tmp 77) 0, none⟩,
    ⟨some 83, .extract (.tmp 77) 1, none⟩,
    ⟨some 12, .alloc 56, none⟩,
    ⟨none, .store 56 (.tmp 12) (.tmp 82), none⟩,
    ⟨some 13, .assign (.tmp 83), none⟩] [])
  (.seq (.reg [⟨some 85, .move (.tmp 3), none⟩,
    ⟨some 86, .call { callee := .value (.func 26), args := #[.tmp 85, .const (.int .i64 (-1))], argTypes := #[58, 3] }, none⟩,
    ⟨some 84, .move (.tmp 86), none⟩,
    ⟨some 87, .extract (.tmp 84) 0, none⟩,
    ⟨some 88, .extract (.tmp 84) 1, none⟩,
    ⟨some 14, .alloc 56, none⟩,
    ⟨none, .store 56 (.tmp 14) (.tmp 87), none⟩,
    ⟨some 15, .assign (.tmp 88), none⟩] [])
  (.seq (.reg [⟨some 89, .move (.tmp 3), none⟩,
    ⟨some 90, .call { callee := .value (.func 28), args := #[.tmp 89], argTypes := #[58] }, none⟩,
    ⟨some 91, .move (.tmp 4), none⟩,
    ⟨some 92, .call { callee := .value (.func 27), args := #[.tmp 90, .tmp 91], argTypes := #[22, 22] }, none⟩,
    ⟨some 93, .move (.tmp 92), none⟩,
    ⟨some 94, .move (.tmp 13), some (93, true)⟩,
    ⟨some 95, .unOp .not 4 (.tmp 94), some (93, true)⟩,
    ⟨some 96, .pick (.tmp 93) (.tmp 95) (.const (.bool false)), none⟩,
    ⟨some 97, .move (.tmp 96), none⟩,
    ⟨some 98, .move (.tmp 15), some (97, true)⟩,
    ⟨some 99, .unOp .not 4 (.tmp 98), some (97, true)⟩,
    ⟨some 100, .pick (.tmp 97) (.tmp 99) (.const (.bool false)), none⟩,
    ⟨some 2, .assign (.tmp 100), none⟩] [])
  .ret))))))))
theorem S7_eq : slimF Try.prog 7 = some (101, [.tmp 2], S7) := by kernel_rfl

def S8L2 : SC :=
  (.seq (.reg [⟨some 78, .binOp .lss 3 (.tmp 77) (.tmp 76) 3, none⟩] [])
  (.seq (.cond (.tmp 78) .skip (.exit 2))
  (.seq (.block 3 (.seq (.reg [⟨some 79, .move (.tmp 77), none⟩,
    ⟨some 10, .assign (.tmp 79), none⟩] [])
  (.seq (.reg [⟨some 81, .move (.tmp 0), none⟩,
    ⟨some 82, .move (.tmp 6), none⟩,
    ⟨some 83, .move (.tmp 10), none⟩,
    ⟨some 84, .call { callee := .value (.func 30), args := #[.tmp 81, .tmp 82, .tmp 83], argTypes := #[22, 3, 3] }, none⟩,
    ⟨some 80, .move (.tmp 84), none⟩,
    ⟨some 85, .extract (.tmp 80) 0, none⟩,
    ⟨some 86, .extract (.tmp 80) 1, none⟩,
    ⟨some 11, .assign (.tmp 85), none⟩,
    ⟨some 12, .assign (.tmp 86), none⟩] [])
  (.seq (.reg [⟨some 88, .move (.tmp 0), none⟩,
    ⟨some 89, .move (.tmp 10), none⟩,
    ⟨some 90, .move (.tmp 6), none⟩,
    ⟨some 91, .call { callee := .value (.func 30), args := #[.tmp 88, .tmp 89, .tmp 90], argTypes := #[22, 3, 3] }, none⟩,
    ⟨some 87, .move (.tmp 91), none⟩,
    ⟨some 92, .extract (.tmp 87) 0, none⟩,
    ⟨some 93, .extract (.tmp 87) 1, none⟩,
    ⟨some 13, .assign (.tmp 92), none⟩,
    ⟨some 14, .assign (.tmp 93), none⟩] [])
  (.seq (.reg [⟨some 94, .move (.tmp 12), none⟩,
    ⟨some 95, .binOp .neq 27 (.tmp 94) (.const (.int .i64 0)) 27, none⟩,
    ⟨some 96, .move (.tmp 95), none⟩,
    ⟨some 97, .move (.tmp 14), some (96, false)⟩,
    ⟨some 98, .binOp .neq 27 (.tmp 97) (.const (.int .i64 0)) 27, some (96, false)⟩,
    ⟨some 99, .pick (.tmp 96) (.const (.bool true)) (.tmp 98), none⟩,
    ⟨some 100, .move (.tmp 99), none⟩,
    ⟨some 101, .move (.tmp 11), some (100, false)⟩,
    ⟨some 102, .move (.tmp 4), some (100, false)⟩,
    ⟨some 103, .move (.tmp 6), some (100, false)⟩,
    ⟨some 104, .indexAddr 52 (.tmp 102) (.tmp 103), some (100, false)⟩,
    ⟨some 105, .load 3 (.tmp 104), some (100, false)⟩,
    ⟨some 106, .move (.tmp 4), some (100, false)⟩,
    ⟨some 107, .move (.tmp 10), some (100, false)⟩,
    ⟨some 108, .indexAddr 52 (.tmp 106) (.tmp 107), some (100, false)⟩,
    ⟨some 109, .load 3 (.tmp 108), some (100, false)⟩,
    ⟨some 110, .binOp .eql 3 (.tmp 105) (.tmp 109) 3, some (100, false)⟩,
    ⟨some 111, .binOp .neq 4 (.tmp 101) (.tmp 110) 4, some (100, false)⟩,
    ⟨some 112, .pick (.tmp 100) (.const (.bool true)) (.tmp 111), none⟩,
    ⟨some 113, .move (.tmp 112), none⟩,
    ⟨some 114, .move (.tmp 13), some (113, false)⟩,
    ⟨some 115, .move (.tmp 11), some (113, false)⟩,
    ⟨some 116, .binOp .neq 4 (.tmp 114) (.tmp 115) 4, some (113, false)⟩,
    ⟨some 117, .pick (.tmp 113) (.const (.bool true)) (.tmp 116), none⟩] [])
  (.cond (.tmp 117) (.seq (.reg [⟨some 2, .assign (.const (.bool false)), none⟩] [])
  .ret) .skip))))))
  (.reg [⟨some 118, .binOp .add 3 (.tmp 77) (.const (.int .i64 1)) 3, none⟩,
    ⟨some 77, .move (.tmp 118), none⟩] []))))
def S8L1 : SC :=
  (.seq (.reg [⟨some 37, .binOp .lss 3 (.tmp 36) (.tmp 35) 3, none⟩] [])
  (.seq (.cond (.tmp 37) .skip (.exit 0))
  (.seq (.block 1 (.seq (.reg [⟨some 38, .move (.tmp 36), none⟩,
    ⟨some 39, .indexAddr 22 (.tmp 34) (.tmp 36), none⟩,
    ⟨some 40, .load 56 (.tmp 39), none⟩,
    ⟨some 7, .alloc 56, none⟩,
    ⟨some 6, .assign (.tmp 38), none⟩,
    ⟨none, .store 56 (.tmp 7) (.tmp 40), none⟩] [])
  (.seq (.seq (.reg [⟨some 41, .fieldAddr 56 (.tmp 7) 0, none⟩,
    ⟨some 42, .load 3 (.tmp 41), none⟩,
    ⟨some 43, .binOp .gtr 3 (.tmp 42) (.const (.int .i64 2)) 3, none⟩] [])
  (.cond (.tmp 43) (.seq (.reg [⟨some 44, .move (.tmp 4), none⟩,
    ⟨some 45, .fieldAddr 56 (.tmp 7) 1, none⟩,
    ⟨some 46, .load 3 (.tmp 45), none⟩,
    ⟨some 47, .indexAddr 52 (.tmp 44) (.tmp 46), none⟩,
    ⟨some 48, .load 3 (.tmp 47), none⟩,
    ⟨some 49, .fieldAddr 56 (.tmp 7) 1, none⟩,
    ⟨none, .store 3 (.tmp 49) (.tmp 48), none⟩] [])
  (.seq (.reg [⟨some 50, .fieldAddr 56 (.tmp 7) 0, none⟩,
    ⟨some 51, .load 3 (.tmp 50), none⟩,
    ⟨some 52, .binOp .neq 3 (.tmp 51) (.const (.int .i64 384)) 3, none⟩] [])
  (.cond (.tmp 52) (.reg [⟨some 53, .move (.tmp 4), none⟩,
    ⟨some 54, .fieldAddr 56 (.tmp 7) 2, none⟩,
    ⟨some 55, .load 3 (.tmp 54), none⟩,
    ⟨some 56, .indexAddr 52 (.tmp 53) (.tmp 55), none⟩,
    ⟨some 57, .load 3 (.tmp 56), none⟩,
    ⟨some 58, .fieldAddr 56 (.tmp 7) 2, none⟩,
    ⟨none, .store 3 (.tmp 58) (.tmp 57), none⟩] []) .skip))) .skip))
  (.seq (.reg [⟨some 60, .move (.tmp 5), none⟩,
    ⟨some 61, .load 56 (.tmp 7), none⟩,
    ⟨some 62, .call { callee := .value (.func 23), args := #[.tmp 60, .tmp 61], argTypes := #[58, 56] }, none⟩,
    ⟨some 59, .move (.tmp 62), none⟩,
    ⟨some 63, .extract (.tmp 59) 0, none⟩,
    ⟨some 64, .extract (.tmp 59) 1, none⟩,
    ⟨some 8, .assign (.tmp 63), none⟩,
    ⟨some 9, .assign (.tmp 64), none⟩] [])
  (.seq (.seq (.reg [⟨some 65, .move (.tmp 9), none⟩,
    ⟨some 66, .binOp .neq 27 (.tmp 65) (.const (.int .i64 0)) 27, none⟩,
    ⟨some 67, .move (.tmp 66), none⟩,
    ⟨some 68, .move (.tmp 8), some (67, false)⟩,
    ⟨some 69, .move (.tmp 4), some (67, false)⟩,
    ⟨some 70, .move (.tmp 6), some (67, false)⟩,
    ⟨some 71, .indexAddr 52 (.tmp 69) (.tmp 70), some (67, false)⟩,
    ⟨some 72, .load 3 (.tmp 71), some (67, false)⟩,
    ⟨some 73, .binOp .neq 3 (.tmp 68) (.tmp 72) 3, some (67, false)⟩,
    ⟨some 74, .pick (.tmp 67) (.const (.bool true)) (.tmp 73), none⟩] [])
  (.cond (.tmp 74) (.seq (.reg [⟨some 2, .assign (.const (.bool false)), none⟩] [])
  .ret) .skip))
  (.seq (.reg [⟨some 75, .move (.tmp 6), none⟩,
    ⟨some 76, .binOp .add 3 (.tmp 75) (.const (.int .i64 1)) 3, none⟩,
    ⟨some 77, .move (.const (.int .i64 0)), none⟩] [])
  (.block 2 (.loop S8L2))))))))
  (.reg [⟨some 119, .binOp .add 3 (.tmp 36) (.const (.int .i64 1)) 3, none⟩,
    ⟨some 36, .move (.tmp 119), none⟩] []))))
/-- tamis/tamislaw11.TermTrees -/
def S8 : SC :=
  (.seq (.reg [⟨some 2, .assign (.const (.bool false)), none⟩] [])
  (.seq (.seq (.reg [⟨some 15, .call { callee := .value (.func 9), args := #[], argTypes := #[] }, none⟩,
    ⟨some 16, .unOp .not 4 (.tmp 15), none⟩,
    ⟨some 17, .move (.tmp 16), none⟩,
    ⟨some 18, .move (.tmp 0), some (17, false)⟩,
    ⟨some 19, .call { callee := .builtin .len, args := #[.tmp 18], argTypes := #[22] }, some (17, false)⟩,
    ⟨some 20, .binOp .gtr 3 (.tmp 19) (.const (.int .i64 20)) 3, some (17, false)⟩,
    ⟨some 21, .pick (.tmp 17) (.const (.bool true)) (.tmp 20), none⟩,
    ⟨some 22, .move (.tmp 21), none⟩,
    ⟨some 23, .move (.tmp 0), some (22, false)⟩,
    ⟨some 24, .call { callee := .value (.func 15), args := #[.tmp 23], argTypes := #[22] }, some (22, false)⟩,
    ⟨some 25, .unOp .not 4 (.tmp 24), some (22, false)⟩,
    ⟨some 26, .pick (.tmp 22) (.const (.bool true)) (.tmp 25), none⟩] [])
  (.cond (.tmp 26) (.seq (.reg [⟨some 27, .call { callee := .value (.func 9), args := #[], argTypes := #[] }, none⟩,
    ⟨some 2, .assign (.tmp 27), none⟩] [])
  .ret) .skip))
  (.seq (.reg [⟨some 29, .move (.tmp 0), none⟩,
    ⟨some 30, .call { callee := .value (.func 29), args := #[.const (.slice none 0 0), .tmp 29], argTypes := #[22, 22] }, none⟩,
    ⟨some 28, .move (.tmp 30), none⟩,
    ⟨some 31, .extract (.tmp 28) 0, none⟩,
    ⟨some 32, .extract (.tmp 28) 1, none⟩,
    ⟨some 3, .assign (.tmp 31), none⟩,
    ⟨some 4, .assign (.tmp 32), none⟩] [])
  (.seq (.reg [⟨some 33, .call { callee := .value (.func 22), args := #[], argTypes := #[] }, none⟩,
    ⟨some 5, .assign (.tmp 33), none⟩] [])
  (.seq (.seq (.reg [⟨some 34, .move (.tmp 0), none⟩,
    ⟨some 35, .call { callee := .builtin .len, args := #[.tmp 34], argTypes := #[22] }, none⟩,
    ⟨some 36, .move (.const (.int .i64 0)), none⟩] [])
  (.block 0 (.loop S8L1)))
  (.seq (.reg [⟨some 2, .assign (.const (.bool true)), none⟩] [])
  .ret))))))
theorem S8_eq : slimF Try.prog 8 = some (120, [.tmp 2], S8) := by kernel_rfl

/-- tamis/tamislaw11.awake -/
def S9 : SC :=
  (.seq (.reg [⟨some 0, .assign (.const (.bool false)), none⟩] [])
  (.seq (.reg [⟨some 30, .call { callee := .value (.func 31), args := #[], argTypes := #[] }, none⟩,
    ⟨some 31, .build 25 #[(4, .const (.int .u32 6))], none⟩,
    ⟨some 32, .call { callee := .value (.func 12), args := #[.tmp 30, .tmp 31], argTypes := #[22, 25] }, none⟩,
    ⟨some 29, .move (.tmp 32), none⟩,
    ⟨some 33, .extract (.tmp 29) 0, none⟩,
    ⟨some 34, .extract (.tmp 29) 1, none⟩,
    ⟨some 1, .assign (.tmp 33), none⟩,
    ⟨some 2, .assign (.tmp 34), none⟩] [])
  (.seq (.reg [⟨some 36, .build 56 #[(0, .const (.int .i64 2)), (3, .const (.int .u32 16))], none⟩,
    ⟨some 37, .buildSlice 22 1 #[(0, .tmp 36)], none⟩,
    ⟨some 38, .call { callee := .value (.func 10), args := #[.tmp 37], argTypes := #[22] }, none⟩,
    ⟨some 35, .move (.tmp 38), none⟩,
    ⟨some 39, .extract (.tmp 35) 0, none⟩,
    ⟨some 40, .extract (.tmp 35) 1, none⟩,
    ⟨some 3, .assign (.tmp 39), none⟩,
    ⟨some 4, .assign (.tmp 40), none⟩] [])
  (.seq (.reg [⟨some 42, .call { callee := .value (.func 31), args := #[], argTypes := #[] }, none⟩,
    ⟨some 43, .build 25 #[], none⟩,
    ⟨some 44, .call { callee := .value (.func 13), args := #[.tmp 42, .const (.int .i64 4), .tmp 43], argTypes := #[22, 3, 25] }, none⟩,
    ⟨some 41, .move (.tmp 44), none⟩,
    ⟨some 45, .extract (.tmp 41) 0, none⟩,
    ⟨some 46, .extract (.tmp 41) 1, none⟩,
    ⟨some 5, .assign (.tmp 45), none⟩,
    ⟨some 6, .assign (.tmp 46), none⟩] [])
  (.seq (.reg [⟨some 48, .call { callee := .value (.func 31), args := #[], argTypes := #[] }, none⟩,
    ⟨some 49, .call { callee := .value (.func 16), args := #[.tmp 48, .const (.int .i64 3)], argTypes := #[22, 3] }, none⟩,
    ⟨some 47, .move (.tmp 49), none⟩,
    ⟨some 50, .extract (.tmp 47) 0, none⟩,
    ⟨some 51, .extract (.tmp 47) 1, none⟩,
    ⟨some 7, .assign (.tmp 50), none⟩,
    ⟨some 8, .assign (.tmp 51), none⟩] [])
  (.seq (.reg [⟨some 53, .call { callee := .value (.func 31), args := #[], argTypes := #[] }, none⟩,
    ⟨some 54, .call { callee := .value (.func 19), args := #[.tmp 53, .const (.int .i64 3)], argTypes := #[22, 3] }, none⟩,
    ⟨some 52, .move (.tmp 54), none⟩,
    ⟨some 55, .extract (.tmp 52) 0, none⟩,
    ⟨some 56, .extract (.tmp 52) 1, none⟩,
    ⟨some 9, .assign (.tmp 55), none⟩,
    ⟨some 10, .assign (.tmp 56), none⟩] [])
  (.seq (.reg [⟨some 58, .call { callee := .value (.func 31), args := #[], argTypes := #[] }, none⟩,
    ⟨some 59, .call { callee := .value (.func 30), args := #[.tmp 58, .const (.int .i64 0), .const (.int .i64 1)], argTypes := #[22, 3, 3] }, none⟩,
    ⟨some 57, .move (.tmp 59), none⟩,
    ⟨some 60, .extract (.tmp 57) 0, none⟩,
    ⟨some 61, .extract (.tmp 57) 1, none⟩,
    ⟨some 11, .assign (.tmp 60), none⟩,
    ⟨some 12, .assign (.tmp 61), none⟩] [])
  (.seq (.reg [⟨some 63, .call { callee := .value (.func 31), args := #[], argTypes := #[] }, none⟩,
    ⟨some 64, .buildSlice 52 1 #[(0, .const (.int .i64 1))], none⟩,
    ⟨some 65, .call { callee := .value (.func 21), args := #[.tmp 63, .tmp 64], argTypes := #[22, 52] }, none⟩,
    ⟨some 62, .move (.tmp 65), none⟩,
    ⟨some 66, .extract (.tmp 62) 0, none⟩,
    ⟨some 67, .extract (.tmp 62) 1, none⟩,
    ⟨some 68, .extract (.tmp 62) 2, none⟩,
    ⟨some 13, .assign (.tmp 66), none⟩,
    ⟨some 14, .assign (.tmp 67), none⟩,
    ⟨some 15, .assign (.tmp 68), none⟩] [])
  (.seq (.reg [⟨some 69, .call { callee := .value (.func 22), args := #[], argTypes := #[] }, none⟩,
    ⟨some 16, .assign (.tmp 69), none⟩] [])
  (.seq (.reg [⟨some 71, .move (.tmp 16), none⟩,
    ⟨some 72, .call { callee := .value (.func 31), args := #[], argTypes := #[] }, none⟩,
    ⟨some 73, .indexAddr 22 (.tmp 72) (.const (.int .i64 0)), none⟩,
    ⟨some 74, .load 56 (.tmp 73), none⟩,
    ⟨some 75, .call { callee := .value (.func 23), args := #[.tmp 71, .tmp 74], argTypes := #[58, 56] }, none⟩,
    ⟨some 70, .move (.tmp 75), none⟩,
    ⟨some 76, .extract (.tmp 70) 0, none⟩,
    ⟨some 77, .extract (.tmp 70) 1, none⟩,
    ⟨some 17, .assign (.tmp 76), none⟩,
    ⟨some 18, .assign (.tmp 77), none⟩] [])
  (.seq (.reg [⟨some 79, .move (.tmp 16), none⟩,
    ⟨some 80, .call { callee := .value (.func 31), args := #[], argTypes := #[] }, none⟩,
    ⟨some 81, .indexAddr 22 (.tmp 80) (.const (.int .i64 1)), none⟩,
    ⟨some 82, .load 56 (.tmp 81), none⟩,
    ⟨some 83, .call { callee := .value (.func 23), args := #[.tmp 79, .tmp 82], argTypes := #[58, 56] }, none⟩,
    ⟨some 78, .move (.tmp 83), none⟩,
    ⟨some 84, .extract (.tmp 78) 0, none⟩,
    ⟨some 85, .extract (.tmp 78) 1, none⟩,
    ⟨some 19, .assign (.tmp 84), none⟩,
    ⟨some 20, .assign (.tmp 85), none⟩] [])
  (.seq (.reg [⟨some 87, .move (.tmp 16), none⟩,
    ⟨some 88, .call { callee := .value (.func 31), args := #[], argTypes := #[] }, none⟩,
    ⟨some 89, .indexAddr 22 (.tmp 88) (.const (.int .i64 0)), none⟩,
    ⟨some 90, .load 56 (.tmp 89), none⟩,
    ⟨some 91, .call { callee := .value (.func 23), args := #[.tmp 87, .tmp 90], argTypes := #[58, 56] }, none⟩,
    ⟨some 86, .move (.tmp 91), none⟩,
    ⟨some 92, .extract (.tmp 86) 0, none⟩,
    ⟨some 93, .extract (.tmp 86) 1, none⟩,
    ⟨some 21, .assign (.tmp 92), none⟩,
    ⟨some 22, .assign (.tmp 93), none⟩] [])
  (.seq (.reg [⟨some 95, .move (.tmp 16), none⟩,
    ⟨some 96, .build 56 #[(0, .const (.int .i64 3))], none⟩,
    ⟨some 97, .call { callee := .value (.func 23), args := #[.tmp 95, .tmp 96], argTypes := #[58, 56] }, none⟩,
    ⟨some 94, .move (.tmp 97), none⟩,
    ⟨some 98, .extract (.tmp 94) 0, none⟩,
    ⟨some 99, .extract (.tmp 94) 1, none⟩,
    ⟨some 23, .assign (.tmp 98), none⟩,
    ⟨some 24, .assign (.tmp 99), none⟩] [])
  (.seq (.reg [⟨some 101, .call { callee := .value (.func 31), args := #[], argTypes := #[] }, none⟩,
    ⟨some 102, .indexAddr 22 (.tmp 101) (.const (.int .i64 0)), none⟩,
    ⟨some 103, .load 56 (.tmp 102), none⟩,
    ⟨some 104, .call { callee := .value (.func 23), args := #[.const (.pointer none), .tmp 103], argTypes := #[58, 56] }, none⟩,
    ⟨some 100, .move (.tmp 104), none⟩,
    ⟨some 105, .extract (.tmp 100) 0, none⟩,
    ⟨some 106, .extract (.tmp 100) 1, none⟩,
    ⟨some 25, .assign (.tmp 105), none⟩,
    ⟨some 26, .assign (.tmp 106), none⟩] [])
  (.seq (.reg [⟨some 108, .move (.tmp 16), none⟩,
    ⟨some 109, .call { callee := .value (.func 26), args := #[.tmp 108, .const (.int .i64 1)], argTypes := #[58, 3] }, none⟩,
    ⟨some 107, .move (.tmp 109), none⟩,
    ⟨some 110, .extract (.tmp 107) 0, none⟩,
    ⟨some 111, .extract (.tmp 107) 1, none⟩,
    ⟨some 27, .alloc 56, none⟩,
    ⟨none, .store 56 (.tmp 27) (.tmp 110), none⟩,
    ⟨some 28, .assign (.tmp 111), none⟩] [])
  (.seq (.reg [⟨some 112, .move (.tmp 1), none⟩,
    ⟨some 113, .call { callee := .builtin .len, args := #[.tmp 112], argTypes := #[32] }, none⟩,
    ⟨some 114, .binOp .eql 3 (.tmp 113) (.const (.int .i64 4)) 3, none⟩,
    ⟨some 115, .move (.tmp 114), none⟩,
    ⟨some 116, .move (.tmp 1), some (115, true)⟩,
    ⟨some 117, .indexAddr 32 (.tmp 116) (.const (.int .i64 2)), some (115, true)⟩,
    ⟨some 118, .load 23 (.tmp 117), some (115, true)⟩,
    ⟨some 119, .binOp .eql 23 (.tmp 118) (.const (.int .u32 7)) 23, some (115, true)⟩,
    ⟨some 120, .pick (.tmp 115) (.tmp 119) (.const (.bool false)), none⟩,
    ⟨some 121, .move (.tmp 120), none⟩,
    ⟨some 122, .move (.tmp 1), some (121, true)⟩,
    ⟨some 123, .indexAddr 32 (.tmp 122) (.const (.int .i64 3)), some (121, true)⟩,
    ⟨some 124, .load 23 (.tmp 123), some (121, true)⟩,
    ⟨some 125, .binOp .eql 23 (.tmp 124) (.const (.int .u32 4294967289)) 23, some (121, true)⟩,
    ⟨some 126, .pick (.tmp 121) (.tmp 125) (.const (.bool false)), none⟩,
    ⟨some 127, .move (.tmp 126), none⟩,
    ⟨some 128, .move (.tmp 2), some (127, true)⟩,
    ⟨some 129, .binOp .eql 27 (.tmp 128) (.const (.int .i64 0)) 27, some (127, true)⟩,
    ⟨some 130, .pick (.tmp 127) (.tmp 129) (.const (.bool false)), none⟩,
    ⟨some 131, .move (.tmp 130), none⟩,
    ⟨some 132, .move (.tmp 3), some (131, true)⟩,
    ⟨some 133, .binOp .eql 3 (.tmp 132) (.const (.int .i64 0)) 3, some (131, true)⟩,
    ⟨some 134, .pick (.tmp 131) (.tmp 133) (.const (.bool false)), none⟩,
    ⟨some 135, .move (.tmp 134), none⟩,
    ⟨some 136, .move (.tmp 4), some (135, true)⟩,
    ⟨some 137, .binOp .eql 27 (.tmp 136) (.const (.int .i64 3)) 27, some (135, true)⟩,
    ⟨some 138, .pick (.tmp 135) (.tmp 137) (.const (.bool false)), none⟩,
    ⟨some 139, .move (.tmp 138), none⟩,
    ⟨some 140, .move (.tmp 6), some (139, true)⟩,
    ⟨some 141, .binOp .eql 27 (.tmp 140) (.const (.int .i64 2)) 27, some (139, true)⟩,
    ⟨some 142, .pick (.tmp 139) (.tmp 141) (.const (.bool false)), none⟩,
    ⟨some 143, .move (.tmp 142), none⟩,
    ⟨some 144, .move (.tmp 7), some (143, true)⟩,
    ⟨some 145, .binOp .eql 40 (.tmp 144) (.const (.int .u16 16)) 40, some (143, true)⟩,
    ⟨some 146, .pick (.tmp 143) (.tmp 145) (.const (.bool false)), none⟩,
    ⟨some 147, .move (.tmp 146), none⟩,
    ⟨some 148, .move (.tmp 8), some (147, true)⟩,
    ⟨some 149, .binOp .eql 27 (.tmp 148) (.const (.int .i64 0)) 27, some (147, true)⟩,
    ⟨some 150, .pick (.tmp 147) (.tmp 149) (.const (.bool false)), none⟩,
    ⟨some 151, .move (.tmp 150), none⟩,
    ⟨some 152, .move (.tmp 9), some (151, true)⟩,
    ⟨some 153, .binOp .eql 47 (.tmp 152) (.const (.int .u64 4)) 47, some (151, true)⟩,
    ⟨some 154, .pick (.tmp 151) (.tmp 153) (.const (.bool false)), none⟩,
    ⟨some 155, .move (.tmp 154), none⟩,
    ⟨some 156, .move (.tmp 10), some (155, true)⟩,
    ⟨some 157, .binOp .eql 27 (.tmp 156) (.const (.int .i64 0)) 27, some (155, true)⟩,
    ⟨some 158, .pick (.tmp 155) (.tmp 157) (.const (.bool false)), none⟩,
    ⟨some 159, .move (.tmp 158), none⟩,
    ⟨some 160, .move (.tmp 11), some (159, true)⟩,
    ⟨some 161, .unOp .not 4 (.tmp 160), some (159, true)⟩,
    ⟨some 162, .pick (.tmp 159) (.tmp 161) (.const (.bool false)), none⟩,
    ⟨some 163, .move (.tmp 162), none⟩,
    ⟨some 164, .move (.tmp 12), some (163, true)⟩,
    ⟨some 165, .binOp .eql 27 (.tmp 164) (.const (.int .i64 0)) 27, some (163, true)⟩,
    ⟨some 166, .pick (.tmp 163) (.tmp 165) (.const (.bool false)), none⟩,
    ⟨some 167, .move (.tmp 166), none⟩,
    ⟨some 168, .move (.tmp 13), some (167, true)⟩,
    ⟨some 169, .call { callee := .builtin .len, args := #[.tmp 168], argTypes := #[22] }, some (167, true)⟩,
    ⟨some 170, .binOp .eql 3 (.tmp 169) (.const (.int .i64 1)) 3, some (167, true)⟩,
    ⟨some 171, .pick (.tmp 167) (.tmp 170) (.const (.bool false)), none⟩,
    ⟨some 172, .move (.tmp 171), none⟩,
    ⟨some 173, .move (.tmp 13), some (172, true)⟩,
    ⟨some 174, .indexAddr 22 (.tmp 173) (.const (.int .i64 0)), some (172, true)⟩,
    ⟨some 175, .load 56 (.tmp 174), some (172, true)⟩,
    ⟨some 176, .call { callee := .value (.func 31), args := #[], argTypes := #[] }, some (172, true)⟩,
    ⟨some 177, .indexAddr 22 (.tmp 176) (.const (.int .i64 1)), some (172, true)⟩,
    ⟨some 178, .load 56 (.tmp 177), some (172, true)⟩,
    ⟨some 179, .binOp .eql 56 (.tmp 175) (.tmp 178) 56, some (172, true)⟩,
    ⟨some 180, .pick (.tmp 172) (.tmp 179) (.const (.bool false)), none⟩,
    ⟨some 181, .move (.tmp 180), none⟩,
    ⟨some 182, .move (.tmp 14), some (181, true)⟩,
    ⟨some 183, .call { callee := .builtin .len, args := #[.tmp 182], argTypes := #[52] }, some (181, true)⟩,
    ⟨some 184, .binOp .eql 3 (.tmp 183) (.const (.int .i64 1)) 3, some (181, true)⟩,
    ⟨some 185, .pick (.tmp 181) (.tmp 184) (.const (.bool false)), none⟩,
    ⟨some 186, .move (.tmp 185), none⟩,
    ⟨some 187, .move (.tmp 14), some (186, true)⟩,
    ⟨some 188, .indexAddr 52 (.tmp 187) (.const (.int .i64 0)), some (186, true)⟩,
    ⟨some 189, .load 3 (.tmp 188), some (186, true)⟩,
    ⟨some 190, .binOp .eql 3 (.tmp 189) (.const (.int .i64 0)) 3, some (186, true)⟩,
    ⟨some 191, .pick (.tmp 186) (.tmp 190) (.const (.bool false)), none⟩,
    ⟨some 192, .move (.tmp 191), none⟩,
    ⟨some 193, .move (.tmp 15), some (192, true)⟩,
    ⟨some 194, .binOp .eql 27 (.tmp 193) (.const (.int .i64 0)) 27, some (192, true)⟩,
    ⟨some 195, .pick (.tmp 192) (.tmp 194) (.const (.bool false)), none⟩,
    ⟨some 196, .move (.tmp 195), none⟩,
    ⟨some 197, .move (.tmp 17), some (196, true)⟩,
    ⟨some 198, .binOp .eql 3 (.tmp 197) (.const (.int .i64 0)) 3, some (196, true)⟩,
    ⟨some 199, .pick (.tmp 196) (.tmp 198) (.const (.bool false)), none⟩,
    ⟨some 200, .move (.tmp 199), none⟩,
    ⟨some 201, .move (.tmp 19), some (200, true)⟩,
    ⟨some 202, .binOp .eql 3 (.tmp 201) (.const (.int .i64 1)) 3, some (200, true)⟩,
    ⟨some 203, .pick (.tmp 200) (.tmp 202) (.const (.bool false)), none⟩,
    ⟨some 204, .move (.tmp 203), none⟩,
    ⟨some 205, .move (.tmp 21), some (204, true)⟩,
    ⟨some 206, .binOp .eql 3 (.tmp 205) (.const (.int .i64 0)) 3, some (204, true)⟩,
    ⟨some 207, .pick (.tmp 204) (.tmp 206) (.const (.bool false)), none⟩,
    ⟨some 208, .move (.tmp 207), none⟩,
    ⟨some 209, .move (.tmp 24), some (208, true)⟩,
    ⟨some 210, .binOp .eql 27 (.tmp 209) (.const (.int .i64 3)) 27, some (208, true)⟩,
    ⟨some 211, .pick (.tmp 208) (.tmp 210) (.const (.bool false)), none⟩,
    ⟨some 212, .move (.tmp 211), none⟩,
    ⟨some 213, .move (.tmp 26), some (212, true)⟩,
    ⟨some 214, .binOp .eql 27 (.tmp 213) (.const (.int .i64 16)) 27, some (212, true)⟩,
    ⟨some 215, .pick (.tmp 212) (.tmp 214) (.const (.bool false)), none⟩,
    ⟨some 216, .move (.tmp 215), none⟩,
    ⟨some 217, .load 56 (.tmp 27), some (216, true)⟩,
    ⟨some 218, .call { callee := .value (.func 31), args := #[], argTypes := #[] }, some (216, true)⟩,
    ⟨some 219, .indexAddr 22 (.tmp 218) (.const (.int .i64 1)), some (216, true)⟩,
    ⟨some 220, .load 56 (.tmp 219), some (216, true)⟩,
    ⟨some 221, .binOp .eql 56 (.tmp 217) (.tmp 220) 56, some (216, true)⟩,
    ⟨some 222, .pick (.tmp 216) (.tmp 221) (.const (.bool false)), none⟩,
    ⟨some 223, .move (.tmp 222), none⟩,
    ⟨some 224, .move (.tmp 28), some (223, true)⟩,
    ⟨some 225, .pick (.tmp 223) (.tmp 224) (.const (.bool false)), none⟩,
    ⟨some 226, .move (.tmp 225), none⟩,
    ⟨some 227, .move (.tmp 16), some (226, true)⟩,
    ⟨some 228, .call { callee := .value (.func 28), args := #[.tmp 227], argTypes := #[58] }, some (226, true)⟩,
    ⟨some 229, .call { callee := .builtin .len, args := #[.tmp 228], argTypes := #[22] }, some (226, true)⟩,
    ⟨some 230, .binOp .eql 3 (.tmp 229) (.const (.int .i64 2)) 3, some (226, true)⟩,
    ⟨some 231, .pick (.tmp 226) (.tmp 230) (.const (.bool false)), none⟩,
    ⟨some 0, .assign (.tmp 231), none⟩] [(63, 64), (105, 106)])
  .ret))))))))))))))))
theorem S9_eq : slimF Try.prog 9 = some (232, [.tmp 0], S9) := by kernel_rfl

def S10L1 : SC :=
  (.seq (.reg [⟨some 12, .binOp .lss 3 (.tmp 11) (.tmp 10) 3, none⟩] [])
  (.seq (.cond (.tmp 12) .skip (.exit 0))
  (.seq (.block 1 (.seq (.reg [⟨some 13, .move (.tmp 11), none⟩,
    ⟨some 14, .indexAddr 22 (.tmp 9) (.tmp 11), none⟩,
    ⟨some 15, .load 56 (.tmp 14), none⟩,
    ⟨some 5, .alloc 56, none⟩,
    ⟨some 4, .assign (.tmp 13), none⟩,
    ⟨none, .store 56 (.tmp 5) (.tmp 15), none⟩] [])
  (.seq (.reg [⟨some 16, .load 56 (.tmp 5), none⟩,
    ⟨some 17, .move (.tmp 4), none⟩,
    ⟨some 18, .call { callee := .value (.func 32), args := #[.tmp 16, .tmp 17], argTypes := #[56, 3] }, none⟩,
    ⟨some 19, .unOp .not 4 (.tmp 18), none⟩] [])
  (.cond (.tmp 19) (.seq (.reg [⟨some 20, .move (.tmp 4), none⟩,
    ⟨some 2, .assign (.tmp 20), none⟩,
    ⟨some 3, .assign (.const (.int .i64 3)), none⟩] [])
  .ret) .skip))))
  (.reg [⟨some 21, .binOp .add 3 (.tmp 11) (.const (.int .i64 1)) 3, none⟩,
    ⟨some 11, .move (.tmp 21), none⟩] []))))
/-- tamis/term.Check -/
def S10 : SC :=
  (.seq (.reg [⟨some 2, .assign (.const (.int .i64 0)), none⟩,
    ⟨some 3, .assign (.const (.int .i64 0)), none⟩] [])
  (.seq (.seq (.reg [⟨some 6, .move (.tmp 0), none⟩,
    ⟨some 7, .call { callee := .builtin .len, args := #[.tmp 6], argTypes := #[22] }, none⟩,
    ⟨some 8, .binOp .gtr 3 (.tmp 7) (.const (.int .i64 65536)) 3, none⟩] [])
  (.cond (.tmp 8) (.seq (.reg [⟨some 2, .assign (.const (.int .i64 0)), none⟩,
    ⟨some 3, .assign (.const (.int .i64 5)), none⟩] [])
  .ret) .skip))
  (.seq (.seq (.reg [⟨some 9, .move (.tmp 0), none⟩,
    ⟨some 10, .call { callee := .builtin .len, args := #[.tmp 9], argTypes := #[22] }, none⟩,
    ⟨some 11, .move (.const (.int .i64 0)), none⟩] [])
  (.block 0 (.loop S10L1)))
  (.seq (.reg [⟨some 2, .assign (.const (.int .i64 0)), none⟩,
    ⟨some 3, .assign (.const (.int .i64 0)), none⟩] [])
  .ret))))
theorem S10_eq : slimF Try.prog 10 = some (22, [.tmp 2, .tmp 3], S10) := by kernel_rfl

def S11L1 : SC :=
  (.seq (.seq (.reg [⟨some 8, .move (.tmp 4), none⟩,
    ⟨some 9, .move (.tmp 0), none⟩,
    ⟨some 10, .call { callee := .builtin .len, args := #[.tmp 9], argTypes := #[22] }, none⟩,
    ⟨some 11, .binOp .lss 3 (.tmp 8) (.tmp 10) 3, none⟩] [])
  (.cond (.tmp 11) .skip (.exit 0)))
  (.seq (.block 1 (.seq (.reg [⟨some 14, .move (.tmp 0), none⟩,
    ⟨some 15, .move (.tmp 4), none⟩,
    ⟨some 16, .indexAddr 22 (.tmp 14) (.tmp 15), none⟩,
    ⟨some 17, .load 56 (.tmp 16), none⟩,
    ⟨some 18, .move (.tmp 4), none⟩,
    ⟨some 19, .call { callee := .value (.func 24), args := #[.tmp 17, .tmp 18], argTypes := #[56, 3] }, none⟩,
    ⟨some 20, .unOp .not 4 (.tmp 19), none⟩] [])
  (.cond (.tmp 20) (.seq (.reg [⟨some 21, .move (.tmp 4), none⟩,
    ⟨some 2, .assign (.tmp 21), none⟩,
    ⟨some 3, .assign (.const (.int .i64 3)), none⟩] [])
  .ret) .skip)))
  (.reg [⟨some 12, .move (.tmp 4), none⟩,
    ⟨some 13, .binOp .add 3 (.tmp 12) (.const (.int .i64 1)) 3, none⟩,
    ⟨some 4, .assign (.tmp 13), none⟩] [])))
/-- tamis/tamisref11.Check -/
def S11 : SC :=
  (.seq (.reg [⟨some 2, .assign (.const (.int .i64 0)), none⟩,
    ⟨some 3, .assign (.const (.int .i64 0)), none⟩] [])
  (.seq (.seq (.reg [⟨some 5, .move (.tmp 0), none⟩,
    ⟨some 6, .call { callee := .builtin .len, args := #[.tmp 5], argTypes := #[22] }, none⟩,
    ⟨some 7, .binOp .gtr 3 (.tmp 6) (.const (.int .i64 65536)) 3, none⟩] [])
  (.cond (.tmp 7) (.seq (.reg [⟨some 2, .assign (.const (.int .i64 0)), none⟩,
    ⟨some 3, .assign (.const (.int .i64 5)), none⟩] [])
  .ret) .skip))
  (.seq (.seq (.reg [⟨some 4, .assign (.const (.int .i64 0)), none⟩] [])
  (.block 0 (.loop S11L1)))
  (.seq (.reg [⟨some 2, .assign (.const (.int .i64 0)), none⟩,
    ⟨some 3, .assign (.const (.int .i64 0)), none⟩] [])
  .ret))))
theorem S11_eq : slimF Try.prog 11 = some (22, [.tmp 2, .tmp 3], S11) := by kernel_rfl

def S12L1 : SC :=
  (.seq (.reg [⟨some 21, .binOp .lss 3 (.tmp 20) (.tmp 19) 3, none⟩] [])
  (.seq (.cond (.tmp 21) .skip (.exit 0))
  (.seq (.block 1 (.seq (.reg [⟨some 22, .move (.tmp 20), none⟩,
    ⟨some 23, .indexAddr 22 (.tmp 18) (.tmp 20), none⟩,
    ⟨some 24, .load 56 (.tmp 23), none⟩,
    ⟨some 9, .alloc 56, none⟩,
    ⟨some 8, .assign (.tmp 22), none⟩,
    ⟨none, .store 56 (.tmp 9) (.tmp 24), none⟩] [])
  (.reg [⟨some 25, .move (.tmp 7), none⟩,
    ⟨some 26, .move (.tmp 8), none⟩,
    ⟨some 27, .load 56 (.tmp 9), none⟩,
    ⟨some 28, .move (.tmp 7), none⟩,
    ⟨some 29, .call { callee := .value (.func 34), args := #[.tmp 27, .tmp 28, .tmp 3], argTypes := #[56, 32, 74] }, none⟩,
    ⟨some 30, .indexAddr 32 (.tmp 25) (.tmp 26), none⟩,
    ⟨none, .store 23 (.tmp 30) (.tmp 29), none⟩] [])))
  (.reg [⟨some 31, .binOp .add 3 (.tmp 20) (.const (.int .i64 1)) 3, none⟩,
    ⟨some 20, .move (.tmp 31), none⟩] []))))
/-- tamis/term.Values -/
def S12 : SC :=
  (.seq (.reg [⟨some 3, .box 25 (.tmp 1), none⟩,
    ⟨some 4, .assign (.const (.slice none 0 0)), none⟩,
    ⟨some 5, .assign (.const (.int .i64 0)), none⟩] [])
  (.seq (.seq (.reg [⟨some 10, .move (.tmp 0), none⟩,
    ⟨some 11, .call { callee := .value (.func 33), args := #[.tmp 10, .const (.slice none 0 0)], argTypes := #[22, 52] }, none⟩,
    ⟨some 6, .assign (.tmp 11), none⟩] [])
  (.seq (.reg [⟨some 12, .move (.tmp 6), none⟩,
    ⟨some 13, .binOp .neq 27 (.tmp 12) (.const (.int .i64 0)) 27, none⟩] [])
  (.cond (.tmp 13) (.seq (.reg [⟨some 14, .move (.tmp 6), none⟩,
    ⟨some 4, .assign (.const (.slice none 0 0)), none⟩,
    ⟨some 5, .assign (.tmp 14), none⟩] [])
  .ret) .skip)))
  (.seq (.reg [⟨some 15, .move (.tmp 0), none⟩,
    ⟨some 16, .call { callee := .builtin .len, args := #[.tmp 15], argTypes := #[22] }, none⟩,
    ⟨some 17, .makeSlice 32 (.tmp 16) (.tmp 16), none⟩,
    ⟨some 7, .assign (.tmp 17), none⟩] [])
  (.seq (.seq (.reg [⟨some 18, .move (.tmp 0), none⟩,
    ⟨some 19, .call { callee := .builtin .len, args := #[.tmp 18], argTypes := #[22] }, none⟩,
    ⟨some 20, .move (.const (.int .i64 0)), none⟩] [])
  (.block 0 (.loop S12L1)))
  (.seq (.reg [⟨some 32, .move (.tmp 7), none⟩,
    ⟨some 4, .assign (.tmp 32), none⟩,
    ⟨some 5, .assign (.const (.int .i64 0)), none⟩] [])
  .ret)))))
theorem S12_eq : slimF Try.prog 12 = some (33, [.tmp 4, .tmp 5], S12) := by kernel_rfl

/-- tamis/term.Value -/
def S13 : SC :=
  (.seq (.reg [⟨some 5, .box 25 (.tmp 2), none⟩,
    ⟨some 6, .assign (.const (.int .u32 0)), none⟩,
    ⟨some 7, .assign (.const (.int .i64 0)), none⟩] [])
  (.seq (.seq (.reg [⟨some 11, .move (.tmp 0), none⟩,
    ⟨some 12, .move (.tmp 1), none⟩,
    ⟨some 13, .buildSlice 52 1 #[(0, .tmp 12)], none⟩,
    ⟨some 14, .call { callee := .value (.func 33), args := #[.tmp 11, .tmp 13], argTypes := #[22, 52] }, none⟩,
    ⟨some 8, .assign (.tmp 14), none⟩] [])
  (.seq (.reg [⟨some 15, .move (.tmp 8), none⟩,
    ⟨some 16, .binOp .neq 27 (.tmp 15) (.const (.int .i64 0)) 27, none⟩] [])
  (.cond (.tmp 16) (.seq (.reg [⟨some 17, .move (.tmp 8), none⟩,
    ⟨some 6, .assign (.const (.int .u32 0)), none⟩,
    ⟨some 7, .assign (.tmp 17), none⟩] [])
  .ret) .skip)))
  (.seq (.reg [⟨some 19, .move (.tmp 0), none⟩,
    ⟨some 20, .move (.tmp 1), none⟩,
    ⟨some 21, .binOp .add 3 (.tmp 20) (.const (.int .i64 1)) 3, none⟩,
    ⟨some 22, .slice 22 (.tmp 19) none (some (.tmp 21)) none, none⟩,
    ⟨some 23, .load 25 (.tmp 5), none⟩,
    ⟨some 24, .call { callee := .value (.func 12), args := #[.tmp 22, .tmp 23], argTypes := #[22, 25] }, none⟩,
    ⟨some 18, .move (.tmp 24), none⟩,
    ⟨some 25, .extract (.tmp 18) 0, none⟩,
    ⟨some 26, .extract (.tmp 18) 1, none⟩,
    ⟨some 9, .assign (.tmp 25), none⟩,
    ⟨some 10, .assign (.tmp 26), none⟩] [])
  (.seq (.reg [⟨some 27, .move (.tmp 9), none⟩,
    ⟨some 28, .move (.tmp 1), none⟩,
    ⟨some 29, .indexAddr 32 (.tmp 27) (.tmp 28), none⟩,
    ⟨some 30, .load 23 (.tmp 29), none⟩,
    ⟨some 6, .assign (.tmp 30), none⟩,
    ⟨some 7, .assign (.const (.int .i64 0)), none⟩] [])
  .ret))))
theorem S13_eq : slimF Try.prog 13 = some (31, [.tmp 6, .tmp 7], S13) := by kernel_rfl

def S14L1 : SC :=
  (.seq (.seq (.reg [⟨some 12, .move (.tmp 6), none⟩,
    ⟨some 13, .move (.tmp 0), none⟩,
    ⟨some 14, .call { callee := .builtin .len, args := #[.tmp 13], argTypes := #[22] }, none⟩,
    ⟨some 15, .binOp .lss 3 (.tmp 12) (.tmp 14) 3, none⟩] [])
  (.cond (.tmp 15) .skip (.exit 0)))
  (.seq (.block 1 (.seq (.reg [⟨some 18, .move (.tmp 0), none⟩,
    ⟨some 19, .move (.tmp 6), none⟩,
    ⟨some 20, .indexAddr 22 (.tmp 18) (.tmp 19), none⟩,
    ⟨some 21, .fieldAddr 56 (.tmp 20) 0, none⟩,
    ⟨some 22, .load 3 (.tmp 21), none⟩] [])
  (.block 2 (.seq (.reg [⟨some 55, .binOp .eql 3 (.tmp 22) (.const (.int .i64 1)) 3, none⟩,
    ⟨some 54, .assign (.tmp 55), none⟩] [])
  (.cond (.tmp 54) (.reg [⟨some 56, .move (.tmp 5), none⟩,
    ⟨some 57, .move (.tmp 6), none⟩,
    ⟨some 58, .move (.tmp 0), none⟩,
    ⟨some 59, .move (.tmp 6), none⟩,
    ⟨some 60, .indexAddr 22 (.tmp 58) (.tmp 59), none⟩,
    ⟨some 61, .fieldAddr 56 (.tmp 60) 3, none⟩,
    ⟨some 62, .load 23 (.tmp 61), none⟩,
    ⟨some 63, .indexAddr 32 (.tmp 56) (.tmp 57), none⟩,
    ⟨none, .store 23 (.tmp 63) (.tmp 62), none⟩] []) (.seq (.reg [⟨some 65, .binOp .eql 3 (.tmp 22) (.const (.int .i64 2)) 3, none⟩,
    ⟨some 64, .assign (.tmp 65), none⟩] [])
  (.cond (.tmp 64) (.reg [⟨some 66, .move (.tmp 5), none⟩,
    ⟨some 67, .move (.tmp 6), none⟩,
    ⟨some 68, .move (.tmp 0), none⟩,
    ⟨some 69, .move (.tmp 6), none⟩,
    ⟨some 70, .indexAddr 22 (.tmp 68) (.tmp 69), none⟩,
    ⟨some 71, .fieldAddr 56 (.tmp 70) 3, none⟩,
    ⟨some 72, .load 23 (.tmp 71), none⟩,
    ⟨some 73, .indexAddr 25 (.tmp 3) (.tmp 72), none⟩,
    ⟨some 74, .load 23 (.tmp 73), none⟩,
    ⟨some 75, .indexAddr 32 (.tmp 66) (.tmp 67), none⟩,
    ⟨none, .store 23 (.tmp 75) (.tmp 74), none⟩] []) (.seq (.reg [⟨some 77, .binOp .eql 3 (.tmp 22) (.const (.int .i64 384)) 3, none⟩,
    ⟨some 76, .assign (.tmp 77), none⟩] [])
  (.cond (.tmp 76) (.reg [⟨some 79, .move (.tmp 5), none⟩,
    ⟨some 80, .move (.tmp 6), none⟩,
    ⟨some 81, .move (.tmp 5), none⟩,
    ⟨some 82, .move (.tmp 0), none⟩,
    ⟨some 83, .move (.tmp 6), none⟩,
    ⟨some 84, .indexAddr 22 (.tmp 82) (.tmp 83), none⟩,
    ⟨some 85, .fieldAddr 56 (.tmp 84) 1, none⟩,
    ⟨some 86, .load 3 (.tmp 85), none⟩,
    ⟨some 87, .indexAddr 32 (.tmp 81) (.tmp 86), none⟩,
    ⟨some 88, .load 23 (.tmp 87), none⟩,
    ⟨some 89, .call { callee := .value (.func 35), args := #[.const (.int .i64 128), .tmp 88, .const (.int .u32 0)], argTypes := #[3, 23, 23] }, none⟩,
    ⟨some 78, .move (.tmp 89), none⟩,
    ⟨some 90, .extract (.tmp 78) 0, none⟩,
    ⟨some 91, .extract (.tmp 78) 1, none⟩,
    ⟨some 92, .indexAddr 32 (.tmp 79) (.tmp 80), none⟩,
    ⟨none, .store 23 (.tmp 92) (.tmp 90), none⟩] []) (.seq (.reg [⟨some 24, .move (.tmp 0), none⟩,
    ⟨some 25, .move (.tmp 6), none⟩,
    ⟨some 26, .indexAddr 22 (.tmp 24) (.tmp 25), none⟩,
    ⟨some 27, .fieldAddr 56 (.tmp 26) 0, none⟩,
    ⟨some 28, .load 3 (.tmp 27), none⟩,
    ⟨some 29, .binOp .sub 3 (.tmp 28) (.const (.int .i64 256)) 3, none⟩,
    ⟨some 30, .move (.tmp 5), none⟩,
    ⟨some 31, .move (.tmp 0), none⟩,
    ⟨some 32, .move (.tmp 6), none⟩,
    ⟨some 33, .indexAddr 22 (.tmp 31) (.tmp 32), none⟩,
    ⟨some 34, .fieldAddr 56 (.tmp 33) 1, none⟩,
    ⟨some 35, .load 3 (.tmp 34), none⟩,
    ⟨some 36, .indexAddr 32 (.tmp 30) (.tmp 35), none⟩,
    ⟨some 37, .load 23 (.tmp 36), none⟩,
    ⟨some 38, .move (.tmp 5), none⟩,
    ⟨some 39, .move (.tmp 0), none⟩,
    ⟨some 40, .move (.tmp 6), none⟩,
    ⟨some 41, .indexAddr 22 (.tmp 39) (.tmp 40), none⟩,
    ⟨some 42, .fieldAddr 56 (.tmp 41) 2, none⟩,
    ⟨some 43, .load 3 (.tmp 42), none⟩,
    ⟨some 44, .indexAddr 32 (.tmp 38) (.tmp 43), none⟩,
    ⟨some 45, .load 23 (.tmp 44), none⟩,
    ⟨some 46, .call { callee := .value (.func 35), args := #[.tmp 29, .tmp 37, .tmp 45], argTypes := #[3, 23, 23] }, none⟩,
    ⟨some 23, .move (.tmp 46), none⟩,
    ⟨some 47, .extract (.tmp 23) 0, none⟩,
    ⟨some 48, .extract (.tmp 23) 1, none⟩,
    ⟨some 7, .assign (.tmp 47), none⟩,
    ⟨some 8, .assign (.tmp 48), none⟩] [])
  (.seq (.reg [⟨some 49, .move (.tmp 8), none⟩] [])
  (.cond (.tmp 49) (.reg [⟨some 50, .move (.tmp 5), none⟩,
    ⟨some 51, .move (.tmp 6), none⟩,
    ⟨some 52, .move (.tmp 7), none⟩,
    ⟨some 53, .indexAddr 32 (.tmp 50) (.tmp 51), none⟩,
    ⟨none, .store 23 (.tmp 53) (.tmp 52), none⟩] []) .skip))))))))))))
  (.reg [⟨some 16, .move (.tmp 6), none⟩,
    ⟨some 17, .binOp .add 3 (.tmp 16) (.const (.int .i64 1)) 3, none⟩,
    ⟨some 6, .assign (.tmp 17), none⟩] [])))
/-- tamis/tamisref11.Values -/
def S14 : SC :=
  (.seq (.reg [⟨some 3, .box 25 (.tmp 1), none⟩,
    ⟨some 4, .assign (.const (.slice none 0 0)), none⟩] [])
  (.seq (.reg [⟨some 9, .move (.tmp 0), none⟩,
    ⟨some 10, .call { callee := .builtin .len, args := #[.tmp 9], argTypes := #[22] }, none⟩,
    ⟨some 11, .makeSlice 32 (.tmp 10) (.tmp 10), none⟩,
    ⟨some 5, .assign (.tmp 11), none⟩] [])
  (.seq (.seq (.reg [⟨some 6, .assign (.const (.int .i64 0)), none⟩] [])
  (.block 0 (.loop S14L1)))
  (.seq (.reg [⟨some 93, .move (.tmp 5), none⟩,
    ⟨some 4, .assign (.tmp 93), none⟩] [])
  .ret))))
theorem S14_eq : slimF Try.prog 14 = some (94, [.tmp 4], S14) := by kernel_rfl

/-- tamis/tamisref11.Right -/
def S15 : SC :=
  (.seq (.reg [⟨some 2, .assign (.const (.bool false)), none⟩] [])
  (.seq (.reg [⟨some 6, .move (.tmp 0), none⟩,
    ⟨some 7, .call { callee := .value (.func 11), args := #[.tmp 6], argTypes := #[22] }, none⟩,
    ⟨some 5, .move (.tmp 7), none⟩,
    ⟨some 8, .extract (.tmp 5) 0, none⟩,
    ⟨some 9, .extract (.tmp 5) 1, none⟩,
    ⟨some 3, .assign (.tmp 8), none⟩,
    ⟨some 4, .assign (.tmp 9), none⟩] [])
  (.seq (.reg [⟨some 10, .move (.tmp 4), none⟩,
    ⟨some 11, .binOp .eql 3 (.tmp 10) (.const (.int .i64 0)) 3, none⟩,
    ⟨some 2, .assign (.tmp 11), none⟩] [])
  .ret)))
theorem S15_eq : slimF Try.prog 15 = some (12, [.tmp 2], S15) := by kernel_rfl

def S16L1 : SC :=
  (.seq (.reg [⟨some 22, .binOp .lss 3 (.tmp 21) (.tmp 20) 3, none⟩] [])
  (.seq (.cond (.tmp 22) .skip (.exit 0))
  (.seq (.block 1 (.seq (.reg [⟨some 23, .move (.tmp 21), none⟩,
    ⟨some 24, .indexAddr 50 (.tmp 19) (.tmp 21), none⟩,
    ⟨some 25, .load 4 (.tmp 24), none⟩,
    ⟨some 7, .assign (.tmp 23), none⟩,
    ⟨some 8, .assign (.tmp 25), none⟩] [])
  (.seq (.reg [⟨some 26, .move (.tmp 8), none⟩,
    ⟨some 27, .move (.tmp 26), none⟩,
    ⟨some 28, .move (.tmp 0), some (27, true)⟩,
    ⟨some 29, .move (.tmp 7), some (27, true)⟩,
    ⟨some 30, .indexAddr 22 (.tmp 28) (.tmp 29), some (27, true)⟩,
    ⟨some 31, .fieldAddr 56 (.tmp 30) 0, some (27, true)⟩,
    ⟨some 32, .load 3 (.tmp 31), some (27, true)⟩,
    ⟨some 33, .binOp .eql 3 (.tmp 32) (.const (.int .i64 2)) 3, some (27, true)⟩,
    ⟨some 34, .pick (.tmp 27) (.tmp 33) (.const (.bool false)), none⟩] [])
  (.cond (.tmp 34) (.reg [⟨some 35, .move (.tmp 4), none⟩,
    ⟨some 36, .move (.tmp 0), none⟩,
    ⟨some 37, .move (.tmp 7), none⟩,
    ⟨some 38, .indexAddr 22 (.tmp 36) (.tmp 37), none⟩,
    ⟨some 39, .fieldAddr 56 (.tmp 38) 3, none⟩,
    ⟨some 40, .load 23 (.tmp 39), none⟩,
    ⟨some 41, .binOp .shl 40 (.const (.int .u16 1)) (.tmp 40) 23, none⟩,
    ⟨some 42, .binOp .or 40 (.tmp 35) (.tmp 41) 40, none⟩,
    ⟨some 4, .assign (.tmp 42), none⟩] []) .skip))))
  (.reg [⟨some 43, .binOp .add 3 (.tmp 21) (.const (.int .i64 1)) 3, none⟩,
    ⟨some 21, .move (.tmp 43), none⟩] []))))
/-- tamis/term.Uses -/
def S16 : SC :=
  (.seq (.reg [⟨some 4, .assign (.const (.int .u16 0)), none⟩,
    ⟨some 5, .assign (.const (.int .i64 0)), none⟩] [])
  (.seq (.seq (.reg [⟨some 9, .move (.tmp 0), none⟩,
    ⟨some 10, .move (.tmp 1), none⟩,
    ⟨some 11, .buildSlice 52 1 #[(0, .tmp 10)], none⟩,
    ⟨some 12, .call { callee := .value (.func 33), args := #[.tmp 9, .tmp 11], argTypes := #[22, 52] }, none⟩,
    ⟨some 6, .assign (.tmp 12), none⟩] [])
  (.seq (.reg [⟨some 13, .move (.tmp 6), none⟩,
    ⟨some 14, .binOp .neq 27 (.tmp 13) (.const (.int .i64 0)) 27, none⟩] [])
  (.cond (.tmp 14) (.seq (.reg [⟨some 15, .move (.tmp 6), none⟩,
    ⟨some 4, .assign (.const (.int .u16 0)), none⟩,
    ⟨some 5, .assign (.tmp 15), none⟩] [])
  .ret) .skip)))
  (.seq (.seq (.reg [⟨some 16, .move (.tmp 0), none⟩,
    ⟨some 17, .move (.tmp 1), none⟩,
    ⟨some 18, .buildSlice 52 1 #[(0, .tmp 17)], none⟩,
    ⟨some 19, .call { callee := .value (.func 36), args := #[.tmp 16, .tmp 18], argTypes := #[22, 52] }, none⟩,
    ⟨some 20, .call { callee := .builtin .len, args := #[.tmp 19], argTypes := #[50] }, none⟩,
    ⟨some 21, .move (.const (.int .i64 0)), none⟩] [])
  (.block 0 (.loop S16L1)))
  (.seq (.reg [⟨some 44, .move (.tmp 4), none⟩,
    ⟨some 4, .assign (.tmp 44), none⟩,
    ⟨some 5, .assign (.const (.int .i64 0)), none⟩] [])
  .ret))))
theorem S16_eq : slimF Try.prog 16 = some (45, [.tmp 4, .tmp 5], S16) := by kernel_rfl

def S17L1 : SC :=
  (.seq (.seq (.reg [⟨some 11, .move (.tmp 7), none⟩,
    ⟨some 12, .move (.tmp 0), none⟩,
    ⟨some 13, .call { callee := .builtin .len, args := #[.tmp 12], argTypes := #[22] }, none⟩,
    ⟨some 14, .binOp .lss 3 (.tmp 11) (.tmp 13) 3, none⟩] [])
  (.cond (.tmp 14) .skip (.exit 0)))
  (.seq (.block 1 (.seq (.reg [⟨some 17, .move (.tmp 6), none⟩,
    ⟨some 18, .move (.tmp 7), none⟩,
    ⟨some 19, .indexAddr 50 (.tmp 17) (.tmp 18), none⟩,
    ⟨some 20, .load 4 (.tmp 19), none⟩,
    ⟨some 21, .move (.tmp 20), none⟩,
    ⟨some 22, .move (.tmp 0), some (21, true)⟩,
    ⟨some 23, .move (.tmp 7), some (21, true)⟩,
    ⟨some 24, .indexAddr 22 (.tmp 22) (.tmp 23), some (21, true)⟩,
    ⟨some 25, .fieldAddr 56 (.tmp 24) 0, some (21, true)⟩,
    ⟨some 26, .load 3 (.tmp 25), some (21, true)⟩,
    ⟨some 27, .binOp .eql 3 (.tmp 26) (.const (.int .i64 2)) 3, some (21, true)⟩,
    ⟨some 28, .pick (.tmp 21) (.tmp 27) (.const (.bool false)), none⟩] [])
  (.cond (.tmp 28) (.reg [⟨some 29, .move (.tmp 5), none⟩,
    ⟨some 30, .move (.tmp 0), none⟩,
    ⟨some 31, .move (.tmp 7), none⟩,
    ⟨some 32, .indexAddr 22 (.tmp 30) (.tmp 31), none⟩,
    ⟨some 33, .fieldAddr 56 (.tmp 32) 3, none⟩,
    ⟨some 34, .load 23 (.tmp 33), none⟩,
    ⟨some 35, .binOp .shl 40 (.const (.int .u16 1)) (.tmp 34) 23, none⟩,
    ⟨some 36, .binOp .or 40 (.tmp 29) (.tmp 35) 40, none⟩,
    ⟨some 5, .assign (.tmp 36), none⟩] []) .skip)))
  (.reg [⟨some 15, .move (.tmp 7), none⟩,
    ⟨some 16, .binOp .add 3 (.tmp 15) (.const (.int .i64 1)) 3, none⟩,
    ⟨some 7, .assign (.tmp 16), none⟩] [])))
/-- tamis/tamisref11.Uses -/
def S17 : SC :=
  (.seq (.reg [⟨some 4, .assign (.const (.int .u16 0)), none⟩] [])
  (.seq (.reg [⟨some 5, .assign (.const (.int .u16 0)), none⟩] [])
  (.seq (.reg [⟨some 8, .move (.tmp 0), none⟩,
    ⟨some 9, .move (.tmp 1), none⟩,
    ⟨some 10, .call { callee := .value (.func 20), args := #[.tmp 8, .tmp 9], argTypes := #[22, 3] }, none⟩,
    ⟨some 6, .assign (.tmp 10), none⟩] [])
  (.seq (.seq (.reg [⟨some 7, .assign (.const (.int .i64 0)), none⟩] [])
  (.block 0 (.loop S17L1)))
  (.seq (.reg [⟨some 37, .move (.tmp 5), none⟩,
    ⟨some 4, .assign (.tmp 37), none⟩] [])
  .ret)))))
theorem S17_eq : slimF Try.prog 17 = some (38, [.tmp 4], S17) := by kernel_rfl

def S18L2 : SC :=
  (.seq (.seq (.reg [⟨some 22, .move (.tmp 7), none⟩,
    ⟨some 23, .move (.tmp 6), none⟩,
    ⟨some 24, .call { callee := .builtin .len, args := #[.tmp 23], argTypes := #[52] }, none⟩,
    ⟨some 25, .binOp .lss 3 (.tmp 22) (.tmp 24) 3, none⟩] [])
  (.cond (.tmp 25) .skip (.exit 2)))
  (.seq (.block 3 (.reg [⟨some 28, .move (.tmp 5), none⟩,
    ⟨some 29, .move (.tmp 3), none⟩,
    ⟨some 30, .move (.tmp 6), none⟩,
    ⟨some 31, .move (.tmp 7), none⟩,
    ⟨some 32, .indexAddr 52 (.tmp 30) (.tmp 31), none⟩,
    ⟨some 33, .load 3 (.tmp 32), none⟩,
    ⟨some 34, .indexAddr 45 (.tmp 29) (.tmp 33), none⟩,
    ⟨some 35, .load 47 (.tmp 34), none⟩,
    ⟨some 36, .binOp .add 47 (.tmp 28) (.tmp 35) 47, none⟩,
    ⟨some 5, .assign (.tmp 36), none⟩] []))
  (.reg [⟨some 26, .move (.tmp 7), none⟩,
    ⟨some 27, .binOp .add 3 (.tmp 26) (.const (.int .i64 1)) 3, none⟩,
    ⟨some 7, .assign (.tmp 27), none⟩] [])))
def S18L1 : SC :=
  (.seq (.seq (.reg [⟨some 11, .move (.tmp 4), none⟩,
    ⟨some 12, .move (.tmp 0), none⟩,
    ⟨some 13, .call { callee := .builtin .len, args := #[.tmp 12], argTypes := #[22] }, none⟩,
    ⟨some 14, .binOp .lss 3 (.tmp 11) (.tmp 13) 3, none⟩] [])
  (.cond (.tmp 14) .skip (.exit 0)))
  (.seq (.block 1 (.seq (.reg [⟨some 5, .assign (.const (.int .u64 1)), none⟩] [])
  (.seq (.reg [⟨some 17, .move (.tmp 0), none⟩,
    ⟨some 18, .move (.tmp 4), none⟩,
    ⟨some 19, .indexAddr 22 (.tmp 17) (.tmp 18), none⟩,
    ⟨some 20, .load 56 (.tmp 19), none⟩,
    ⟨some 21, .call { callee := .value (.func 37), args := #[.tmp 20], argTypes := #[56] }, none⟩,
    ⟨some 6, .assign (.tmp 21), none⟩] [])
  (.seq (.seq (.reg [⟨some 7, .assign (.const (.int .i64 0)), none⟩] [])
  (.block 2 (.loop S18L2)))
  (.reg [⟨some 37, .move (.tmp 3), none⟩,
    ⟨some 38, .move (.tmp 4), none⟩,
    ⟨some 39, .move (.tmp 5), none⟩,
    ⟨some 40, .call { callee := .builtin .min, args := #[.tmp 39, .const (.int .u64 1125899906842624)], argTypes := #[47, 47] }, none⟩,
    ⟨some 41, .indexAddr 45 (.tmp 37) (.tmp 38), none⟩,
    ⟨none, .store 47 (.tmp 41) (.tmp 40), none⟩] [])))))
  (.reg [⟨some 15, .move (.tmp 4), none⟩,
    ⟨some 16, .binOp .add 3 (.tmp 15) (.const (.int .i64 1)) 3, none⟩,
    ⟨some 4, .assign (.tmp 16), none⟩] [])))
/-- tamis/tamisref11.Sizes -/
def S18 : SC :=
  (.seq (.reg [⟨some 2, .assign (.const (.slice none 0 0)), none⟩] [])
  (.seq (.reg [⟨some 8, .move (.tmp 0), none⟩,
    ⟨some 9, .call { callee := .builtin .len, args := #[.tmp 8], argTypes := #[22] }, none⟩,
    ⟨some 10, .makeSlice 45 (.tmp 9) (.tmp 9), none⟩,
    ⟨some 3, .assign (.tmp 10), none⟩] [])
  (.seq (.seq (.reg [⟨some 4, .assign (.const (.int .i64 0)), none⟩] [])
  (.block 0 (.loop S18L1)))
  (.seq (.reg [⟨some 42, .move (.tmp 3), none⟩,
    ⟨some 2, .assign (.tmp 42), none⟩] [])
  .ret))))
theorem S18_eq : slimF Try.prog 18 = some (43, [.tmp 2], S18) := by kernel_rfl

def S19L2 : SC :=
  (.seq (.reg [⟨some 36, .binOp .lss 3 (.tmp 35) (.tmp 34) 3, none⟩] [])
  (.seq (.cond (.tmp 36) .skip (.exit 2))
  (.seq (.block 3 (.seq (.reg [⟨some 37, .indexAddr 52 (.tmp 33) (.tmp 35), none⟩,
    ⟨some 38, .load 3 (.tmp 37), none⟩,
    ⟨some 10, .assign (.tmp 38), none⟩] [])
  (.reg [⟨some 39, .move (.tmp 7), none⟩,
    ⟨some 40, .move (.tmp 8), none⟩,
    ⟨some 41, .move (.tmp 7), none⟩,
    ⟨some 42, .move (.tmp 8), none⟩,
    ⟨some 43, .indexAddr 45 (.tmp 41) (.tmp 42), none⟩,
    ⟨some 44, .load 47 (.tmp 43), none⟩,
    ⟨some 45, .move (.tmp 7), none⟩,
    ⟨some 46, .move (.tmp 10), none⟩,
    ⟨some 47, .indexAddr 45 (.tmp 45) (.tmp 46), none⟩,
    ⟨some 48, .load 47 (.tmp 47), none⟩,
    ⟨some 49, .binOp .add 47 (.tmp 44) (.tmp 48) 47, none⟩,
    ⟨some 50, .call { callee := .builtin .min, args := #[.tmp 49, .const (.int .u64 1125899906842624)], argTypes := #[47, 47] }, none⟩,
    ⟨some 51, .indexAddr 45 (.tmp 39) (.tmp 40), none⟩,
    ⟨none, .store 47 (.tmp 51) (.tmp 50), none⟩] [])))
  (.reg [⟨some 52, .binOp .add 3 (.tmp 35) (.const (.int .i64 1)) 3, none⟩,
    ⟨some 35, .move (.tmp 52), none⟩] []))))
def S19L1 : SC :=
  (.seq (.reg [⟨some 24, .binOp .lss 3 (.tmp 23) (.tmp 22) 3, none⟩] [])
  (.seq (.cond (.tmp 24) .skip (.exit 0))
  (.seq (.block 1 (.seq (.reg [⟨some 25, .move (.tmp 23), none⟩,
    ⟨some 8, .assign (.tmp 25), none⟩] [])
  (.seq (.reg [⟨some 26, .move (.tmp 7), none⟩,
    ⟨some 27, .move (.tmp 8), none⟩,
    ⟨some 28, .indexAddr 45 (.tmp 26) (.tmp 27), none⟩,
    ⟨none, .store 47 (.tmp 28) (.const (.int .u64 1)), none⟩] [])
  (.seq (.reg [⟨some 29, .move (.tmp 0), none⟩,
    ⟨some 30, .move (.tmp 8), none⟩,
    ⟨some 31, .indexAddr 22 (.tmp 29) (.tmp 30), none⟩,
    ⟨some 32, .load 56 (.tmp 31), none⟩,
    ⟨some 33, .call { callee := .value (.func 38), args := #[.tmp 32], argTypes := #[56] }, none⟩,
    ⟨some 34, .call { callee := .builtin .len, args := #[.tmp 33], argTypes := #[52] }, none⟩,
    ⟨some 35, .move (.const (.int .i64 0)), none⟩] [])
  (.block 2 (.loop S19L2))))))
  (.reg [⟨some 53, .binOp .add 3 (.tmp 23) (.const (.int .i64 1)) 3, none⟩,
    ⟨some 23, .move (.tmp 53), none⟩] []))))
/-- tamis/term.Size -/
def S19 : SC :=
  (.seq (.reg [⟨some 4, .assign (.const (.int .u64 0)), none⟩,
    ⟨some 5, .assign (.const (.int .i64 0)), none⟩] [])
  (.seq (.seq (.reg [⟨some 11, .move (.tmp 0), none⟩,
    ⟨some 12, .move (.tmp 1), none⟩,
    ⟨some 13, .buildSlice 52 1 #[(0, .tmp 12)], none⟩,
    ⟨some 14, .call { callee := .value (.func 33), args := #[.tmp 11, .tmp 13], argTypes := #[22, 52] }, none⟩,
    ⟨some 6, .assign (.tmp 14), none⟩] [])
  (.seq (.reg [⟨some 15, .move (.tmp 6), none⟩,
    ⟨some 16, .binOp .neq 27 (.tmp 15) (.const (.int .i64 0)) 27, none⟩] [])
  (.cond (.tmp 16) (.seq (.reg [⟨some 17, .move (.tmp 6), none⟩,
    ⟨some 4, .assign (.const (.int .u64 0)), none⟩,
    ⟨some 5, .assign (.tmp 17), none⟩] [])
  .ret) .skip)))
  (.seq (.reg [⟨some 18, .move (.tmp 1), none⟩,
    ⟨some 19, .binOp .add 3 (.tmp 18) (.const (.int .i64 1)) 3, none⟩,
    ⟨some 20, .makeSlice 45 (.tmp 19) (.tmp 19), none⟩,
    ⟨some 7, .assign (.tmp 20), none⟩] [])
  (.seq (.seq (.reg [⟨some 21, .move (.tmp 7), none⟩,
    ⟨some 22, .call { callee := .builtin .len, args := #[.tmp 21], argTypes := #[45] }, none⟩,
    ⟨some 23, .move (.const (.int .i64 0)), none⟩] [])
  (.block 0 (.loop S19L1)))
  (.seq (.reg [⟨some 54, .move (.tmp 7), none⟩,
    ⟨some 55, .move (.tmp 1), none⟩,
    ⟨some 56, .indexAddr 45 (.tmp 54) (.tmp 55), none⟩,
    ⟨some 57, .load 47 (.tmp 56), none⟩,
    ⟨some 4, .assign (.tmp 57), none⟩,
    ⟨some 5, .assign (.const (.int .i64 0)), none⟩] [])
  .ret)))))
theorem S19_eq : slimF Try.prog 19 = some (58, [.tmp 4, .tmp 5], S19) := by kernel_rfl

def S20L2 : SC :=
  (.seq (.seq (.reg [⟨some 32, .move (.tmp 8), none⟩,
    ⟨some 33, .move (.tmp 7), none⟩,
    ⟨some 34, .call { callee := .builtin .len, args := #[.tmp 33], argTypes := #[52] }, none⟩,
    ⟨some 35, .binOp .lss 3 (.tmp 32) (.tmp 34) 3, none⟩] [])
  (.cond (.tmp 35) .skip (.exit 2)))
  (.seq (.block 3 (.reg [⟨some 38, .move (.tmp 5), none⟩,
    ⟨some 39, .move (.tmp 7), none⟩,
    ⟨some 40, .move (.tmp 8), none⟩,
    ⟨some 41, .indexAddr 52 (.tmp 39) (.tmp 40), none⟩,
    ⟨some 42, .load 3 (.tmp 41), none⟩,
    ⟨some 43, .indexAddr 50 (.tmp 38) (.tmp 42), none⟩,
    ⟨none, .store 4 (.tmp 43) (.const (.bool true)), none⟩] []))
  (.reg [⟨some 36, .move (.tmp 8), none⟩,
    ⟨some 37, .binOp .add 3 (.tmp 36) (.const (.int .i64 1)) 3, none⟩,
    ⟨some 8, .assign (.tmp 37), none⟩] [])))
def S20L1 : SC :=
  (.seq (.seq (.reg [⟨some 18, .move (.tmp 6), none⟩,
    ⟨some 19, .binOp .geq 3 (.tmp 18) (.const (.int .i64 0)) 3, none⟩] [])
  (.cond (.tmp 19) .skip (.exit 0)))
  (.seq (.block 1 (.seq (.seq (.reg [⟨some 22, .move (.tmp 5), none⟩,
    ⟨some 23, .move (.tmp 6), none⟩,
    ⟨some 24, .indexAddr 50 (.tmp 22) (.tmp 23), none⟩,
    ⟨some 25, .load 4 (.tmp 24), none⟩,
    ⟨some 26, .unOp .not 4 (.tmp 25), none⟩] [])
  (.cond (.tmp 26) (.exit 1) .skip))
  (.seq (.reg [⟨some 27, .move (.tmp 0), none⟩,
    ⟨some 28, .move (.tmp 6), none⟩,
    ⟨some 29, .indexAddr 22 (.tmp 27) (.tmp 28), none⟩,
    ⟨some 30, .load 56 (.tmp 29), none⟩,
    ⟨some 31, .call { callee := .value (.func 37), args := #[.tmp 30], argTypes := #[56] }, none⟩,
    ⟨some 7, .assign (.tmp 31), none⟩] [])
  (.seq (.reg [⟨some 8, .assign (.const (.int .i64 0)), none⟩] [])
  (.block 2 (.loop S20L2))))))
  (.reg [⟨some 20, .move (.tmp 6), none⟩,
    ⟨some 21, .binOp .sub 3 (.tmp 20) (.const (.int .i64 1)) 3, none⟩,
    ⟨some 6, .assign (.tmp 21), none⟩] [])))
/-- tamis/tamisref11.In -/
def S20 : SC :=
  (.seq (.reg [⟨some 4, .assign (.const (.slice none 0 0)), none⟩] [])
  (.seq (.reg [⟨some 9, .move (.tmp 0), none⟩,
    ⟨some 10, .call { callee := .builtin .len, args := #[.tmp 9], argTypes := #[22] }, none⟩,
    ⟨some 11, .makeSlice 50 (.tmp 10) (.tmp 10), none⟩,
    ⟨some 5, .assign (.tmp 11), none⟩] [])
  (.seq (.reg [⟨some 12, .move (.tmp 5), none⟩,
    ⟨some 13, .move (.tmp 1), none⟩,
    ⟨some 14, .indexAddr 50 (.tmp 12) (.tmp 13), none⟩,
    ⟨none, .store 4 (.tmp 14) (.const (.bool true)), none⟩] [])
  (.seq (.seq (.reg [⟨some 15, .move (.tmp 0), none⟩,
    ⟨some 16, .call { callee := .builtin .len, args := #[.tmp 15], argTypes := #[22] }, none⟩,
    ⟨some 17, .binOp .sub 3 (.tmp 16) (.const (.int .i64 1)) 3, none⟩,
    ⟨some 6, .assign (.tmp 17), none⟩] [])
  (.block 0 (.loop S20L1)))
  (.seq (.reg [⟨some 44, .move (.tmp 5), none⟩,
    ⟨some 4, .assign (.tmp 44), none⟩] [])
  .ret)))))
theorem S20_eq : slimF Try.prog 20 = some (45, [.tmp 4], S20) := by kernel_rfl

def S21L1 : SC :=
  (.seq (.reg [⟨some 27, .binOp .lss 3 (.tmp 26) (.tmp 25) 3, none⟩] [])
  (.seq (.cond (.tmp 27) .skip (.exit 0))
  (.seq (.block 1 (.seq (.reg [⟨some 28, .move (.tmp 26), none⟩,
    ⟨some 29, .indexAddr 50 (.tmp 24) (.tmp 26), none⟩,
    ⟨some 30, .load 4 (.tmp 29), none⟩,
    ⟨some 9, .assign (.tmp 28), none⟩,
    ⟨some 10, .assign (.tmp 30), none⟩] [])
  (.seq (.reg [⟨some 31, .move (.tmp 10), none⟩] [])
  (.cond (.tmp 31) (.seq (.reg [⟨some 32, .move (.tmp 8), none⟩,
    ⟨some 33, .move (.tmp 9), none⟩,
    ⟨some 34, .move (.tmp 4), none⟩,
    ⟨some 35, .call { callee := .builtin .len, args := #[.tmp 34], argTypes := #[22] }, none⟩,
    ⟨some 36, .indexAddr 52 (.tmp 32) (.tmp 33), none⟩,
    ⟨none, .store 3 (.tmp 36) (.tmp 35), none⟩] [])
  (.reg [⟨some 37, .move (.tmp 4), none⟩,
    ⟨some 38, .move (.tmp 0), none⟩,
    ⟨some 39, .move (.tmp 9), none⟩,
    ⟨some 40, .indexAddr 22 (.tmp 38) (.tmp 39), none⟩,
    ⟨some 41, .load 56 (.tmp 40), none⟩,
    ⟨some 42, .move (.tmp 8), none⟩,
    ⟨some 43, .call { callee := .value (.func 39), args := #[.tmp 41, .tmp 42], argTypes := #[56, 52] }, none⟩,
    ⟨some 44, .buildSlice 22 1 #[(0, .tmp 43)], none⟩,
    ⟨some 45, .call { callee := .builtin .append, args := #[.tmp 37, .tmp 44], argTypes := #[22, 22] }, none⟩,
    ⟨some 4, .assign (.tmp 45), none⟩] [])) .skip))))
  (.reg [⟨some 46, .binOp .add 3 (.tmp 26) (.const (.int .i64 1)) 3, none⟩,
    ⟨some 26, .move (.tmp 46), none⟩] []))))
def S21L2 : SC :=
  (.seq (.reg [⟨some 50, .binOp .lss 3 (.tmp 49) (.tmp 48) 3, none⟩] [])
  (.seq (.cond (.tmp 50) .skip (.exit 2))
  (.seq (.block 3 (.seq (.reg [⟨some 51, .indexAddr 52 (.tmp 47) (.tmp 49), none⟩,
    ⟨some 52, .load 3 (.tmp 51), none⟩,
    ⟨some 12, .assign (.tmp 52), none⟩] [])
  (.reg [⟨some 53, .move (.tmp 5), none⟩,
    ⟨some 54, .move (.tmp 8), none⟩,
    ⟨some 55, .move (.tmp 12), none⟩,
    ⟨some 56, .indexAddr 52 (.tmp 54) (.tmp 55), none⟩,
    ⟨some 57, .load 3 (.tmp 56), none⟩,
    ⟨some 58, .buildSlice 52 1 #[(0, .tmp 57)], none⟩,
    ⟨some 59, .call { callee := .builtin .append, args := #[.tmp 53, .tmp 58], argTypes := #[52, 52] }, none⟩,
    ⟨some 5, .assign (.tmp 59), none⟩] [])))
  (.reg [⟨some 60, .binOp .add 3 (.tmp 49) (.const (.int .i64 1)) 3, none⟩,
    ⟨some 49, .move (.tmp 60), none⟩] []))))
/-- tamis/term.Only -/
def S21 : SC :=
  (.seq (.reg [⟨some 4, .assign (.const (.slice none 0 0)), none⟩,
    ⟨some 5, .assign (.const (.slice none 0 0)), none⟩,
    ⟨some 6, .assign (.const (.int .i64 0)), none⟩] [])
  (.seq (.seq (.reg [⟨some 13, .move (.tmp 0), none⟩,
    ⟨some 14, .move (.tmp 1), none⟩,
    ⟨some 15, .call { callee := .value (.func 33), args := #[.tmp 13, .tmp 14], argTypes := #[22, 52] }, none⟩,
    ⟨some 7, .assign (.tmp 15), none⟩] [])
  (.seq (.reg [⟨some 16, .move (.tmp 7), none⟩,
    ⟨some 17, .binOp .neq 27 (.tmp 16) (.const (.int .i64 0)) 27, none⟩] [])
  (.cond (.tmp 17) (.seq (.reg [⟨some 18, .move (.tmp 7), none⟩,
    ⟨some 4, .assign (.const (.slice none 0 0)), none⟩,
    ⟨some 5, .assign (.const (.slice none 0 0)), none⟩,
    ⟨some 6, .assign (.tmp 18), none⟩] [])
  .ret) .skip)))
  (.seq (.reg [⟨some 19, .move (.tmp 0), none⟩,
    ⟨some 20, .call { callee := .builtin .len, args := #[.tmp 19], argTypes := #[22] }, none⟩,
    ⟨some 21, .makeSlice 52 (.tmp 20) (.tmp 20), none⟩,
    ⟨some 8, .assign (.tmp 21), none⟩] [])
  (.seq (.seq (.reg [⟨some 22, .move (.tmp 0), none⟩,
    ⟨some 23, .move (.tmp 1), none⟩,
    ⟨some 24, .call { callee := .value (.func 36), args := #[.tmp 22, .tmp 23], argTypes := #[22, 52] }, none⟩,
    ⟨some 25, .call { callee := .builtin .len, args := #[.tmp 24], argTypes := #[50] }, none⟩,
    ⟨some 26, .move (.const (.int .i64 0)), none⟩] [])
  (.block 0 (.loop S21L1)))
  (.seq (.seq (.reg [⟨some 47, .move (.tmp 1), none⟩,
    ⟨some 48, .call { callee := .builtin .len, args := #[.tmp 47], argTypes := #[52] }, none⟩,
    ⟨some 49, .move (.const (.int .i64 0)), none⟩] [])
  (.block 2 (.loop S21L2)))
  (.seq (.reg [⟨some 61, .move (.tmp 4), none⟩,
    ⟨some 62, .move (.tmp 5), none⟩,
    ⟨some 4, .assign (.tmp 61), none⟩,
    ⟨some 5, .assign (.tmp 62), none⟩,
    ⟨some 6, .assign (.const (.int .i64 0)), none⟩] [])
  .ret))))))
theorem S21_eq : slimF Try.prog 21 = some (63, [.tmp 4, .tmp 5, .tmp 6], S21) := by kernel_rfl

/-- tamis/term.New -/
def S22 : SC :=
  (.seq (.reg [⟨some 0, .assign (.const (.pointer none)), none⟩] [])
  (.seq (.reg [⟨some 1, .makeMap 80 none, none⟩,
    ⟨some 2, .build 82 #[(1, .tmp 1)], none⟩,
    ⟨some 3, .box 82 (.tmp 2), none⟩,
    ⟨some 0, .assign (.tmp 3), none⟩] [])
  .ret))
theorem S22_eq : slimF Try.prog 22 = some (4, [.tmp 0], S22) := by kernel_rfl

/-- (*tamis/term.Pool).Put -/
def S23 : SC :=
  (.seq (.reg [⟨some 3, .box 56 (.tmp 1), none⟩,
    ⟨some 4, .assign (.const (.int .i64 0)), none⟩,
    ⟨some 5, .assign (.const (.int .i64 0)), none⟩] [])
  (.seq (.seq (.reg [⟨some 8, .move (.tmp 0), none⟩,
    ⟨some 9, .binOp .eql 58 (.tmp 8) (.const (.pointer none)) 58, none⟩] [])
  (.cond (.tmp 9) (.seq (.reg [⟨some 4, .assign (.const (.int .i64 0)), none⟩,
    ⟨some 5, .assign (.const (.int .i64 16)), none⟩] [])
  .ret) .skip))
  (.seq (.seq (.reg [⟨some 10, .load 56 (.tmp 3), none⟩,
    ⟨some 11, .move (.tmp 0), none⟩,
    ⟨some 12, .nilCheck (.tmp 11), none⟩,
    ⟨some 13, .fieldAddr 82 (.tmp 12) 0, none⟩,
    ⟨some 14, .load 22 (.tmp 13), none⟩,
    ⟨some 15, .call { callee := .builtin .len, args := #[.tmp 14], argTypes := #[22] }, none⟩,
    ⟨some 16, .call { callee := .value (.func 32), args := #[.tmp 10, .tmp 15], argTypes := #[56, 3] }, none⟩,
    ⟨some 17, .unOp .not 4 (.tmp 16), none⟩] [])
  (.cond (.tmp 17) (.seq (.reg [⟨some 4, .assign (.const (.int .i64 0)), none⟩,
    ⟨some 5, .assign (.const (.int .i64 3)), none⟩] [])
  .ret) .skip))
  (.seq (.seq (.reg [⟨some 18, .move (.tmp 0), none⟩,
    ⟨some 19, .nilCheck (.tmp 18), none⟩,
    ⟨some 20, .fieldAddr 82 (.tmp 19) 1, none⟩,
    ⟨some 21, .load 80 (.tmp 20), none⟩,
    ⟨some 22, .binOp .eql 80 (.tmp 21) (.const (.map none)) 80, none⟩] [])
  (.cond (.tmp 22) (.reg [⟨some 23, .move (.tmp 0), none⟩,
    ⟨some 24, .makeMap 80 none, none⟩,
    ⟨some 25, .nilCheck (.tmp 23), none⟩,
    ⟨some 26, .fieldAddr 82 (.tmp 25) 1, none⟩,
    ⟨none, .store 80 (.tmp 26) (.tmp 24), none⟩] []) .skip))
  (.seq (.seq (.reg [⟨some 28, .move (.tmp 0), none⟩,
    ⟨some 29, .nilCheck (.tmp 28), none⟩,
    ⟨some 30, .fieldAddr 82 (.tmp 29) 1, none⟩,
    ⟨some 31, .load 80 (.tmp 30), none⟩,
    ⟨some 32, .load 56 (.tmp 3), none⟩,
    ⟨some 33, .lookup 80 (.tmp 31) (.tmp 32) true, none⟩,
    ⟨some 27, .move (.tmp 33), none⟩,
    ⟨some 34, .extract (.tmp 27) 0, none⟩,
    ⟨some 35, .extract (.tmp 27) 1, none⟩,
    ⟨some 6, .assign (.tmp 34), none⟩,
    ⟨some 7, .assign (.tmp 35), none⟩] [])
  (.seq (.reg [⟨some 36, .move (.tmp 7), none⟩] [])
  (.cond (.tmp 36) (.seq (.reg [⟨some 37, .move (.tmp 6), none⟩,
    ⟨some 4, .assign (.tmp 37), none⟩,
    ⟨some 5, .assign (.const (.int .i64 0)), none⟩] [])
  .ret) .skip)))
  (.seq (.seq (.reg [⟨some 38, .move (.tmp 0), none⟩,
    ⟨some 39, .nilCheck (.tmp 38), none⟩,
    ⟨some 40, .fieldAddr 82 (.tmp 39) 0, none⟩,
    ⟨some 41, .load 22 (.tmp 40), none⟩,
    ⟨some 42, .call { callee := .builtin .len, args := #[.tmp 41], argTypes := #[22] }, none⟩,
    ⟨some 43, .binOp .geq 3 (.tmp 42) (.const (.int .i64 65536)) 3, none⟩] [])
  (.cond (.tmp 43) (.seq (.reg [⟨some 4, .assign (.const (.int .i64 0)), none⟩,
    ⟨some 5, .assign (.const (.int .i64 5)), none⟩] [])
  .ret) .skip))
  (.seq (.reg [⟨some 44, .move (.tmp 0), none⟩,
    ⟨some 45, .load 56 (.tmp 3), none⟩,
    ⟨some 46, .call { callee := .value (.func 40), args := #[.tmp 44, .tmp 45], argTypes := #[58, 56] }, none⟩,
    ⟨some 4, .assign (.tmp 46), none⟩,
    ⟨some 5, .assign (.const (.int .i64 0)), none⟩] [])
  .ret)))))))
theorem S23_eq : slimF Try.prog 23 = some (47, [.tmp 4, .tmp 5], S23) := by kernel_rfl

/-- tamis/tamisref11.May -/
def S24 : SC :=
  (.seq (.reg [⟨some 2, .box 56 (.tmp 0), none⟩,
    ⟨some 4, .assign (.const (.bool false)), none⟩] [])
  (.seq (.seq (.reg [⟨some 5, .fieldAddr 56 (.tmp 2) 0, none⟩,
    ⟨some 6, .load 3 (.tmp 5), none⟩,
    ⟨some 7, .binOp .eql 3 (.tmp 6) (.const (.int .i64 1)) 3, none⟩] [])
  (.cond (.tmp 7) (.seq (.reg [⟨some 8, .fieldAddr 56 (.tmp 2) 1, none⟩,
    ⟨some 9, .load 3 (.tmp 8), none⟩,
    ⟨some 10, .binOp .eql 3 (.tmp 9) (.const (.int .i64 0)) 3, none⟩,
    ⟨some 11, .move (.tmp 10), none⟩,
    ⟨some 12, .fieldAddr 56 (.tmp 2) 2, some (11, true)⟩,
    ⟨some 13, .load 3 (.tmp 12), some (11, true)⟩,
    ⟨some 14, .binOp .eql 3 (.tmp 13) (.const (.int .i64 0)) 3, some (11, true)⟩,
    ⟨some 15, .pick (.tmp 11) (.tmp 14) (.const (.bool false)), none⟩,
    ⟨some 4, .assign (.tmp 15), none⟩] [])
  .ret) .skip))
  (.seq (.seq (.reg [⟨some 16, .fieldAddr 56 (.tmp 2) 0, none⟩,
    ⟨some 17, .load 3 (.tmp 16), none⟩,
    ⟨some 18, .binOp .eql 3 (.tmp 17) (.const (.int .i64 2)) 3, none⟩] [])
  (.cond (.tmp 18) (.seq (.reg [⟨some 19, .fieldAddr 56 (.tmp 2) 1, none⟩,
    ⟨some 20, .load 3 (.tmp 19), none⟩,
    ⟨some 21, .binOp .eql 3 (.tmp 20) (.const (.int .i64 0)) 3, none⟩,
    ⟨some 22, .move (.tmp 21), none⟩,
    ⟨some 23, .fieldAddr 56 (.tmp 2) 2, some (22, true)⟩,
    ⟨some 24, .load 3 (.tmp 23), some (22, true)⟩,
    ⟨some 25, .binOp .eql 3 (.tmp 24) (.const (.int .i64 0)) 3, some (22, true)⟩,
    ⟨some 26, .pick (.tmp 22) (.tmp 25) (.const (.bool false)), none⟩,
    ⟨some 27, .move (.tmp 26), none⟩,
    ⟨some 28, .fieldAddr 56 (.tmp 2) 3, some (27, true)⟩,
    ⟨some 29, .load 23 (.tmp 28), some (27, true)⟩,
    ⟨some 30, .binOp .leq 23 (.tmp 29) (.const (.int .u32 15)) 23, some (27, true)⟩,
    ⟨some 31, .pick (.tmp 27) (.tmp 30) (.const (.bool false)), none⟩,
    ⟨some 4, .assign (.tmp 31), none⟩] [])
  .ret) .skip))
  (.seq (.seq (.reg [⟨some 32, .fieldAddr 56 (.tmp 2) 0, none⟩,
    ⟨some 33, .load 3 (.tmp 32), none⟩] [])
  (.block 0 (.seq (.seq (.reg [⟨some 35, .binOp .eql 3 (.tmp 33) (.const (.int .i64 256)) 3, none⟩,
    ⟨some 34, .assign (.tmp 35), none⟩] [])
  (.cond (.tmp 34) .skip (.seq (.reg [⟨some 36, .binOp .eql 3 (.tmp 33) (.const (.int .i64 272)) 3, none⟩,
    ⟨some 34, .assign (.tmp 36), none⟩] [])
  (.cond (.tmp 34) .skip (.seq (.reg [⟨some 37, .binOp .eql 3 (.tmp 33) (.const (.int .i64 288)) 3, none⟩,
    ⟨some 34, .assign (.tmp 37), none⟩] [])
  (.cond (.tmp 34) .skip (.seq (.reg [⟨some 38, .binOp .eql 3 (.tmp 33) (.const (.int .i64 304)) 3, none⟩,
    ⟨some 34, .assign (.tmp 38), none⟩] [])
  (.cond (.tmp 34) .skip (.seq (.reg [⟨some 39, .binOp .eql 3 (.tmp 33) (.const (.int .i64 320)) 3, none⟩,
    ⟨some 34, .assign (.tmp 39), none⟩] [])
  (.cond (.tmp 34) .skip (.seq (.reg [⟨some 40, .binOp .eql 3 (.tmp 33) (.const (.int .i64 336)) 3, none⟩,
    ⟨some 34, .assign (.tmp 40), none⟩] [])
  (.cond (.tmp 34) .skip (.seq (.reg [⟨some 41, .binOp .eql 3 (.tmp 33) (.const (.int .i64 352)) 3, none⟩,
    ⟨some 34, .assign (.tmp 41), none⟩] [])
  (.cond (.tmp 34) .skip (.seq (.reg [⟨some 42, .binOp .eql 3 (.tmp 33) (.const (.int .i64 368)) 3, none⟩,
    ⟨some 34, .assign (.tmp 42), none⟩] [])
  (.cond (.tmp 34) .skip (.seq (.reg [⟨some 43, .binOp .eql 3 (.tmp 33) (.const (.int .i64 384)) 3, none⟩,
    ⟨some 34, .assign (.tmp 43), none⟩] [])
  (.cond (.tmp 34) .skip (.reg [⟨some 44, .binOp .eql 3 (.tmp 33) (.const (.int .i64 416)) 3, none⟩,
    ⟨some 34, .assign (.tmp 44), none⟩] [])))))))))))))))))))
  (.cond (.tmp 34) .skip (.seq (.reg [⟨some 4, .assign (.const (.bool false)), none⟩] [])
  .ret)))))
  (.seq (.seq (.reg [⟨some 45, .fieldAddr 56 (.tmp 2) 3, none⟩,
    ⟨some 46, .load 23 (.tmp 45), none⟩,
    ⟨some 47, .binOp .neq 23 (.tmp 46) (.const (.int .u32 0)) 23, none⟩,
    ⟨some 48, .move (.tmp 47), none⟩,
    ⟨some 49, .fieldAddr 56 (.tmp 2) 1, some (48, false)⟩,
    ⟨some 50, .load 3 (.tmp 49), some (48, false)⟩,
    ⟨some 51, .binOp .lss 3 (.tmp 50) (.const (.int .i64 0)) 3, some (48, false)⟩,
    ⟨some 52, .pick (.tmp 48) (.const (.bool true)) (.tmp 51), none⟩,
    ⟨some 53, .move (.tmp 52), none⟩,
    ⟨some 54, .fieldAddr 56 (.tmp 2) 1, some (53, false)⟩,
    ⟨some 55, .load 3 (.tmp 54), some (53, false)⟩,
    ⟨some 56, .move (.tmp 1), some (53, false)⟩,
    ⟨some 57, .binOp .geq 3 (.tmp 55) (.tmp 56) 3, some (53, false)⟩,
    ⟨some 58, .pick (.tmp 53) (.const (.bool true)) (.tmp 57), none⟩] [])
  (.cond (.tmp 58) (.seq (.reg [⟨some 4, .assign (.const (.bool false)), none⟩] [])
  .ret) .skip))
  (.seq (.seq (.reg [⟨some 59, .fieldAddr 56 (.tmp 2) 0, none⟩,
    ⟨some 60, .load 3 (.tmp 59), none⟩,
    ⟨some 61, .binOp .eql 3 (.tmp 60) (.const (.int .i64 384)) 3, none⟩] [])
  (.cond (.tmp 61) (.seq (.reg [⟨some 62, .fieldAddr 56 (.tmp 2) 2, none⟩,
    ⟨some 63, .load 3 (.tmp 62), none⟩,
    ⟨some 64, .binOp .eql 3 (.tmp 63) (.const (.int .i64 0)) 3, none⟩,
    ⟨some 4, .assign (.tmp 64), none⟩] [])
  .ret) .skip))
  (.seq (.reg [⟨some 65, .fieldAddr 56 (.tmp 2) 2, none⟩,
    ⟨some 66, .load 3 (.tmp 65), none⟩,
    ⟨some 67, .binOp .geq 3 (.tmp 66) (.const (.int .i64 0)) 3, none⟩,
    ⟨some 68, .move (.tmp 67), none⟩,
    ⟨some 69, .fieldAddr 56 (.tmp 2) 2, some (68, true)⟩,
    ⟨some 70, .load 3 (.tmp 69), some (68, true)⟩,
    ⟨some 71, .move (.tmp 1), some (68, true)⟩,
    ⟨some 72, .binOp .lss 3 (.tmp 70) (.tmp 71) 3, some (68, true)⟩,
    ⟨some 73, .pick (.tmp 68) (.tmp 72) (.const (.bool false)), none⟩,
    ⟨some 4, .assign (.tmp 73), none⟩] [])
  .ret)))))))
theorem S24_eq : slimF Try.prog 24 = some (74, [.tmp 4], S24) := by kernel_rfl

def S25L1 : SC :=
  (.seq (.seq (.reg [⟨some 7, .move (.tmp 6), none⟩,
    ⟨some 8, .move (.tmp 0), none⟩,
    ⟨some 9, .call { callee := .builtin .len, args := #[.tmp 8], argTypes := #[22] }, none⟩,
    ⟨some 10, .binOp .lss 3 (.tmp 7) (.tmp 9) 3, none⟩] [])
  (.cond (.tmp 10) .skip (.exit 0)))
  (.seq (.block 1 (.seq (.reg [⟨some 13, .move (.tmp 0), none⟩,
    ⟨some 14, .move (.tmp 6), none⟩,
    ⟨some 15, .indexAddr 22 (.tmp 13) (.tmp 14), none⟩,
    ⟨some 16, .load 56 (.tmp 15), none⟩,
    ⟨some 17, .load 56 (.tmp 3), none⟩,
    ⟨some 18, .binOp .eql 56 (.tmp 16) (.tmp 17) 56, none⟩] [])
  (.cond (.tmp 18) (.seq (.reg [⟨some 19, .move (.tmp 0), none⟩,
    ⟨some 20, .move (.tmp 6), none⟩,
    ⟨some 4, .assign (.tmp 19), none⟩,
    ⟨some 5, .assign (.tmp 20), none⟩] [])
  .ret) .skip)))
  (.reg [⟨some 11, .move (.tmp 6), none⟩,
    ⟨some 12, .binOp .add 3 (.tmp 11) (.const (.int .i64 1)) 3, none⟩,
    ⟨some 6, .assign (.tmp 12), none⟩] [])))
/-- tamis/tamisref11.Put -/
def S25 : SC :=
  (.seq (.reg [⟨some 3, .box 56 (.tmp 1), none⟩,
    ⟨some 4, .assign (.const (.slice none 0 0)), none⟩,
    ⟨some 5, .assign (.const (.int .i64 0)), none⟩] [])
  (.seq (.seq (.reg [⟨some 6, .assign (.const (.int .i64 0)), none⟩] [])
  (.block 0 (.loop S25L1)))
  (.seq (.reg [⟨some 21, .move (.tmp 0), none⟩,
    ⟨some 22, .load 56 (.tmp 3), none⟩,
    ⟨some 23, .buildSlice 22 1 #[(0, .tmp 22)], none⟩,
    ⟨some 24, .call { callee := .builtin .append, args := #[.tmp 21, .tmp 23], argTypes := #[22, 22] }, none⟩,
    ⟨some 25, .move (.tmp 0), none⟩,
    ⟨some 26, .call { callee := .builtin .len, args := #[.tmp 25], argTypes := #[22] }, none⟩,
    ⟨some 4, .assign (.tmp 24), none⟩,
    ⟨some 5, .assign (.tmp 26), none⟩] [])
  .ret)))
theorem S25_eq : slimF Try.prog 25 = some (27, [.tmp 4, .tmp 5], S25) := by kernel_rfl

/-- (*tamis/term.Pool).At -/
def S26 : SC :=
  (.seq (.reg [⟨some 4, .alloc 56, none⟩,
    ⟨some 5, .assign (.const (.bool false)), none⟩] [])
  (.seq (.seq (.reg [⟨some 6, .move (.tmp 0), none⟩,
    ⟨some 7, .binOp .eql 58 (.tmp 6) (.const (.pointer none)) 58, none⟩,
    ⟨some 8, .move (.tmp 7), none⟩,
    ⟨some 9, .move (.tmp 1), some (8, false)⟩,
    ⟨some 10, .binOp .lss 3 (.tmp 9) (.const (.int .i64 0)) 3, some (8, false)⟩,
    ⟨some 11, .pick (.tmp 8) (.const (.bool true)) (.tmp 10), none⟩,
    ⟨some 12, .move (.tmp 11), none⟩,
    ⟨some 13, .move (.tmp 1), some (12, false)⟩,
    ⟨some 14, .move (.tmp 0), some (12, false)⟩,
    ⟨some 15, .nilCheck (.tmp 14), some (12, false)⟩,
    ⟨some 16, .fieldAddr 82 (.tmp 15) 0, some (12, false)⟩,
    ⟨some 17, .load 22 (.tmp 16), some (12, false)⟩,
    ⟨some 18, .call { callee := .builtin .len, args := #[.tmp 17], argTypes := #[22] }, some (12, false)⟩,
    ⟨some 19, .binOp .geq 3 (.tmp 13) (.tmp 18) 3, some (12, false)⟩,
    ⟨some 20, .pick (.tmp 12) (.const (.bool true)) (.tmp 19), none⟩] [])
  (.cond (.tmp 20) (.seq (.reg [⟨some 21, .build 56 #[], none⟩,
    ⟨none, .store 56 (.tmp 4) (.tmp 21), none⟩,
    ⟨some 5, .assign (.const (.bool false)), none⟩] [])
  .ret) .skip))
  (.seq (.reg [⟨some 22, .move (.tmp 0), none⟩,
    ⟨some 23, .nilCheck (.tmp 22), none⟩,
    ⟨some 24, .fieldAddr 82 (.tmp 23) 0, none⟩,
    ⟨some 25, .load 22 (.tmp 24), none⟩,
    ⟨some 26, .move (.tmp 1), none⟩,
    ⟨some 27, .indexAddr 22 (.tmp 25) (.tmp 26), none⟩,
    ⟨some 28, .load 56 (.tmp 27), none⟩,
    ⟨none, .store 56 (.tmp 4) (.tmp 28), none⟩,
    ⟨some 5, .assign (.const (.bool true)), none⟩] [])
  .ret)))
theorem S26_eq : slimF Try.prog 26 = some (29, [.cell 4 56, .tmp 5], S26) := by kernel_rfl

def S27L1 : SC :=
  (.seq (.seq (.reg [⟨some 11, .move (.tmp 5), none⟩,
    ⟨some 12, .move (.tmp 0), none⟩,
    ⟨some 13, .call { callee := .builtin .len, args := #[.tmp 12], argTypes := #[22] }, none⟩,
    ⟨some 14, .binOp .lss 3 (.tmp 11) (.tmp 13) 3, none⟩] [])
  (.cond (.tmp 14) .skip (.exit 0)))
  (.seq (.block 1 (.seq (.reg [⟨some 17, .move (.tmp 0), none⟩,
    ⟨some 18, .move (.tmp 5), none⟩,
    ⟨some 19, .indexAddr 22 (.tmp 17) (.tmp 18), none⟩,
    ⟨some 20, .load 56 (.tmp 19), none⟩,
    ⟨some 21, .move (.tmp 1), none⟩,
    ⟨some 22, .move (.tmp 5), none⟩,
    ⟨some 23, .indexAddr 22 (.tmp 21) (.tmp 22), none⟩,
    ⟨some 24, .load 56 (.tmp 23), none⟩,
    ⟨some 25, .binOp .neq 56 (.tmp 20) (.tmp 24) 56, none⟩] [])
  (.cond (.tmp 25) (.seq (.reg [⟨some 4, .assign (.const (.bool false)), none⟩] [])
  .ret) .skip)))
  (.reg [⟨some 15, .move (.tmp 5), none⟩,
    ⟨some 16, .binOp .add 3 (.tmp 15) (.const (.int .i64 1)) 3, none⟩,
    ⟨some 5, .assign (.tmp 16), none⟩] [])))
/-- tamis/tamisref11.Same -/
def S27 : SC :=
  (.seq (.reg [⟨some 4, .assign (.const (.bool false)), none⟩] [])
  (.seq (.seq (.reg [⟨some 6, .move (.tmp 0), none⟩,
    ⟨some 7, .call { callee := .builtin .len, args := #[.tmp 6], argTypes := #[22] }, none⟩,
    ⟨some 8, .move (.tmp 1), none⟩,
    ⟨some 9, .call { callee := .builtin .len, args := #[.tmp 8], argTypes := #[22] }, none⟩,
    ⟨some 10, .binOp .neq 3 (.tmp 7) (.tmp 9) 3, none⟩] [])
  (.cond (.tmp 10) (.seq (.reg [⟨some 4, .assign (.const (.bool false)), none⟩] [])
  .ret) .skip))
  (.seq (.seq (.reg [⟨some 5, .assign (.const (.int .i64 0)), none⟩] [])
  (.block 0 (.loop S27L1)))
  (.seq (.reg [⟨some 4, .assign (.const (.bool true)), none⟩] [])
  .ret))))
theorem S27_eq : slimF Try.prog 27 = some (26, [.tmp 4], S27) := by kernel_rfl

/-- (*tamis/term.Pool).Nodes -/
def S28 : SC :=
  (.seq (.reg [⟨some 2, .assign (.const (.slice none 0 0)), none⟩] [])
  (.seq (.seq (.reg [⟨some 3, .move (.tmp 0), none⟩,
    ⟨some 4, .binOp .eql 58 (.tmp 3) (.const (.pointer none)) 58, none⟩] [])
  (.cond (.tmp 4) (.seq (.reg [⟨some 2, .assign (.const (.slice none 0 0)), none⟩] [])
  .ret) .skip))
  (.seq (.reg [⟨some 5, .move (.tmp 0), none⟩,
    ⟨some 6, .nilCheck (.tmp 5), none⟩,
    ⟨some 7, .fieldAddr 82 (.tmp 6) 0, none⟩,
    ⟨some 8, .load 22 (.tmp 7), none⟩,
    ⟨some 9, .call { callee := .value (.func 41), args := #[.tmp 8], argTypes := #[22] }, none⟩,
    ⟨some 2, .assign (.tmp 9), none⟩] [])
  .ret)))
theorem S28_eq : slimF Try.prog 28 = some (10, [.tmp 2], S28) := by kernel_rfl

def S29L1 : SC :=
  (.seq (.seq (.reg [⟨some 12, .move (.tmp 7), none⟩,
    ⟨some 13, .move (.tmp 1), none⟩,
    ⟨some 14, .call { callee := .builtin .len, args := #[.tmp 13], argTypes := #[22] }, none⟩,
    ⟨some 15, .binOp .lss 3 (.tmp 12) (.tmp 14) 3, none⟩] [])
  (.cond (.tmp 15) .skip (.exit 0)))
  (.seq (.block 1 (.seq (.reg [⟨some 18, .move (.tmp 1), none⟩,
    ⟨some 19, .move (.tmp 7), none⟩,
    ⟨some 20, .indexAddr 22 (.tmp 18) (.tmp 19), none⟩,
    ⟨some 21, .load 56 (.tmp 20), none⟩,
    ⟨some 8, .alloc 56, none⟩,
    ⟨none, .store 56 (.tmp 8) (.tmp 21), none⟩] [])
  (.seq (.seq (.reg [⟨some 22, .fieldAddr 56 (.tmp 8) 0, none⟩,
    ⟨some 23, .load 3 (.tmp 22), none⟩,
    ⟨some 24, .binOp .gtr 3 (.tmp 23) (.const (.int .i64 2)) 3, none⟩] [])
  (.cond (.tmp 24) (.seq (.reg [⟨some 25, .move (.tmp 6), none⟩,
    ⟨some 26, .fieldAddr 56 (.tmp 8) 1, none⟩,
    ⟨some 27, .load 3 (.tmp 26), none⟩,
    ⟨some 28, .indexAddr 52 (.tmp 25) (.tmp 27), none⟩,
    ⟨some 29, .load 3 (.tmp 28), none⟩,
    ⟨some 30, .fieldAddr 56 (.tmp 8) 1, none⟩,
    ⟨none, .store 3 (.tmp 30) (.tmp 29), none⟩] [])
  (.seq (.reg [⟨some 31, .fieldAddr 56 (.tmp 8) 0, none⟩,
    ⟨some 32, .load 3 (.tmp 31), none⟩,
    ⟨some 33, .binOp .neq 3 (.tmp 32) (.const (.int .i64 384)) 3, none⟩] [])
  (.cond (.tmp 33) (.reg [⟨some 34, .move (.tmp 6), none⟩,
    ⟨some 35, .fieldAddr 56 (.tmp 8) 2, none⟩,
    ⟨some 36, .load 3 (.tmp 35), none⟩,
    ⟨some 37, .indexAddr 52 (.tmp 34) (.tmp 36), none⟩,
    ⟨some 38, .load 3 (.tmp 37), none⟩,
    ⟨some 39, .fieldAddr 56 (.tmp 8) 2, none⟩,
    ⟨none, .store 3 (.tmp 39) (.tmp 38), none⟩] []) .skip))) .skip))
  (.reg [⟨some 41, .move (.tmp 6), none⟩,
    ⟨some 42, .move (.tmp 7), none⟩,
    ⟨some 43, .move (.tmp 0), none⟩,
    ⟨some 44, .load 56 (.tmp 8), none⟩,
    ⟨some 45, .call { callee := .value (.func 25), args := #[.tmp 43, .tmp 44], argTypes := #[22, 56] }, none⟩,
    ⟨some 40, .move (.tmp 45), none⟩,
    ⟨some 46, .extract (.tmp 40) 0, none⟩,
    ⟨some 47, .extract (.tmp 40) 1, none⟩,
    ⟨some 0, .assign (.tmp 46), none⟩,
    ⟨some 48, .indexAddr 52 (.tmp 41) (.tmp 42), none⟩,
    ⟨none, .store 3 (.tmp 48) (.tmp 47), none⟩] []))))
  (.reg [⟨some 16, .move (.tmp 7), none⟩,
    ⟨some 17, .binOp .add 3 (.tmp 16) (.const (.int .i64 1)) 3, none⟩,
    ⟨some 7, .assign (.tmp 17), none⟩] [])))
/-- tamis/tamisref11.Into -/
def S29 : SC :=
  (.seq (.reg [⟨some 4, .assign (.const (.slice none 0 0)), none⟩,
    ⟨some 5, .assign (.const (.slice none 0 0)), none⟩] [])
  (.seq (.reg [⟨some 9, .move (.tmp 1), none⟩,
    ⟨some 10, .call { callee := .builtin .len, args := #[.tmp 9], argTypes := #[22] }, none⟩,
    ⟨some 11, .makeSlice 52 (.tmp 10) (.tmp 10), none⟩,
    ⟨some 6, .assign (.tmp 11), none⟩] [])
  (.seq (.seq (.reg [⟨some 7, .assign (.const (.int .i64 0)), none⟩] [])
  (.block 0 (.loop S29L1)))
  (.seq (.reg [⟨some 49, .move (.tmp 0), none⟩,
    ⟨some 50, .move (.tmp 6), none⟩,
    ⟨some 4, .assign (.tmp 49), none⟩,
    ⟨some 5, .assign (.tmp 50), none⟩] [])
  .ret))))
theorem S29_eq : slimF Try.prog 29 = some (51, [.tmp 4, .tmp 5], S29) := by kernel_rfl

def S30L1 : SC :=
  (.seq (.reg [⟨some 28, .binOp .lss 3 (.tmp 27) (.tmp 26) 3, none⟩] [])
  (.seq (.cond (.tmp 28) .skip (.exit 0))
  (.seq (.block 1 (.seq (.reg [⟨some 29, .move (.tmp 27), none⟩,
    ⟨some 30, .indexAddr 22 (.tmp 25) (.tmp 27), none⟩,
    ⟨some 31, .load 56 (.tmp 30), none⟩,
    ⟨some 12, .alloc 56, none⟩,
    ⟨some 11, .assign (.tmp 29), none⟩,
    ⟨none, .store 56 (.tmp 12) (.tmp 31), none⟩] [])
  (.reg [⟨some 32, .move (.tmp 10), none⟩,
    ⟨some 33, .move (.tmp 11), none⟩,
    ⟨some 34, .move (.tmp 9), none⟩,
    ⟨some 35, .load 56 (.tmp 12), none⟩,
    ⟨some 36, .move (.tmp 10), none⟩,
    ⟨some 37, .call { callee := .value (.func 39), args := #[.tmp 35, .tmp 36], argTypes := #[56, 52] }, none⟩,
    ⟨some 38, .call { callee := .value (.func 40), args := #[.tmp 34, .tmp 37], argTypes := #[58, 56] }, none⟩,
    ⟨some 39, .indexAddr 52 (.tmp 32) (.tmp 33), none⟩,
    ⟨none, .store 3 (.tmp 39) (.tmp 38), none⟩] [])))
  (.reg [⟨some 40, .binOp .add 3 (.tmp 27) (.const (.int .i64 1)) 3, none⟩,
    ⟨some 27, .move (.tmp 40), none⟩] []))))
/-- tamis/term.Alike -/
def S30 : SC :=
  (.seq (.reg [⟨some 6, .assign (.const (.bool false)), none⟩,
    ⟨some 7, .assign (.const (.int .i64 0)), none⟩] [])
  (.seq (.seq (.reg [⟨some 13, .move (.tmp 0), none⟩,
    ⟨some 14, .move (.tmp 1), none⟩,
    ⟨some 15, .move (.tmp 2), none⟩,
    ⟨some 16, .buildSlice 52 2 #[(0, .tmp 14), (1, .tmp 15)], none⟩,
    ⟨some 17, .call { callee := .value (.func 33), args := #[.tmp 13, .tmp 16], argTypes := #[22, 52] }, none⟩,
    ⟨some 8, .assign (.tmp 17), none⟩] [])
  (.seq (.reg [⟨some 18, .move (.tmp 8), none⟩,
    ⟨some 19, .binOp .neq 27 (.tmp 18) (.const (.int .i64 0)) 27, none⟩] [])
  (.cond (.tmp 19) (.seq (.reg [⟨some 20, .move (.tmp 8), none⟩,
    ⟨some 6, .assign (.const (.bool false)), none⟩,
    ⟨some 7, .assign (.tmp 20), none⟩] [])
  .ret) .skip)))
  (.seq (.reg [⟨some 21, .call { callee := .value (.func 22), args := #[], argTypes := #[] }, none⟩,
    ⟨some 9, .assign (.tmp 21), none⟩] [])
  (.seq (.reg [⟨some 22, .move (.tmp 0), none⟩,
    ⟨some 23, .call { callee := .builtin .len, args := #[.tmp 22], argTypes := #[22] }, none⟩,
    ⟨some 24, .makeSlice 52 (.tmp 23) (.tmp 23), none⟩,
    ⟨some 10, .assign (.tmp 24), none⟩] [])
  (.seq (.seq (.reg [⟨some 25, .move (.tmp 0), none⟩,
    ⟨some 26, .call { callee := .builtin .len, args := #[.tmp 25], argTypes := #[22] }, none⟩,
    ⟨some 27, .move (.const (.int .i64 0)), none⟩] [])
  (.block 0 (.loop S30L1)))
  (.seq (.reg [⟨some 41, .move (.tmp 10), none⟩,
    ⟨some 42, .move (.tmp 1), none⟩,
    ⟨some 43, .indexAddr 52 (.tmp 41) (.tmp 42), none⟩,
    ⟨some 44, .load 3 (.tmp 43), none⟩,
    ⟨some 45, .move (.tmp 10), none⟩,
    ⟨some 46, .move (.tmp 2), none⟩,
    ⟨some 47, .indexAddr 52 (.tmp 45) (.tmp 46), none⟩,
    ⟨some 48, .load 3 (.tmp 47), none⟩,
    ⟨some 49, .binOp .eql 3 (.tmp 44) (.tmp 48) 3, none⟩,
    ⟨some 6, .assign (.tmp 49), none⟩,
    ⟨some 7, .assign (.const (.int .i64 0)), none⟩] [])
  .ret))))))
theorem S30_eq : slimF Try.prog 30 = some (50, [.tmp 6, .tmp 7], S30) := by kernel_rfl

/-- tamis/tamislaw11.row -/
def S31 : SC :=
  (.seq (.reg [⟨some 0, .assign (.const (.slice none 0 0)), none⟩] [])
  (.seq (.reg [⟨some 1, .build 56 #[(0, .const (.int .i64 2)), (3, .const (.int .u32 4))], none⟩,
    ⟨some 2, .build 56 #[(0, .const (.int .i64 1)), (3, .const (.int .u32 1))], none⟩,
    ⟨some 3, .build 56 #[(0, .const (.int .i64 256)), (1, .const (.int .i64 0)), (2, .const (.int .i64 1))], none⟩,
    ⟨some 4, .build 56 #[(0, .const (.int .i64 384)), (1, .const (.int .i64 2))], none⟩,
    ⟨some 5, .buildSlice 22 4 #[(0, .tmp 1), (1, .tmp 2), (2, .tmp 3), (3, .tmp 4)], none⟩,
    ⟨some 0, .assign (.tmp 5), none⟩] [])
  .ret))
theorem S31_eq : slimF Try.prog 31 = some (6, [.tmp 0], S31) := by kernel_rfl

/-- tamis/term.may -/
def S32 : SC :=
  (.seq (.reg [⟨some 2, .box 56 (.tmp 0), none⟩,
    ⟨some 4, .assign (.const (.bool false)), none⟩] [])
  (.seq (.block 0 (.seq (.reg [⟨some 6, .fieldAddr 56 (.tmp 2) 0, none⟩,
    ⟨some 7, .load 3 (.tmp 6), none⟩,
    ⟨some 8, .binOp .eql 3 (.tmp 7) (.const (.int .i64 1)) 3, none⟩,
    ⟨some 5, .assign (.tmp 8), none⟩] [])
  (.cond (.tmp 5) (.seq (.reg [⟨some 9, .fieldAddr 56 (.tmp 2) 1, none⟩,
    ⟨some 10, .load 3 (.tmp 9), none⟩,
    ⟨some 11, .binOp .eql 3 (.tmp 10) (.const (.int .i64 0)) 3, none⟩,
    ⟨some 12, .move (.tmp 11), none⟩,
    ⟨some 13, .fieldAddr 56 (.tmp 2) 2, some (12, true)⟩,
    ⟨some 14, .load 3 (.tmp 13), some (12, true)⟩,
    ⟨some 15, .binOp .eql 3 (.tmp 14) (.const (.int .i64 0)) 3, some (12, true)⟩,
    ⟨some 16, .pick (.tmp 12) (.tmp 15) (.const (.bool false)), none⟩,
    ⟨some 4, .assign (.tmp 16), none⟩] [])
  .ret) (.seq (.reg [⟨some 18, .fieldAddr 56 (.tmp 2) 0, none⟩,
    ⟨some 19, .load 3 (.tmp 18), none⟩,
    ⟨some 20, .binOp .eql 3 (.tmp 19) (.const (.int .i64 2)) 3, none⟩,
    ⟨some 17, .assign (.tmp 20), none⟩] [])
  (.cond (.tmp 17) (.seq (.reg [⟨some 21, .fieldAddr 56 (.tmp 2) 1, none⟩,
    ⟨some 22, .load 3 (.tmp 21), none⟩,
    ⟨some 23, .binOp .eql 3 (.tmp 22) (.const (.int .i64 0)) 3, none⟩,
    ⟨some 24, .move (.tmp 23), none⟩,
    ⟨some 25, .fieldAddr 56 (.tmp 2) 2, some (24, true)⟩,
    ⟨some 26, .load 3 (.tmp 25), some (24, true)⟩,
    ⟨some 27, .binOp .eql 3 (.tmp 26) (.const (.int .i64 0)) 3, some (24, true)⟩,
    ⟨some 28, .pick (.tmp 24) (.tmp 27) (.const (.bool false)), none⟩,
    ⟨some 29, .move (.tmp 28), none⟩,
    ⟨some 30, .fieldAddr 56 (.tmp 2) 3, some (29, true)⟩,
    ⟨some 31, .load 23 (.tmp 30), some (29, true)⟩,
    ⟨some 32, .binOp .lss 23 (.tmp 31) (.const (.int .u32 16)) 23, some (29, true)⟩,
    ⟨some 33, .pick (.tmp 29) (.tmp 32) (.const (.bool false)), none⟩,
    ⟨some 4, .assign (.tmp 33), none⟩] [])
  .ret) (.seq (.reg [⟨some 35, .fieldAddr 56 (.tmp 2) 0, none⟩,
    ⟨some 36, .load 3 (.tmp 35), none⟩,
    ⟨some 37, .call { callee := .value (.func 42), args := #[.tmp 36], argTypes := #[3] }, none⟩,
    ⟨some 38, .unOp .not 4 (.tmp 37), none⟩,
    ⟨some 39, .move (.tmp 38), none⟩,
    ⟨some 40, .fieldAddr 56 (.tmp 2) 3, some (39, false)⟩,
    ⟨some 41, .load 23 (.tmp 40), some (39, false)⟩,
    ⟨some 42, .binOp .neq 23 (.tmp 41) (.const (.int .u32 0)) 23, some (39, false)⟩,
    ⟨some 43, .pick (.tmp 39) (.const (.bool true)) (.tmp 42), none⟩,
    ⟨some 44, .move (.tmp 43), none⟩,
    ⟨some 45, .fieldAddr 56 (.tmp 2) 1, some (44, false)⟩,
    ⟨some 46, .load 3 (.tmp 45), some (44, false)⟩,
    ⟨some 47, .binOp .lss 3 (.tmp 46) (.const (.int .i64 0)) 3, some (44, false)⟩,
    ⟨some 48, .pick (.tmp 44) (.const (.bool true)) (.tmp 47), none⟩,
    ⟨some 49, .move (.tmp 48), none⟩,
    ⟨some 50, .fieldAddr 56 (.tmp 2) 1, some (49, false)⟩,
    ⟨some 51, .load 3 (.tmp 50), some (49, false)⟩,
    ⟨some 52, .move (.tmp 1), some (49, false)⟩,
    ⟨some 53, .binOp .geq 3 (.tmp 51) (.tmp 52) 3, some (49, false)⟩,
    ⟨some 54, .pick (.tmp 49) (.const (.bool true)) (.tmp 53), none⟩,
    ⟨some 34, .assign (.tmp 54), none⟩] [])
  (.cond (.tmp 34) (.seq (.reg [⟨some 4, .assign (.const (.bool false)), none⟩] [])
  .ret) (.seq (.reg [⟨some 56, .fieldAddr 56 (.tmp 2) 0, none⟩,
    ⟨some 57, .load 3 (.tmp 56), none⟩,
    ⟨some 58, .binOp .eql 3 (.tmp 57) (.const (.int .i64 384)) 3, none⟩,
    ⟨some 55, .assign (.tmp 58), none⟩] [])
  (.cond (.tmp 55) (.seq (.reg [⟨some 59, .fieldAddr 56 (.tmp 2) 2, none⟩,
    ⟨some 60, .load 3 (.tmp 59), none⟩,
    ⟨some 61, .binOp .eql 3 (.tmp 60) (.const (.int .i64 0)) 3, none⟩,
    ⟨some 4, .assign (.tmp 61), none⟩] [])
  .ret) .skip)))))))))
  (.seq (.reg [⟨some 62, .fieldAddr 56 (.tmp 2) 2, none⟩,
    ⟨some 63, .load 3 (.tmp 62), none⟩,
    ⟨some 64, .binOp .geq 3 (.tmp 63) (.const (.int .i64 0)) 3, none⟩,
    ⟨some 65, .move (.tmp 64), none⟩,
    ⟨some 66, .fieldAddr 56 (.tmp 2) 2, some (65, true)⟩,
    ⟨some 67, .load 3 (.tmp 66), some (65, true)⟩,
    ⟨some 68, .move (.tmp 1), some (65, true)⟩,
    ⟨some 69, .binOp .lss 3 (.tmp 67) (.tmp 68) 3, some (65, true)⟩,
    ⟨some 70, .pick (.tmp 65) (.tmp 69) (.const (.bool false)), none⟩,
    ⟨some 4, .assign (.tmp 70), none⟩] [])
  .ret)))
theorem S32_eq : slimF Try.prog 32 = some (71, [.tmp 4], S32) := by kernel_rfl

def S33L1 : SC :=
  (.seq (.reg [⟨some 19, .binOp .lss 3 (.tmp 18) (.tmp 17) 3, none⟩] [])
  (.seq (.cond (.tmp 19) .skip (.exit 0))
  (.seq (.block 1 (.seq (.reg [⟨some 20, .indexAddr 52 (.tmp 16) (.tmp 18), none⟩,
    ⟨some 21, .load 3 (.tmp 20), none⟩,
    ⟨some 8, .assign (.tmp 21), none⟩] [])
  (.seq (.reg [⟨some 22, .move (.tmp 8), none⟩,
    ⟨some 23, .binOp .lss 3 (.tmp 22) (.const (.int .i64 0)) 3, none⟩,
    ⟨some 24, .move (.tmp 23), none⟩,
    ⟨some 25, .move (.tmp 8), some (24, false)⟩,
    ⟨some 26, .move (.tmp 0), some (24, false)⟩,
    ⟨some 27, .call { callee := .builtin .len, args := #[.tmp 26], argTypes := #[22] }, some (24, false)⟩,
    ⟨some 28, .binOp .geq 3 (.tmp 25) (.tmp 27) 3, some (24, false)⟩,
    ⟨some 29, .pick (.tmp 24) (.const (.bool true)) (.tmp 28), none⟩] [])
  (.cond (.tmp 29) (.seq (.reg [⟨some 4, .assign (.const (.int .i64 2)), none⟩] [])
  .ret) .skip))))
  (.reg [⟨some 30, .binOp .add 3 (.tmp 18) (.const (.int .i64 1)) 3, none⟩,
    ⟨some 18, .move (.tmp 30), none⟩] []))))
/-- tamis/term.asked -/
def S33 : SC :=
  (.seq (.reg [⟨some 4, .assign (.const (.int .i64 0)), none⟩] [])
  (.seq (.seq (.reg [⟨some 10, .move (.tmp 0), none⟩,
    ⟨some 11, .call { callee := .value (.func 10), args := #[.tmp 10], argTypes := #[22] }, none⟩,
    ⟨some 9, .move (.tmp 11), none⟩,
    ⟨some 12, .extract (.tmp 9) 0, none⟩,
    ⟨some 13, .extract (.tmp 9) 1, none⟩,
    ⟨some 5, .assign (.tmp 12), none⟩,
    ⟨some 6, .assign (.tmp 13), none⟩] [])
  (.seq (.reg [⟨some 14, .move (.tmp 6), none⟩,
    ⟨some 15, .binOp .neq 27 (.tmp 14) (.const (.int .i64 0)) 27, none⟩] [])
  (.cond (.tmp 15) (.seq (.reg [⟨some 4, .assign (.const (.int .i64 3)), none⟩] [])
  .ret) .skip)))
  (.seq (.seq (.reg [⟨some 16, .move (.tmp 1), none⟩,
    ⟨some 17, .call { callee := .builtin .len, args := #[.tmp 16], argTypes := #[52] }, none⟩,
    ⟨some 18, .move (.const (.int .i64 0)), none⟩] [])
  (.block 0 (.loop S33L1)))
  (.seq (.reg [⟨some 4, .assign (.const (.int .i64 0)), none⟩] [])
  .ret))))
theorem S33_eq : slimF Try.prog 33 = some (31, [.tmp 4], S33) := by kernel_rfl

/-- tamis/term.value -/
def S34 : SC :=
  (.seq (.reg [⟨some 3, .box 56 (.tmp 0), none⟩,
    ⟨some 6, .assign (.const (.int .u32 0)), none⟩] [])
  (.seq (.seq (.reg [⟨some 9, .fieldAddr 56 (.tmp 3) 0, none⟩,
    ⟨some 10, .load 3 (.tmp 9), none⟩] [])
  (.block 0 (.seq (.reg [⟨some 12, .binOp .eql 3 (.tmp 10) (.const (.int .i64 1)) 3, none⟩,
    ⟨some 11, .assign (.tmp 12), none⟩] [])
  (.cond (.tmp 11) (.seq (.reg [⟨some 13, .fieldAddr 56 (.tmp 3) 3, none⟩,
    ⟨some 14, .load 23 (.tmp 13), none⟩,
    ⟨some 6, .assign (.tmp 14), none⟩] [])
  .ret) (.seq (.reg [⟨some 16, .binOp .eql 3 (.tmp 10) (.const (.int .i64 2)) 3, none⟩,
    ⟨some 15, .assign (.tmp 16), none⟩] [])
  (.cond (.tmp 15) (.seq (.reg [⟨some 17, .move (.tmp 2), none⟩,
    ⟨some 18, .fieldAddr 56 (.tmp 3) 3, none⟩,
    ⟨some 19, .load 23 (.tmp 18), none⟩,
    ⟨some 20, .nilCheck (.tmp 17), none⟩,
    ⟨some 21, .indexAddr 25 (.tmp 20) (.tmp 19), none⟩,
    ⟨some 22, .load 23 (.tmp 21), none⟩,
    ⟨some 6, .assign (.tmp 22), none⟩] [])
  .ret) .skip))))))
  (.seq (.reg [⟨some 24, .fieldAddr 56 (.tmp 3) 0, none⟩,
    ⟨some 25, .load 3 (.tmp 24), none⟩,
    ⟨some 26, .binOp .sub 3 (.tmp 25) (.const (.int .i64 256)) 3, none⟩,
    ⟨some 27, .move (.tmp 1), none⟩,
    ⟨some 28, .fieldAddr 56 (.tmp 3) 1, none⟩,
    ⟨some 29, .load 3 (.tmp 28), none⟩,
    ⟨some 30, .indexAddr 32 (.tmp 27) (.tmp 29), none⟩,
    ⟨some 31, .load 23 (.tmp 30), none⟩,
    ⟨some 32, .move (.tmp 1), none⟩,
    ⟨some 33, .fieldAddr 56 (.tmp 3) 2, none⟩,
    ⟨some 34, .load 3 (.tmp 33), none⟩,
    ⟨some 35, .indexAddr 32 (.tmp 32) (.tmp 34), none⟩,
    ⟨some 36, .load 23 (.tmp 35), none⟩,
    ⟨some 37, .call { callee := .value (.func 43), args := #[.tmp 26, .tmp 31, .tmp 36], argTypes := #[3, 23, 23] }, none⟩,
    ⟨some 23, .move (.tmp 37), none⟩,
    ⟨some 38, .extract (.tmp 23) 0, none⟩,
    ⟨some 39, .extract (.tmp 23) 1, none⟩,
    ⟨some 7, .assign (.tmp 38), none⟩,
    ⟨some 8, .assign (.tmp 39), none⟩] [])
  (.seq (.reg [⟨some 40, .move (.tmp 7), none⟩,
    ⟨some 6, .assign (.tmp 40), none⟩] [])
  .ret))))
theorem S34_eq : slimF Try.prog 34 = some (41, [.tmp 6], S34) := by kernel_rfl

def S35L1 : SC :=
  (.seq (.seq (.reg [⟨some 70, .move (.tmp 10), none⟩,
    ⟨some 71, .move (.tmp 2), none⟩,
    ⟨some 72, .binOp .rem 23 (.tmp 71) (.const (.int .u32 32)) 23, none⟩,
    ⟨some 73, .binOp .lss 23 (.tmp 70) (.tmp 72) 23, none⟩] [])
  (.cond (.tmp 73) .skip (.exit 1)))
  (.seq (.block 2 (.reg [⟨some 76, .move (.tmp 9), none⟩,
    ⟨some 77, .binOp .mul 47 (.const (.int .u64 2)) (.tmp 76) 47, none⟩,
    ⟨some 78, .move (.tmp 8), none⟩,
    ⟨some 79, .binOp .rem 47 (.tmp 77) (.tmp 78) 47, none⟩,
    ⟨some 9, .assign (.tmp 79), none⟩] []))
  (.reg [⟨some 74, .move (.tmp 10), none⟩,
    ⟨some 75, .binOp .add 23 (.tmp 74) (.const (.int .u32 1)) 23, none⟩,
    ⟨some 10, .assign (.tmp 75), none⟩] [])))
def S35L2 : SC :=
  (.seq (.seq (.reg [⟨some 86, .move (.tmp 12), none⟩,
    ⟨some 87, .move (.tmp 2), none⟩,
    ⟨some 88, .binOp .rem 23 (.tmp 87) (.const (.int .u32 32)) 23, none⟩,
    ⟨some 89, .binOp .lss 23 (.tmp 86) (.tmp 88) 23, none⟩] [])
  (.cond (.tmp 89) .skip (.exit 3)))
  (.seq (.block 4 (.reg [⟨some 92, .move (.tmp 11), none⟩,
    ⟨some 93, .binOp .quo 47 (.tmp 92) (.const (.int .u64 2)) 47, none⟩,
    ⟨some 11, .assign (.tmp 93), none⟩] []))
  (.reg [⟨some 90, .move (.tmp 12), none⟩,
    ⟨some 91, .binOp .add 23 (.tmp 90) (.const (.int .u32 1)) 23, none⟩,
    ⟨some 12, .assign (.tmp 91), none⟩] [])))
/-- tamis/tamisref01.Alu -/
def S35 : SC :=
  (.seq (.reg [⟨some 6, .assign (.const (.int .u32 0)), none⟩,
    ⟨some 7, .assign (.const (.bool false)), none⟩] [])
  (.seq (.reg [⟨some 8, .assign (.const (.int .u64 4294967296)), none⟩] [])
  (.seq (.seq (.reg [⟨some 13, .move (.tmp 0), none⟩] [])
  (.block 0 (.seq (.reg [⟨some 15, .binOp .eql 3 (.tmp 13) (.const (.int .i64 0)) 3, none⟩,
    ⟨some 14, .assign (.tmp 15), none⟩] [])
  (.cond (.tmp 14) (.seq (.reg [⟨some 16, .move (.tmp 1), none⟩,
    ⟨some 17, .convert 23 47 (.tmp 16), none⟩,
    ⟨some 18, .move (.tmp 2), none⟩,
    ⟨some 19, .convert 23 47 (.tmp 18), none⟩,
    ⟨some 20, .binOp .add 47 (.tmp 17) (.tmp 19) 47, none⟩,
    ⟨some 21, .move (.tmp 8), none⟩,
    ⟨some 22, .binOp .rem 47 (.tmp 20) (.tmp 21) 47, none⟩,
    ⟨some 23, .convert 47 23 (.tmp 22), none⟩,
    ⟨some 6, .assign (.tmp 23), none⟩,
    ⟨some 7, .assign (.const (.bool true)), none⟩] [])
  .ret) (.seq (.reg [⟨some 25, .binOp .eql 3 (.tmp 13) (.const (.int .i64 16)) 3, none⟩,
    ⟨some 24, .assign (.tmp 25), none⟩] [])
  (.cond (.tmp 24) (.seq (.reg [⟨some 26, .move (.tmp 1), none⟩,
    ⟨some 27, .convert 23 47 (.tmp 26), none⟩,
    ⟨some 28, .move (.tmp 8), none⟩,
    ⟨some 29, .binOp .add 47 (.tmp 27) (.tmp 28) 47, none⟩,
    ⟨some 30, .move (.tmp 2), none⟩,
    ⟨some 31, .convert 23 47 (.tmp 30), none⟩,
    ⟨some 32, .binOp .sub 47 (.tmp 29) (.tmp 31) 47, none⟩,
    ⟨some 33, .move (.tmp 8), none⟩,
    ⟨some 34, .binOp .rem 47 (.tmp 32) (.tmp 33) 47, none⟩,
    ⟨some 35, .convert 47 23 (.tmp 34), none⟩,
    ⟨some 6, .assign (.tmp 35), none⟩,
    ⟨some 7, .assign (.const (.bool true)), none⟩] [])
  .ret) (.seq (.reg [⟨some 37, .binOp .eql 3 (.tmp 13) (.const (.int .i64 32)) 3, none⟩,
    ⟨some 36, .assign (.tmp 37), none⟩] [])
  (.cond (.tmp 36) (.seq (.reg [⟨some 38, .move (.tmp 1), none⟩,
    ⟨some 39, .convert 23 47 (.tmp 38), none⟩,
    ⟨some 40, .move (.tmp 2), none⟩,
    ⟨some 41, .convert 23 47 (.tmp 40), none⟩,
    ⟨some 42, .binOp .mul 47 (.tmp 39) (.tmp 41) 47, none⟩,
    ⟨some 43, .move (.tmp 8), none⟩,
    ⟨some 44, .binOp .rem 47 (.tmp 42) (.tmp 43) 47, none⟩,
    ⟨some 45, .convert 47 23 (.tmp 44), none⟩,
    ⟨some 6, .assign (.tmp 45), none⟩,
    ⟨some 7, .assign (.const (.bool true)), none⟩] [])
  .ret) (.seq (.reg [⟨some 47, .binOp .eql 3 (.tmp 13) (.const (.int .i64 48)) 3, none⟩,
    ⟨some 46, .assign (.tmp 47), none⟩] [])
  (.cond (.tmp 46) (.seq (.seq (.reg [⟨some 48, .move (.tmp 2), none⟩,
    ⟨some 49, .binOp .eql 23 (.tmp 48) (.const (.int .u32 0)) 23, none⟩] [])
  (.cond (.tmp 49) (.seq (.reg [⟨some 6, .assign (.const (.int .u32 0)), none⟩,
    ⟨some 7, .assign (.const (.bool false)), none⟩] [])
  .ret) .skip))
  (.seq (.reg [⟨some 50, .move (.tmp 1), none⟩,
    ⟨some 51, .convert 23 47 (.tmp 50), none⟩,
    ⟨some 52, .move (.tmp 2), none⟩,
    ⟨some 53, .convert 23 47 (.tmp 52), none⟩,
    ⟨some 54, .binOp .quo 47 (.tmp 51) (.tmp 53) 47, none⟩,
    ⟨some 55, .convert 47 23 (.tmp 54), none⟩,
    ⟨some 6, .assign (.tmp 55), none⟩,
    ⟨some 7, .assign (.const (.bool true)), none⟩] [])
  .ret)) (.seq (.reg [⟨some 57, .binOp .eql 3 (.tmp 13) (.const (.int .i64 64)) 3, none⟩,
    ⟨some 56, .assign (.tmp 57), none⟩] [])
  (.cond (.tmp 56) (.seq (.reg [⟨some 58, .move (.tmp 1), none⟩,
    ⟨some 59, .move (.tmp 2), none⟩,
    ⟨some 60, .call { callee := .value (.func 44), args := #[.tmp 58, .tmp 59, .const (.int .i64 0), .const (.int .i64 1), .const (.int .i64 1)], argTypes := #[23, 23, 3, 3, 3] }, none⟩,
    ⟨some 6, .assign (.tmp 60), none⟩,
    ⟨some 7, .assign (.const (.bool true)), none⟩] [])
  .ret) (.seq (.reg [⟨some 62, .binOp .eql 3 (.tmp 13) (.const (.int .i64 80)) 3, none⟩,
    ⟨some 61, .assign (.tmp 62), none⟩] [])
  (.cond (.tmp 61) (.seq (.reg [⟨some 63, .move (.tmp 1), none⟩,
    ⟨some 64, .move (.tmp 2), none⟩,
    ⟨some 65, .call { callee := .value (.func 44), args := #[.tmp 63, .tmp 64, .const (.int .i64 0), .const (.int .i64 0), .const (.int .i64 1)], argTypes := #[23, 23, 3, 3, 3] }, none⟩,
    ⟨some 6, .assign (.tmp 65), none⟩,
    ⟨some 7, .assign (.const (.bool true)), none⟩] [])
  .ret) (.seq (.reg [⟨some 67, .binOp .eql 3 (.tmp 13) (.const (.int .i64 96)) 3, none⟩,
    ⟨some 66, .assign (.tmp 67), none⟩] [])
  (.cond (.tmp 66) (.seq (.reg [⟨some 68, .move (.tmp 1), none⟩,
    ⟨some 69, .convert 23 47 (.tmp 68), none⟩,
    ⟨some 9, .assign (.tmp 69), none⟩] [])
  (.seq (.seq (.reg [⟨some 10, .assign (.const (.int .u32 0)), none⟩] [])
  (.block 1 (.loop S35L1)))
  (.seq (.reg [⟨some 80, .move (.tmp 9), none⟩,
    ⟨some 81, .convert 47 23 (.tmp 80), none⟩,
    ⟨some 6, .assign (.tmp 81), none⟩,
    ⟨some 7, .assign (.const (.bool true)), none⟩] [])
  .ret))) (.seq (.reg [⟨some 83, .binOp .eql 3 (.tmp 13) (.const (.int .i64 112)) 3, none⟩,
    ⟨some 82, .assign (.tmp 83), none⟩] [])
  (.cond (.tmp 82) (.seq (.reg [⟨some 84, .move (.tmp 1), none⟩,
    ⟨some 85, .convert 23 47 (.tmp 84), none⟩,
    ⟨some 11, .assign (.tmp 85), none⟩] [])
  (.seq (.seq (.reg [⟨some 12, .assign (.const (.int .u32 0)), none⟩] [])
  (.block 3 (.loop S35L2)))
  (.seq (.reg [⟨some 94, .move (.tmp 11), none⟩,
    ⟨some 95, .convert 47 23 (.tmp 94), none⟩,
    ⟨some 6, .assign (.tmp 95), none⟩,
    ⟨some 7, .assign (.const (.bool true)), none⟩] [])
  .ret))) (.seq (.reg [⟨some 97, .binOp .eql 3 (.tmp 13) (.const (.int .i64 128)) 3, none⟩,
    ⟨some 96, .assign (.tmp 97), none⟩] [])
  (.cond (.tmp 96) (.seq (.reg [⟨some 98, .move (.tmp 8), none⟩,
    ⟨some 99, .move (.tmp 1), none⟩,
    ⟨some 100, .convert 23 47 (.tmp 99), none⟩,
    ⟨some 101, .binOp .sub 47 (.tmp 98) (.tmp 100) 47, none⟩,
    ⟨some 102, .move (.tmp 8), none⟩,
    ⟨some 103, .binOp .rem 47 (.tmp 101) (.tmp 102) 47, none⟩,
    ⟨some 104, .convert 47 23 (.tmp 103), none⟩,
    ⟨some 6, .assign (.tmp 104), none⟩,
    ⟨some 7, .assign (.const (.bool true)), none⟩] [])
  .ret) (.seq (.reg [⟨some 106, .binOp .eql 3 (.tmp 13) (.const (.int .i64 160)) 3, none⟩,
    ⟨some 105, .assign (.tmp 106), none⟩] [])
  (.cond (.tmp 105) (.seq (.reg [⟨some 107, .move (.tmp 1), none⟩,
    ⟨some 108, .move (.tmp 2), none⟩,
    ⟨some 109, .call { callee := .value (.func 44), args := #[.tmp 107, .tmp 108, .const (.int .i64 0), .const (.int .i64 1), .const (.int .i64 0)], argTypes := #[23, 23, 3, 3, 3] }, none⟩,
    ⟨some 6, .assign (.tmp 109), none⟩,
    ⟨some 7, .assign (.const (.bool true)), none⟩] [])
  .ret) .skip))))))))))))))))))))))
  (.seq (.reg [⟨some 6, .assign (.const (.int .u32 0)), none⟩,
    ⟨some 7, .assign (.const (.bool false)), none⟩] [])
  .ret))))
theorem S35_eq : slimF Try.prog 35 = some (110, [.tmp 6, .tmp 7], S35) := by kernel_rfl

def S36L1 : SC :=
  (.seq (.reg [⟨some 17, .binOp .lss 3 (.tmp 16) (.tmp 15) 3, none⟩] [])
  (.seq (.cond (.tmp 17) .skip (.exit 0))
  (.seq (.block 1 (.seq (.reg [⟨some 18, .indexAddr 52 (.tmp 14) (.tmp 16), none⟩,
    ⟨some 19, .load 3 (.tmp 18), none⟩,
    ⟨some 7, .assign (.tmp 19), none⟩] [])
  (.reg [⟨some 20, .move (.tmp 5), none⟩,
    ⟨some 21, .move (.tmp 7), none⟩,
    ⟨some 22, .indexAddr 50 (.tmp 20) (.tmp 21), none⟩,
    ⟨none, .store 4 (.tmp 22) (.const (.bool true)), none⟩] [])))
  (.reg [⟨some 23, .binOp .add 3 (.tmp 16) (.const (.int .i64 1)) 3, none⟩,
    ⟨some 16, .move (.tmp 23), none⟩] []))))
def S36L3 : SC :=
  (.seq (.reg [⟨some 43, .binOp .lss 3 (.tmp 42) (.tmp 41) 3, none⟩] [])
  (.seq (.cond (.tmp 43) .skip (.exit 4))
  (.seq (.block 5 (.seq (.reg [⟨some 44, .indexAddr 52 (.tmp 40) (.tmp 42), none⟩,
    ⟨some 45, .load 3 (.tmp 44), none⟩,
    ⟨some 10, .assign (.tmp 45), none⟩] [])
  (.reg [⟨some 46, .move (.tmp 5), none⟩,
    ⟨some 47, .move (.tmp 10), none⟩,
    ⟨some 48, .indexAddr 50 (.tmp 46) (.tmp 47), none⟩,
    ⟨none, .store 4 (.tmp 48) (.const (.bool true)), none⟩] [])))
  (.reg [⟨some 49, .binOp .add 3 (.tmp 42) (.const (.int .i64 1)) 3, none⟩,
    ⟨some 42, .move (.tmp 49), none⟩] []))))
def S36L2 : SC :=
  (.seq (.seq (.reg [⟨some 27, .move (.tmp 8), none⟩,
    ⟨some 28, .binOp .geq 3 (.tmp 27) (.const (.int .i64 0)) 3, none⟩] [])
  (.cond (.tmp 28) .skip (.exit 2)))
  (.seq (.block 3 (.seq (.seq (.reg [⟨some 31, .move (.tmp 5), none⟩,
    ⟨some 32, .move (.tmp 8), none⟩,
    ⟨some 33, .indexAddr 50 (.tmp 31) (.tmp 32), none⟩,
    ⟨some 34, .load 4 (.tmp 33), none⟩,
    ⟨some 35, .unOp .not 4 (.tmp 34), none⟩] [])
  (.cond (.tmp 35) (.exit 3) .skip))
  (.seq (.reg [⟨some 36, .move (.tmp 0), none⟩,
    ⟨some 37, .move (.tmp 8), none⟩,
    ⟨some 38, .indexAddr 22 (.tmp 36) (.tmp 37), none⟩,
    ⟨some 39, .load 56 (.tmp 38), none⟩,
    ⟨some 40, .call { callee := .value (.func 38), args := #[.tmp 39], argTypes := #[56] }, none⟩,
    ⟨some 41, .call { callee := .builtin .len, args := #[.tmp 40], argTypes := #[52] }, none⟩,
    ⟨some 42, .move (.const (.int .i64 0)), none⟩] [])
  (.block 4 (.loop S36L3)))))
  (.reg [⟨some 29, .move (.tmp 8), none⟩,
    ⟨some 30, .binOp .sub 3 (.tmp 29) (.const (.int .i64 1)) 3, none⟩,
    ⟨some 8, .assign (.tmp 30), none⟩] [])))
/-- tamis/term.reach -/
def S36 : SC :=
  (.seq (.reg [⟨some 4, .assign (.const (.slice none 0 0)), none⟩] [])
  (.seq (.reg [⟨some 11, .move (.tmp 0), none⟩,
    ⟨some 12, .call { callee := .builtin .len, args := #[.tmp 11], argTypes := #[22] }, none⟩,
    ⟨some 13, .makeSlice 50 (.tmp 12) (.tmp 12), none⟩,
    ⟨some 5, .assign (.tmp 13), none⟩] [])
  (.seq (.seq (.reg [⟨some 14, .move (.tmp 1), none⟩,
    ⟨some 15, .call { callee := .builtin .len, args := #[.tmp 14], argTypes := #[52] }, none⟩,
    ⟨some 16, .move (.const (.int .i64 0)), none⟩] [])
  (.block 0 (.loop S36L1)))
  (.seq (.seq (.reg [⟨some 24, .move (.tmp 0), none⟩,
    ⟨some 25, .call { callee := .builtin .len, args := #[.tmp 24], argTypes := #[22] }, none⟩,
    ⟨some 26, .binOp .sub 3 (.tmp 25) (.const (.int .i64 1)) 3, none⟩,
    ⟨some 8, .assign (.tmp 26), none⟩] [])
  (.block 2 (.loop S36L2)))
  (.seq (.reg [⟨some 50, .move (.tmp 5), none⟩,
    ⟨some 4, .assign (.tmp 50), none⟩] [])
  .ret)))))
theorem S36_eq : slimF Try.prog 36 = some (51, [.tmp 4], S36) := by kernel_rfl

/-- tamis/tamisref11.Parts -/
def S37 : SC :=
  (.seq (.reg [⟨some 1, .box 56 (.tmp 0), none⟩,
    ⟨some 2, .assign (.const (.slice none 0 0)), none⟩] [])
  (.seq (.seq (.reg [⟨some 3, .fieldAddr 56 (.tmp 1) 0, none⟩,
    ⟨some 4, .load 3 (.tmp 3), none⟩,
    ⟨some 5, .binOp .leq 3 (.tmp 4) (.const (.int .i64 2)) 3, none⟩] [])
  (.cond (.tmp 5) (.seq (.reg [⟨some 2, .assign (.const (.slice none 0 0)), none⟩] [])
  .ret) .skip))
  (.seq (.seq (.reg [⟨some 6, .fieldAddr 56 (.tmp 1) 0, none⟩,
    ⟨some 7, .load 3 (.tmp 6), none⟩,
    ⟨some 8, .binOp .eql 3 (.tmp 7) (.const (.int .i64 384)) 3, none⟩] [])
  (.cond (.tmp 8) (.seq (.reg [⟨some 9, .fieldAddr 56 (.tmp 1) 1, none⟩,
    ⟨some 10, .load 3 (.tmp 9), none⟩,
    ⟨some 11, .buildSlice 52 1 #[(0, .tmp 10)], none⟩,
    ⟨some 2, .assign (.tmp 11), none⟩] [])
  .ret) .skip))
  (.seq (.reg [⟨some 12, .fieldAddr 56 (.tmp 1) 1, none⟩,
    ⟨some 13, .load 3 (.tmp 12), none⟩,
    ⟨some 14, .fieldAddr 56 (.tmp 1) 2, none⟩,
    ⟨some 15, .load 3 (.tmp 14), none⟩,
    ⟨some 16, .buildSlice 52 2 #[(0, .tmp 13), (1, .tmp 15)], none⟩,
    ⟨some 2, .assign (.tmp 16), none⟩] [])
  .ret))))
theorem S37_eq : slimF Try.prog 37 = some (17, [.tmp 2], S37) := by kernel_rfl

/-- tamis/term.parts -/
def S38 : SC :=
  (.seq (.reg [⟨some 1, .box 56 (.tmp 0), none⟩,
    ⟨some 2, .assign (.const (.slice none 0 0)), none⟩] [])
  (.seq (.seq (.reg [⟨some 3, .fieldAddr 56 (.tmp 1) 0, none⟩,
    ⟨some 4, .load 3 (.tmp 3), none⟩] [])
  (.block 0 (.seq (.seq (.reg [⟨some 6, .binOp .eql 3 (.tmp 4) (.const (.int .i64 1)) 3, none⟩,
    ⟨some 5, .assign (.tmp 6), none⟩] [])
  (.cond (.tmp 5) .skip (.reg [⟨some 7, .binOp .eql 3 (.tmp 4) (.const (.int .i64 2)) 3, none⟩,
    ⟨some 5, .assign (.tmp 7), none⟩] [])))
  (.cond (.tmp 5) (.seq (.reg [⟨some 2, .assign (.const (.slice none 0 0)), none⟩] [])
  .ret) (.seq (.reg [⟨some 9, .binOp .eql 3 (.tmp 4) (.const (.int .i64 384)) 3, none⟩,
    ⟨some 8, .assign (.tmp 9), none⟩] [])
  (.cond (.tmp 8) (.seq (.reg [⟨some 10, .fieldAddr 56 (.tmp 1) 1, none⟩,
    ⟨some 11, .load 3 (.tmp 10), none⟩,
    ⟨some 12, .buildSlice 52 1 #[(0, .tmp 11)], none⟩,
    ⟨some 2, .assign (.tmp 12), none⟩] [])
  .ret) .skip))))))
  (.seq (.reg [⟨some 13, .fieldAddr 56 (.tmp 1) 1, none⟩,
    ⟨some 14, .load 3 (.tmp 13), none⟩,
    ⟨some 15, .fieldAddr 56 (.tmp 1) 2, none⟩,
    ⟨some 16, .load 3 (.tmp 15), none⟩,
    ⟨some 17, .buildSlice 52 2 #[(0, .tmp 14), (1, .tmp 16)], none⟩,
    ⟨some 2, .assign (.tmp 17), none⟩] [])
  .ret)))
theorem S38_eq : slimF Try.prog 38 = some (18, [.tmp 2], S38) := by kernel_rfl

/-- tamis/term.moved -/
def S39 : SC :=
  (.seq (.reg [⟨some 2, .box 56 (.tmp 0), none⟩,
    ⟨some 4, .alloc 56, none⟩] [])
  (.seq (.reg [⟨some 6, .load 56 (.tmp 2), none⟩,
    ⟨some 7, .call { callee := .value (.func 38), args := #[.tmp 6], argTypes := #[56] }, none⟩,
    ⟨some 5, .assign (.tmp 7), none⟩] [])
  (.seq (.seq (.reg [⟨some 8, .move (.tmp 5), none⟩,
    ⟨some 9, .call { callee := .builtin .len, args := #[.tmp 8], argTypes := #[52] }, none⟩,
    ⟨some 10, .binOp .gtr 3 (.tmp 9) (.const (.int .i64 0)) 3, none⟩] [])
  (.cond (.tmp 10) (.reg [⟨some 11, .move (.tmp 1), none⟩,
    ⟨some 12, .fieldAddr 56 (.tmp 2) 1, none⟩,
    ⟨some 13, .load 3 (.tmp 12), none⟩,
    ⟨some 14, .indexAddr 52 (.tmp 11) (.tmp 13), none⟩,
    ⟨some 15, .load 3 (.tmp 14), none⟩,
    ⟨some 16, .fieldAddr 56 (.tmp 2) 1, none⟩,
    ⟨none, .store 3 (.tmp 16) (.tmp 15), none⟩] []) .skip))
  (.seq (.seq (.reg [⟨some 17, .move (.tmp 5), none⟩,
    ⟨some 18, .call { callee := .builtin .len, args := #[.tmp 17], argTypes := #[52] }, none⟩,
    ⟨some 19, .binOp .gtr 3 (.tmp 18) (.const (.int .i64 1)) 3, none⟩] [])
  (.cond (.tmp 19) (.reg [⟨some 20, .move (.tmp 1), none⟩,
    ⟨some 21, .fieldAddr 56 (.tmp 2) 2, none⟩,
    ⟨some 22, .load 3 (.tmp 21), none⟩,
    ⟨some 23, .indexAddr 52 (.tmp 20) (.tmp 22), none⟩,
    ⟨some 24, .load 3 (.tmp 23), none⟩,
    ⟨some 25, .fieldAddr 56 (.tmp 2) 2, none⟩,
    ⟨none, .store 3 (.tmp 25) (.tmp 24), none⟩] []) .skip))
  (.seq (.reg [⟨some 26, .load 56 (.tmp 2), none⟩,
    ⟨none, .store 56 (.tmp 4) (.tmp 26), none⟩] [])
  .ret)))))
theorem S39_eq : slimF Try.prog 39 = some (27, [.cell 4 56], S39) := by kernel_rfl

/-- (*tamis/term.Pool).put -/
def S40 : SC :=
  (.seq (.reg [⟨some 3, .box 56 (.tmp 1), none⟩,
    ⟨some 4, .assign (.const (.int .i64 0)), none⟩] [])
  (.seq (.reg [⟨some 8, .move (.tmp 0), none⟩,
    ⟨some 9, .nilCheck (.tmp 8), none⟩,
    ⟨some 10, .fieldAddr 82 (.tmp 9) 1, none⟩,
    ⟨some 11, .load 80 (.tmp 10), none⟩,
    ⟨some 12, .load 56 (.tmp 3), none⟩,
    ⟨some 13, .lookup 80 (.tmp 11) (.tmp 12) true, none⟩,
    ⟨some 7, .move (.tmp 13), none⟩,
    ⟨some 14, .extract (.tmp 7) 0, none⟩,
    ⟨some 15, .extract (.tmp 7) 1, none⟩,
    ⟨some 5, .assign (.tmp 14), none⟩,
    ⟨some 6, .assign (.tmp 15), none⟩] [])
  (.seq (.seq (.reg [⟨some 16, .move (.tmp 6), none⟩,
    ⟨some 17, .unOp .not 4 (.tmp 16), none⟩] [])
  (.cond (.tmp 17) (.seq (.reg [⟨some 18, .move (.tmp 0), none⟩,
    ⟨some 19, .nilCheck (.tmp 18), none⟩,
    ⟨some 20, .fieldAddr 82 (.tmp 19) 0, none⟩,
    ⟨some 21, .load 22 (.tmp 20), none⟩,
    ⟨some 22, .call { callee := .builtin .len, args := #[.tmp 21], argTypes := #[22] }, none⟩,
    ⟨some 5, .assign (.tmp 22), none⟩] [])
  (.seq (.reg [⟨some 23, .move (.tmp 0), none⟩,
    ⟨some 24, .nilCheck (.tmp 23), none⟩,
    ⟨some 25, .fieldAddr 82 (.tmp 24) 1, none⟩,
    ⟨some 26, .load 80 (.tmp 25), none⟩,
    ⟨some 27, .load 56 (.tmp 3), none⟩,
    ⟨some 28, .move (.tmp 5), none⟩,
    ⟨none, .mapUpdate 80 (.tmp 26) (.tmp 27) (.tmp 28), none⟩] [])
  (.reg [⟨some 29, .move (.tmp 0), none⟩,
    ⟨some 30, .move (.tmp 0), none⟩,
    ⟨some 31, .nilCheck (.tmp 30), none⟩,
    ⟨some 32, .fieldAddr 82 (.tmp 31) 0, none⟩,
    ⟨some 33, .load 22 (.tmp 32), none⟩,
    ⟨some 34, .load 56 (.tmp 3), none⟩,
    ⟨some 35, .buildSlice 22 1 #[(0, .tmp 34)], none⟩,
    ⟨some 36, .call { callee := .builtin .append, args := #[.tmp 33, .tmp 35], argTypes := #[22, 22] }, none⟩,
    ⟨some 37, .nilCheck (.tmp 29), none⟩,
    ⟨some 38, .fieldAddr 82 (.tmp 37) 0, none⟩,
    ⟨none, .store 22 (.tmp 38) (.tmp 36), none⟩] [(4, 6)]))) .skip))
  (.seq (.reg [⟨some 39, .move (.tmp 5), none⟩,
    ⟨some 4, .assign (.tmp 39), none⟩] [])
  .ret))))
theorem S40_eq : slimF Try.prog 40 = some (40, [.tmp 4], S40) := by kernel_rfl

/-- slices.Clone[[]tamis/api.Node,tamis/api.Node] -/
def S41 : SC :=
  (.seq (.reg [⟨some 2, .assign (.const (.slice none 0 0)), none⟩] [])
  (.seq (.seq (.reg [⟨some 3, .move (.tmp 0), none⟩,
    ⟨some 4, .binOp .eql 22 (.tmp 3) (.const (.slice none 0 0)) 22, none⟩] [])
  (.cond (.tmp 4) (.seq (.reg [⟨some 2, .assign (.const (.slice none 0 0)), none⟩] [])
  .ret) .skip))
  (.seq (.reg [⟨some 5, .buildSlice 22 0 #[], none⟩,
    ⟨some 6, .move (.tmp 0), none⟩,
    ⟨some 7, .call { callee := .builtin .append, args := #[.tmp 5, .tmp 6], argTypes := #[22, 22] }, none⟩,
    ⟨some 2, .assign (.tmp 7), none⟩] [])
  .ret)))
theorem S41_eq : slimF Try.prog 41 = some (8, [.tmp 2], S41) := by kernel_rfl

/-- tamis/term.reckons -/
def S42 : SC :=
  (.seq (.reg [⟨some 2, .assign (.const (.bool false)), none⟩] [])
  (.seq (.seq (.reg [⟨some 3, .move (.tmp 0), none⟩] [])
  (.block 0 (.seq (.seq (.reg [⟨some 5, .binOp .eql 3 (.tmp 3) (.const (.int .i64 256)) 3, none⟩,
    ⟨some 4, .assign (.tmp 5), none⟩] [])
  (.cond (.tmp 4) .skip (.seq (.reg [⟨some 6, .binOp .eql 3 (.tmp 3) (.const (.int .i64 272)) 3, none⟩,
    ⟨some 4, .assign (.tmp 6), none⟩] [])
  (.cond (.tmp 4) .skip (.seq (.reg [⟨some 7, .binOp .eql 3 (.tmp 3) (.const (.int .i64 288)) 3, none⟩,
    ⟨some 4, .assign (.tmp 7), none⟩] [])
  (.cond (.tmp 4) .skip (.seq (.reg [⟨some 8, .binOp .eql 3 (.tmp 3) (.const (.int .i64 304)) 3, none⟩,
    ⟨some 4, .assign (.tmp 8), none⟩] [])
  (.cond (.tmp 4) .skip (.seq (.reg [⟨some 9, .binOp .eql 3 (.tmp 3) (.const (.int .i64 320)) 3, none⟩,
    ⟨some 4, .assign (.tmp 9), none⟩] [])
  (.cond (.tmp 4) .skip (.seq (.reg [⟨some 10, .binOp .eql 3 (.tmp 3) (.const (.int .i64 336)) 3, none⟩,
    ⟨some 4, .assign (.tmp 10), none⟩] [])
  (.cond (.tmp 4) .skip (.seq (.reg [⟨some 11, .binOp .eql 3 (.tmp 3) (.const (.int .i64 352)) 3, none⟩,
    ⟨some 4, .assign (.tmp 11), none⟩] [])
  (.cond (.tmp 4) .skip (.seq (.reg [⟨some 12, .binOp .eql 3 (.tmp 3) (.const (.int .i64 368)) 3, none⟩,
    ⟨some 4, .assign (.tmp 12), none⟩] [])
  (.cond (.tmp 4) .skip (.seq (.reg [⟨some 13, .binOp .eql 3 (.tmp 3) (.const (.int .i64 416)) 3, none⟩,
    ⟨some 4, .assign (.tmp 13), none⟩] [])
  (.cond (.tmp 4) .skip (.reg [⟨some 14, .binOp .eql 3 (.tmp 3) (.const (.int .i64 384)) 3, none⟩,
    ⟨some 4, .assign (.tmp 14), none⟩] [])))))))))))))))))))
  (.cond (.tmp 4) (.seq (.reg [⟨some 2, .assign (.const (.bool true)), none⟩] [])
  .ret) .skip))))
  (.seq (.reg [⟨some 2, .assign (.const (.bool false)), none⟩] [])
  .ret)))
theorem S42_eq : slimF Try.prog 42 = some (15, [.tmp 2], S42) := by kernel_rfl

/-- tamis/word.Alu -/
def S43 : SC :=
  (.seq (.reg [⟨some 6, .assign (.const (.int .u32 0)), none⟩,
    ⟨some 7, .assign (.const (.bool false)), none⟩] [])
  (.seq (.seq (.reg [⟨some 8, .move (.tmp 0), none⟩] [])
  (.block 0 (.seq (.reg [⟨some 10, .binOp .eql 3 (.tmp 8) (.const (.int .i64 0)) 3, none⟩,
    ⟨some 9, .assign (.tmp 10), none⟩] [])
  (.cond (.tmp 9) (.seq (.reg [⟨some 11, .move (.tmp 1), none⟩,
    ⟨some 12, .move (.tmp 2), none⟩,
    ⟨some 13, .binOp .add 23 (.tmp 11) (.tmp 12) 23, none⟩,
    ⟨some 6, .assign (.tmp 13), none⟩,
    ⟨some 7, .assign (.const (.bool true)), none⟩] [])
  .ret) (.seq (.reg [⟨some 15, .binOp .eql 3 (.tmp 8) (.const (.int .i64 16)) 3, none⟩,
    ⟨some 14, .assign (.tmp 15), none⟩] [])
  (.cond (.tmp 14) (.seq (.reg [⟨some 16, .move (.tmp 1), none⟩,
    ⟨some 17, .move (.tmp 2), none⟩,
    ⟨some 18, .binOp .sub 23 (.tmp 16) (.tmp 17) 23, none⟩,
    ⟨some 6, .assign (.tmp 18), none⟩,
    ⟨some 7, .assign (.const (.bool true)), none⟩] [])
  .ret) (.seq (.reg [⟨some 20, .binOp .eql 3 (.tmp 8) (.const (.int .i64 32)) 3, none⟩,
    ⟨some 19, .assign (.tmp 20), none⟩] [])
  (.cond (.tmp 19) (.seq (.reg [⟨some 21, .move (.tmp 1), none⟩,
    ⟨some 22, .move (.tmp 2), none⟩,
    ⟨some 23, .binOp .mul 23 (.tmp 21) (.tmp 22) 23, none⟩,
    ⟨some 6, .assign (.tmp 23), none⟩,
    ⟨some 7, .assign (.const (.bool true)), none⟩] [])
  .ret) (.seq (.reg [⟨some 25, .binOp .eql 3 (.tmp 8) (.const (.int .i64 48)) 3, none⟩,
    ⟨some 24, .assign (.tmp 25), none⟩] [])
  (.cond (.tmp 24) (.seq (.seq (.reg [⟨some 26, .move (.tmp 2), none⟩,
    ⟨some 27, .binOp .eql 23 (.tmp 26) (.const (.int .u32 0)) 23, none⟩] [])
  (.cond (.tmp 27) (.seq (.reg [⟨some 6, .assign (.const (.int .u32 0)), none⟩,
    ⟨some 7, .assign (.const (.bool false)), none⟩] [])
  .ret) .skip))
  (.seq (.reg [⟨some 28, .move (.tmp 1), none⟩,
    ⟨some 29, .move (.tmp 2), none⟩,
    ⟨some 30, .binOp .quo 23 (.tmp 28) (.tmp 29) 23, none⟩,
    ⟨some 6, .assign (.tmp 30), none⟩,
    ⟨some 7, .assign (.const (.bool true)), none⟩] [])
  .ret)) (.seq (.reg [⟨some 32, .binOp .eql 3 (.tmp 8) (.const (.int .i64 64)) 3, none⟩,
    ⟨some 31, .assign (.tmp 32), none⟩] [])
  (.cond (.tmp 31) (.seq (.reg [⟨some 33, .move (.tmp 1), none⟩,
    ⟨some 34, .move (.tmp 2), none⟩,
    ⟨some 35, .binOp .or 23 (.tmp 33) (.tmp 34) 23, none⟩,
    ⟨some 6, .assign (.tmp 35), none⟩,
    ⟨some 7, .assign (.const (.bool true)), none⟩] [])
  .ret) (.seq (.reg [⟨some 37, .binOp .eql 3 (.tmp 8) (.const (.int .i64 80)) 3, none⟩,
    ⟨some 36, .assign (.tmp 37), none⟩] [])
  (.cond (.tmp 36) (.seq (.reg [⟨some 38, .move (.tmp 1), none⟩,
    ⟨some 39, .move (.tmp 2), none⟩,
    ⟨some 40, .binOp .and 23 (.tmp 38) (.tmp 39) 23, none⟩,
    ⟨some 6, .assign (.tmp 40), none⟩,
    ⟨some 7, .assign (.const (.bool true)), none⟩] [])
  .ret) (.seq (.reg [⟨some 42, .binOp .eql 3 (.tmp 8) (.const (.int .i64 96)) 3, none⟩,
    ⟨some 41, .assign (.tmp 42), none⟩] [])
  (.cond (.tmp 41) (.seq (.reg [⟨some 43, .move (.tmp 1), none⟩,
    ⟨some 44, .move (.tmp 2), none⟩,
    ⟨some 45, .binOp .and 23 (.tmp 44) (.const (.int .u32 31)) 23, none⟩,
    ⟨some 46, .binOp .shl 23 (.tmp 43) (.tmp 45) 23, none⟩,
    ⟨some 6, .assign (.tmp 46), none⟩,
    ⟨some 7, .assign (.const (.bool true)), none⟩] [])
  .ret) (.seq (.reg [⟨some 48, .binOp .eql 3 (.tmp 8) (.const (.int .i64 112)) 3, none⟩,
    ⟨some 47, .assign (.tmp 48), none⟩] [])
  (.cond (.tmp 47) (.seq (.reg [⟨some 49, .move (.tmp 1), none⟩,
    ⟨some 50, .move (.tmp 2), none⟩,
    ⟨some 51, .binOp .and 23 (.tmp 50) (.const (.int .u32 31)) 23, none⟩,
    ⟨some 52, .binOp .shr 23 (.tmp 49) (.tmp 51) 23, none⟩,
    ⟨some 6, .assign (.tmp 52), none⟩,
    ⟨some 7, .assign (.const (.bool true)), none⟩] [])
  .ret) (.seq (.reg [⟨some 54, .binOp .eql 3 (.tmp 8) (.const (.int .i64 128)) 3, none⟩,
    ⟨some 53, .assign (.tmp 54), none⟩] [])
  (.cond (.tmp 53) (.seq (.reg [⟨some 55, .move (.tmp 1), none⟩,
    ⟨some 56, .unOp .neg 23 (.tmp 55), none⟩,
    ⟨some 6, .assign (.tmp 56), none⟩,
    ⟨some 7, .assign (.const (.bool true)), none⟩] [])
  .ret) (.seq (.reg [⟨some 58, .binOp .eql 3 (.tmp 8) (.const (.int .i64 160)) 3, none⟩,
    ⟨some 57, .assign (.tmp 58), none⟩] [])
  (.cond (.tmp 57) (.seq (.reg [⟨some 59, .move (.tmp 1), none⟩,
    ⟨some 60, .move (.tmp 2), none⟩,
    ⟨some 61, .binOp .xor 23 (.tmp 59) (.tmp 60) 23, none⟩,
    ⟨some 6, .assign (.tmp 61), none⟩,
    ⟨some 7, .assign (.const (.bool true)), none⟩] [])
  .ret) .skip))))))))))))))))))))))
  (.seq (.reg [⟨some 6, .assign (.const (.int .u32 0)), none⟩,
    ⟨some 7, .assign (.const (.bool false)), none⟩] [])
  .ret)))
theorem S43_eq : slimF Try.prog 43 = some (62, [.tmp 6, .tmp 7], S43) := by kernel_rfl

def S44L1 : SC :=
  (.seq (.seq (.reg [⟨some 22, .move (.tmp 14), none⟩,
    ⟨some 23, .binOp .lss 3 (.tmp 22) (.const (.int .i64 32)) 3, none⟩] [])
  (.cond (.tmp 23) .skip (.exit 0)))
  (.seq (.block 1 (.seq (.reg [⟨some 26, .move (.tmp 11), none⟩,
    ⟨some 27, .move (.tmp 14), none⟩,
    ⟨some 28, .indexAddr 52 (.tmp 26) (.tmp 27), none⟩,
    ⟨some 29, .load 3 (.tmp 28), none⟩,
    ⟨some 30, .move (.tmp 12), none⟩,
    ⟨some 31, .move (.tmp 14), none⟩,
    ⟨some 32, .indexAddr 52 (.tmp 30) (.tmp 31), none⟩,
    ⟨some 33, .load 3 (.tmp 32), none⟩,
    ⟨some 34, .binOp .add 3 (.tmp 29) (.tmp 33) 3, none⟩] [])
  (.block 2 (.seq (.reg [⟨some 40, .binOp .eql 3 (.tmp 34) (.const (.int .i64 0)) 3, none⟩,
    ⟨some 39, .assign (.tmp 40), none⟩] [])
  (.cond (.tmp 39) (.reg [⟨some 41, .move (.tmp 13), none⟩,
    ⟨some 42, .move (.tmp 14), none⟩,
    ⟨some 43, .move (.tmp 2), none⟩,
    ⟨some 44, .indexAddr 52 (.tmp 41) (.tmp 42), none⟩,
    ⟨none, .store 3 (.tmp 44) (.tmp 43), none⟩] []) (.seq (.reg [⟨some 46, .binOp .eql 3 (.tmp 34) (.const (.int .i64 1)) 3, none⟩,
    ⟨some 45, .assign (.tmp 46), none⟩] [])
  (.cond (.tmp 45) (.reg [⟨some 47, .move (.tmp 13), none⟩,
    ⟨some 48, .move (.tmp 14), none⟩,
    ⟨some 49, .move (.tmp 3), none⟩,
    ⟨some 50, .indexAddr 52 (.tmp 47) (.tmp 48), none⟩,
    ⟨none, .store 3 (.tmp 50) (.tmp 49), none⟩] []) (.reg [⟨some 35, .move (.tmp 13), none⟩,
    ⟨some 36, .move (.tmp 14), none⟩,
    ⟨some 37, .move (.tmp 4), none⟩,
    ⟨some 38, .indexAddr 52 (.tmp 35) (.tmp 36), none⟩,
    ⟨none, .store 3 (.tmp 38) (.tmp 37), none⟩] []))))))))
  (.reg [⟨some 24, .move (.tmp 14), none⟩,
    ⟨some 25, .binOp .add 3 (.tmp 24) (.const (.int .i64 1)) 3, none⟩,
    ⟨some 14, .assign (.tmp 25), none⟩] [])))
/-- tamis/tamisref01.both -/
def S44 : SC :=
  (.seq (.reg [⟨some 10, .assign (.const (.int .u32 0)), none⟩] [])
  (.seq (.reg [⟨some 15, .move (.tmp 0), none⟩,
    ⟨some 16, .convert 23 47 (.tmp 15), none⟩,
    ⟨some 17, .call { callee := .value (.func 45), args := #[.tmp 16], argTypes := #[47] }, none⟩,
    ⟨some 18, .move (.tmp 1), none⟩,
    ⟨some 19, .convert 23 47 (.tmp 18), none⟩,
    ⟨some 20, .call { callee := .value (.func 45), args := #[.tmp 19], argTypes := #[47] }, none⟩,
    ⟨some 11, .assign (.tmp 17), none⟩,
    ⟨some 12, .assign (.tmp 20), none⟩] [])
  (.seq (.reg [⟨some 21, .makeSlice 52 (.const (.int .i64 32)) (.const (.int .i64 32)), none⟩,
    ⟨some 13, .assign (.tmp 21), none⟩] [])
  (.seq (.seq (.reg [⟨some 14, .assign (.const (.int .i64 0)), none⟩] [])
  (.block 0 (.loop S44L1)))
  (.seq (.reg [⟨some 51, .move (.tmp 13), none⟩,
    ⟨some 52, .call { callee := .value (.func 46), args := #[.tmp 51], argTypes := #[52] }, none⟩,
    ⟨some 10, .assign (.tmp 52), none⟩] [])
  .ret)))))
theorem S44_eq : slimF Try.prog 44 = some (53, [.tmp 10], S44) := by kernel_rfl

def S45L1 : SC :=
  (.seq (.seq (.reg [⟨some 5, .move (.tmp 4), none⟩,
    ⟨some 6, .binOp .lss 3 (.tmp 5) (.const (.int .i64 64)) 3, none⟩] [])
  (.cond (.tmp 6) .skip (.exit 0)))
  (.seq (.block 1 (.reg [⟨some 9, .move (.tmp 3), none⟩,
    ⟨some 10, .move (.tmp 0), none⟩,
    ⟨some 11, .move (.tmp 4), none⟩,
    ⟨some 12, .binOp .shr 47 (.tmp 10) (.tmp 11) 3, none⟩,
    ⟨some 13, .binOp .rem 47 (.tmp 12) (.const (.int .u64 2)) 47, none⟩,
    ⟨some 14, .convert 47 3 (.tmp 13), none⟩,
    ⟨some 15, .buildSlice 52 1 #[(0, .tmp 14)], none⟩,
    ⟨some 16, .call { callee := .builtin .append, args := #[.tmp 9, .tmp 15], argTypes := #[52, 52] }, none⟩,
    ⟨some 3, .assign (.tmp 16), none⟩] []))
  (.reg [⟨some 7, .move (.tmp 4), none⟩,
    ⟨some 8, .binOp .add 3 (.tmp 7) (.const (.int .i64 1)) 3, none⟩,
    ⟨some 4, .assign (.tmp 8), none⟩] [])))
/-- tamis/tamisref01.bits -/
def S45 : SC :=
  (.seq (.reg [⟨some 2, .assign (.const (.slice none 0 0)), none⟩] [])
  (.seq (.reg [⟨some 3, .assign (.const (.slice none 0 0)), none⟩] [])
  (.seq (.seq (.reg [⟨some 4, .assign (.const (.int .i64 0)), none⟩] [])
  (.block 0 (.loop S45L1)))
  (.seq (.reg [⟨some 17, .move (.tmp 3), none⟩,
    ⟨some 2, .assign (.tmp 17), none⟩] [])
  .ret))))
theorem S45_eq : slimF Try.prog 45 = some (18, [.tmp 2], S45) := by kernel_rfl

def S46L1 : SC :=
  (.seq (.seq (.reg [⟨some 5, .move (.tmp 4), none⟩,
    ⟨some 6, .binOp .geq 3 (.tmp 5) (.const (.int .i64 0)) 3, none⟩] [])
  (.cond (.tmp 6) .skip (.exit 0)))
  (.seq (.block 1 (.reg [⟨some 9, .move (.tmp 3), none⟩,
    ⟨some 10, .binOp .mul 23 (.const (.int .u32 2)) (.tmp 9) 23, none⟩,
    ⟨some 11, .move (.tmp 0), none⟩,
    ⟨some 12, .move (.tmp 4), none⟩,
    ⟨some 13, .indexAddr 52 (.tmp 11) (.tmp 12), none⟩,
    ⟨some 14, .load 3 (.tmp 13), none⟩,
    ⟨some 15, .convert 3 23 (.tmp 14), none⟩,
    ⟨some 16, .binOp .add 23 (.tmp 10) (.tmp 15) 23, none⟩,
    ⟨some 3, .assign (.tmp 16), none⟩] []))
  (.reg [⟨some 7, .move (.tmp 4), none⟩,
    ⟨some 8, .binOp .sub 3 (.tmp 7) (.const (.int .i64 1)) 3, none⟩,
    ⟨some 4, .assign (.tmp 8), none⟩] [])))
/-- tamis/tamisref01.value -/
def S46 : SC :=
  (.seq (.reg [⟨some 2, .assign (.const (.int .u32 0)), none⟩] [])
  (.seq (.reg [⟨some 3, .assign (.const (.int .u32 0)), none⟩] [])
  (.seq (.seq (.reg [⟨some 4, .assign (.const (.int .i64 31)), none⟩] [])
  (.block 0 (.loop S46L1)))
  (.seq (.reg [⟨some 17, .move (.tmp 3), none⟩,
    ⟨some 2, .assign (.tmp 17), none⟩] [])
  .ret))))
theorem S46_eq : slimF Try.prog 46 = some (18, [.tmp 2], S46) := by kernel_rfl

end Go.Va
end
