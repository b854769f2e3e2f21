/- Part 2 of the proof: S0. -/
import Derived.KernelRfl
import Derived.Test.YtokbecghdofohaaProg
import Derived.Test.YtokbecghdofohaaVaK1
section
set_option maxRecDepth 100000
namespace Go.Va
open Go.Proofs

/-- tamis/tamislaw13.AtomHolds -/
def S3 : SC :=
  (.seq (.reg [⟨some 4, .box 24 (.tmp 1), none⟩,
    ⟨some 5, .box 27 (.tmp 2), none⟩,
    ⟨some 6, .assign (.const (.bool false)), none⟩] [])
  (.seq (.seq (.reg [⟨some 12, .call { callee := .value (.func 17), args := #[], argTypes := #[] }, none⟩,
    ⟨some 13, .unOp .not 4 (.tmp 12), none⟩,
    ⟨some 14, .move (.tmp 13), none⟩,
    ⟨some 15, .move (.tmp 0), some (14, false)⟩,
    ⟨some 16, .call { callee := .builtin .len, args := #[.tmp 15], argTypes := #[22] }, some (14, false)⟩,
    ⟨some 17, .binOp .gtr 3 (.tmp 16) (.const (.int .i64 200)) 3, some (14, false)⟩,
    ⟨some 18, .pick (.tmp 14) (.const (.bool true)) (.tmp 17), none⟩] [])
  (.cond (.tmp 18) (.seq (.reg [⟨some 19, .call { callee := .value (.func 17), args := #[], argTypes := #[] }, none⟩,
    ⟨some 6, .assign (.tmp 19), none⟩] [])
  .ret) .skip))
  (.seq (.reg [⟨some 20, .move (.tmp 0), none⟩,
    ⟨some 21, .load 24 (.tmp 4), none⟩,
    ⟨some 22, .call { callee := .value (.func 18), args := #[.tmp 20, .tmp 21], argTypes := #[22, 24] }, none⟩,
    ⟨some 7, .assign (.tmp 22), none⟩] [])
  (.seq (.reg [⟨some 24, .move (.tmp 0), none⟩,
    ⟨some 25, .load 24 (.tmp 4), none⟩,
    ⟨some 26, .load 27 (.tmp 5), none⟩,
    ⟨some 27, .call { callee := .value (.func 19), args := #[.tmp 24, .tmp 25, .tmp 26], argTypes := #[22, 24, 27] }, none⟩,
    ⟨some 23, .move (.tmp 27), none⟩,
    ⟨some 28, .extract (.tmp 23) 0, none⟩,
    ⟨some 29, .extract (.tmp 23) 1, none⟩,
    ⟨some 8, .assign (.tmp 28), none⟩,
    ⟨some 9, .assign (.tmp 29), none⟩] [])
  (.seq (.seq (.reg [⟨some 30, .buildSlice 22 0 #[], none⟩,
    ⟨some 31, .move (.tmp 0), none⟩,
    ⟨some 32, .call { callee := .builtin .append, args := #[.tmp 30, .tmp 31], argTypes := #[22, 22] }, none⟩,
    ⟨some 33, .load 24 (.tmp 4), none⟩,
    ⟨some 34, .call { callee := .value (.func 20), args := #[.tmp 32, .tmp 33], argTypes := #[22, 24] }, none⟩,
    ⟨some 35, .move (.tmp 7), none⟩,
    ⟨some 36, .binOp .neq 3 (.tmp 34) (.tmp 35) 3, none⟩,
    ⟨some 37, .move (.tmp 36), none⟩,
    ⟨some 38, .move (.tmp 9), some (37, false)⟩,
    ⟨some 39, .move (.tmp 7), some (37, false)⟩,
    ⟨some 40, .binOp .neq 3 (.tmp 38) (.tmp 39) 3, some (37, false)⟩,
    ⟨some 41, .pick (.tmp 37) (.const (.bool true)) (.tmp 40), none⟩] [(3, 0), (3, 2)])
  (.cond (.tmp 41) (.seq (.reg [⟨some 6, .assign (.const (.bool false)), none⟩] [])
  .ret) .skip))
  (.seq (.seq (.reg [⟨some 42, .move (.tmp 7), none⟩,
    ⟨some 43, .binOp .neq 3 (.tmp 42) (.const (.int .i64 0)) 3, none⟩] [])
  (.cond (.tmp 43) (.seq (.reg [⟨some 44, .move (.tmp 8), none⟩,
    ⟨some 45, .unOp .not 4 (.tmp 44), none⟩,
    ⟨some 6, .assign (.tmp 45), none⟩] [])
  .ret) .skip))
  (.seq (.reg [⟨some 47, .move (.tmp 0), none⟩,
    ⟨some 48, .load 24 (.tmp 4), none⟩,
    ⟨some 49, .call { callee := .value (.func 21), args := #[.tmp 48], argTypes := #[24] }, none⟩,
    ⟨some 50, .load 27 (.tmp 5), none⟩,
    ⟨some 51, .call { callee := .value (.func 19), args := #[.tmp 47, .tmp 49, .tmp 50], argTypes := #[22, 24, 27] }, none⟩,
    ⟨some 46, .move (.tmp 51), none⟩,
    ⟨some 52, .extract (.tmp 46) 0, none⟩,
    ⟨some 53, .extract (.tmp 46) 1, none⟩,
    ⟨some 10, .assign (.tmp 52), none⟩,
    ⟨some 11, .assign (.tmp 53), none⟩] [(3, 2)])
  (.seq (.reg [⟨some 54, .move (.tmp 8), none⟩,
    ⟨some 55, .move (.tmp 0), none⟩,
    ⟨some 56, .load 24 (.tmp 4), none⟩,
    ⟨some 57, .load 27 (.tmp 5), none⟩,
    ⟨some 58, .call { callee := .value (.func 22), args := #[.tmp 55, .tmp 56, .tmp 57], argTypes := #[22, 24, 27] }, none⟩,
    ⟨some 59, .binOp .eql 4 (.tmp 54) (.tmp 58) 4, none⟩,
    ⟨some 60, .move (.tmp 59), none⟩,
    ⟨some 61, .move (.tmp 11), some (60, true)⟩,
    ⟨some 62, .binOp .eql 30 (.tmp 61) (.const (.int .i64 0)) 30, some (60, true)⟩,
    ⟨some 63, .pick (.tmp 60) (.tmp 62) (.const (.bool false)), none⟩,
    ⟨some 64, .move (.tmp 63), none⟩,
    ⟨some 65, .move (.tmp 10), some (64, true)⟩,
    ⟨some 66, .move (.tmp 8), some (64, true)⟩,
    ⟨some 67, .binOp .neq 4 (.tmp 65) (.tmp 66) 4, some (64, true)⟩,
    ⟨some 68, .pick (.tmp 64) (.tmp 67) (.const (.bool false)), none⟩,
    ⟨some 6, .assign (.tmp 68), none⟩] [])
  .ret))))))))
theorem S3_eq : slimF Try.prog 3 = some (69, [.tmp 6], S3) := by kernel_rfl

/-- tamis/tamislaw13.AtomMake -/
def S4 : SC :=
  (.seq (.reg [⟨some 3, .box 24 (.tmp 1), none⟩,
    ⟨some 4, .assign (.const (.bool false)), none⟩] [])
  (.seq (.seq (.reg [⟨some 22, .call { callee := .value (.func 17), args := #[], argTypes := #[] }, none⟩,
    ⟨some 23, .unOp .not 4 (.tmp 22), none⟩,
    ⟨some 24, .move (.tmp 23), none⟩,
    ⟨some 25, .move (.tmp 0), some (24, false)⟩,
    ⟨some 26, .call { callee := .builtin .len, args := #[.tmp 25], argTypes := #[22] }, some (24, false)⟩,
    ⟨some 27, .binOp .gtr 3 (.tmp 26) (.const (.int .i64 60)) 3, some (24, false)⟩,
    ⟨some 28, .pick (.tmp 24) (.const (.bool true)) (.tmp 27), none⟩,
    ⟨some 29, .move (.tmp 28), none⟩,
    ⟨some 30, .move (.tmp 0), some (29, false)⟩,
    ⟨some 31, .call { callee := .value (.func 23), args := #[.tmp 30], argTypes := #[22] }, some (29, false)⟩,
    ⟨some 32, .unOp .not 4 (.tmp 31), some (29, false)⟩,
    ⟨some 33, .pick (.tmp 29) (.const (.bool true)) (.tmp 32), none⟩] [])
  (.cond (.tmp 33) (.seq (.reg [⟨some 34, .call { callee := .value (.func 17), args := #[], argTypes := #[] }, none⟩,
    ⟨some 4, .assign (.tmp 34), none⟩] [])
  .ret) .skip))
  (.seq (.reg [⟨some 36, .move (.tmp 0), none⟩,
    ⟨some 37, .call { callee := .value (.func 24), args := #[.const (.slice none 0 0), .tmp 36], argTypes := #[22, 22] }, none⟩,
    ⟨some 35, .move (.tmp 37), none⟩,
    ⟨some 38, .extract (.tmp 35) 0, none⟩,
    ⟨some 39, .extract (.tmp 35) 1, none⟩,
    ⟨some 5, .assign (.tmp 38), none⟩,
    ⟨some 6, .assign (.tmp 39), none⟩] [])
  (.seq (.seq (.reg [⟨some 40, .move (.tmp 5), none⟩,
    ⟨some 41, .load 24 (.tmp 3), none⟩,
    ⟨some 42, .call { callee := .value (.func 18), args := #[.tmp 40, .tmp 41], argTypes := #[22, 24] }, none⟩,
    ⟨some 7, .assign (.tmp 42), none⟩] [])
  (.seq (.reg [⟨some 43, .move (.tmp 7), none⟩,
    ⟨some 44, .binOp .neq 3 (.tmp 43) (.const (.int .i64 0)) 3, none⟩] [])
  (.cond (.tmp 44) (.seq (.reg [⟨some 46, .move (.tmp 5), none⟩,
    ⟨some 47, .call { callee := .value (.func 25), args := #[.tmp 46], argTypes := #[22] }, none⟩,
    ⟨some 45, .move (.tmp 47), none⟩,
    ⟨some 48, .extract (.tmp 45) 0, none⟩,
    ⟨some 49, .extract (.tmp 45) 1, none⟩,
    ⟨some 8, .assign (.tmp 48), none⟩,
    ⟨some 9, .assign (.tmp 49), none⟩] [])
  (.seq (.reg [⟨some 51, .move (.tmp 8), none⟩,
    ⟨some 52, .fieldAddr 24 (.tmp 3) 0, none⟩,
    ⟨some 53, .load 3 (.tmp 52), none⟩,
    ⟨some 54, .fieldAddr 24 (.tmp 3) 1, none⟩,
    ⟨some 55, .load 3 (.tmp 54), none⟩,
    ⟨some 56, .fieldAddr 24 (.tmp 3) 2, none⟩,
    ⟨some 57, .load 3 (.tmp 56), none⟩,
    ⟨some 58, .fieldAddr 24 (.tmp 3) 3, none⟩,
    ⟨some 59, .load 4 (.tmp 58), none⟩,
    ⟨some 60, .call { callee := .value (.func 26), args := #[.tmp 51, .tmp 53, .tmp 55, .tmp 57, .tmp 59], argTypes := #[40, 3, 3, 3, 4] }, none⟩,
    ⟨some 50, .move (.tmp 60), none⟩,
    ⟨some 61, .extract (.tmp 50) 0, none⟩,
    ⟨some 62, .extract (.tmp 50) 1, none⟩,
    ⟨some 63, .extract (.tmp 50) 2, none⟩,
    ⟨some 10, .alloc 24, none⟩,
    ⟨none, .store 24 (.tmp 10) (.tmp 61), none⟩,
    ⟨some 11, .assign (.tmp 62), none⟩,
    ⟨some 12, .assign (.tmp 63), none⟩] [])
  (.seq (.reg [⟨some 64, .move (.tmp 9), none⟩,
    ⟨some 65, .move (.tmp 64), none⟩,
    ⟨some 66, .move (.tmp 12), some (65, true)⟩,
    ⟨some 67, .move (.tmp 7), some (65, true)⟩,
    ⟨some 68, .binOp .eql 3 (.tmp 66) (.tmp 67) 3, some (65, true)⟩,
    ⟨some 69, .pick (.tmp 65) (.tmp 68) (.const (.bool false)), none⟩,
    ⟨some 70, .move (.tmp 69), none⟩,
    ⟨some 71, .move (.tmp 11), some (70, true)⟩,
    ⟨some 72, .binOp .eql 3 (.tmp 71) (.const (.int .i64 0)) 3, some (70, true)⟩,
    ⟨some 73, .pick (.tmp 70) (.tmp 72) (.const (.bool false)), none⟩,
    ⟨some 74, .move (.tmp 73), none⟩,
    ⟨some 75, .load 24 (.tmp 10), some (74, true)⟩,
    ⟨some 76, .build 24 #[], some (74, true)⟩,
    ⟨some 77, .binOp .eql 24 (.tmp 75) (.tmp 76) 24, some (74, true)⟩,
    ⟨some 78, .pick (.tmp 74) (.tmp 77) (.const (.bool false)), none⟩,
    ⟨some 4, .assign (.tmp 78), none⟩] [])
  .ret))) .skip)))
  (.seq (.reg [⟨some 80, .move (.tmp 5), none⟩,
    ⟨some 81, .fieldAddr 24 (.tmp 3) 0, none⟩,
    ⟨some 82, .load 3 (.tmp 81), none⟩,
    ⟨some 83, .fieldAddr 24 (.tmp 3) 1, none⟩,
    ⟨some 84, .load 3 (.tmp 83), none⟩,
    ⟨some 85, .fieldAddr 24 (.tmp 3) 2, none⟩,
    ⟨some 86, .load 3 (.tmp 85), none⟩,
    ⟨some 87, .build 47 #[(0, .tmp 84), (1, .tmp 86)], none⟩,
    ⟨some 88, .fieldAddr 24 (.tmp 3) 3, none⟩,
    ⟨some 89, .load 4 (.tmp 88), none⟩,
    ⟨some 90, .call { callee := .value (.func 27), args := #[.tmp 80, .tmp 82, .tmp 87, .tmp 89], argTypes := #[22, 3, 47, 4] }, none⟩,
    ⟨some 79, .move (.tmp 90), none⟩,
    ⟨some 91, .extract (.tmp 79) 0, none⟩,
    ⟨some 92, .extract (.tmp 79) 1, none⟩,
    ⟨some 93, .extract (.tmp 79) 2, none⟩,
    ⟨some 94, .extract (.tmp 79) 3, none⟩,
    ⟨some 13, .alloc 24, none⟩,
    ⟨none, .store 24 (.tmp 13) (.tmp 91), none⟩,
    ⟨some 14, .assign (.tmp 92), none⟩,
    ⟨some 15, .assign (.tmp 93), none⟩,
    ⟨some 16, .assign (.tmp 94), none⟩] [])
  (.seq (.reg [⟨some 96, .move (.tmp 5), none⟩,
    ⟨some 97, .fieldAddr 24 (.tmp 3) 0, none⟩,
    ⟨some 98, .load 3 (.tmp 97), none⟩,
    ⟨some 99, .fieldAddr 24 (.tmp 3) 1, none⟩,
    ⟨some 100, .load 3 (.tmp 99), none⟩,
    ⟨some 101, .fieldAddr 24 (.tmp 3) 2, none⟩,
    ⟨some 102, .load 3 (.tmp 101), none⟩,
    ⟨some 103, .fieldAddr 24 (.tmp 3) 3, none⟩,
    ⟨some 104, .load 4 (.tmp 103), none⟩,
    ⟨some 105, .call { callee := .value (.func 28), args := #[.tmp 96, .tmp 98, .tmp 100, .tmp 102, .tmp 104], argTypes := #[22, 3, 3, 3, 4] }, none⟩,
    ⟨some 95, .move (.tmp 105), none⟩,
    ⟨some 106, .extract (.tmp 95) 0, none⟩,
    ⟨some 107, .extract (.tmp 95) 1, none⟩,
    ⟨some 108, .extract (.tmp 95) 2, none⟩,
    ⟨some 18, .alloc 24, none⟩,
    ⟨some 17, .assign (.tmp 106), none⟩,
    ⟨none, .store 24 (.tmp 18) (.tmp 107), none⟩,
    ⟨some 19, .assign (.tmp 108), none⟩] [])
  (.seq (.seq (.reg [⟨some 109, .move (.tmp 16), none⟩,
    ⟨some 110, .unOp .not 4 (.tmp 109), none⟩,
    ⟨some 111, .move (.tmp 110), none⟩,
    ⟨some 112, .move (.tmp 14), some (111, false)⟩,
    ⟨some 113, .move (.tmp 19), some (111, false)⟩,
    ⟨some 114, .binOp .neq 3 (.tmp 112) (.tmp 113) 3, some (111, false)⟩,
    ⟨some 115, .pick (.tmp 111) (.const (.bool true)) (.tmp 114), none⟩] [])
  (.cond (.tmp 115) (.seq (.reg [⟨some 4, .assign (.const (.bool false)), none⟩] [])
  .ret) .skip))
  (.seq (.seq (.reg [⟨some 116, .move (.tmp 19), none⟩,
    ⟨some 117, .binOp .neq 3 (.tmp 116) (.const (.int .i64 1)) 3, none⟩] [])
  (.cond (.tmp 117) (.seq (.reg [⟨some 4, .assign (.const (.bool true)), none⟩] [])
  .ret) .skip))
  (.seq (.reg [⟨some 119, .buildSlice 22 0 #[], none⟩,
    ⟨some 120, .move (.tmp 17), none⟩,
    ⟨some 121, .call { callee := .builtin .append, args := #[.tmp 119, .tmp 120], argTypes := #[22, 22] }, none⟩,
    ⟨some 122, .move (.tmp 15), none⟩,
    ⟨some 123, .call { callee := .value (.func 24), args := #[.tmp 121, .tmp 122], argTypes := #[22, 22] }, none⟩,
    ⟨some 118, .move (.tmp 123), none⟩,
    ⟨some 124, .extract (.tmp 118) 0, none⟩,
    ⟨some 125, .extract (.tmp 118) 1, none⟩,
    ⟨some 20, .assign (.tmp 124), none⟩,
    ⟨some 21, .assign (.tmp 125), none⟩] [])
  (.seq (.reg [⟨some 126, .fieldAddr 24 (.tmp 13) 0, none⟩,
    ⟨some 127, .load 3 (.tmp 126), none⟩,
    ⟨some 128, .fieldAddr 24 (.tmp 18) 0, none⟩,
    ⟨some 129, .load 3 (.tmp 128), none⟩,
    ⟨some 130, .binOp .eql 3 (.tmp 127) (.tmp 129) 3, none⟩,
    ⟨some 131, .move (.tmp 130), none⟩,
    ⟨some 132, .fieldAddr 24 (.tmp 13) 3, some (131, true)⟩,
    ⟨some 133, .load 4 (.tmp 132), some (131, true)⟩,
    ⟨some 134, .fieldAddr 24 (.tmp 18) 3, some (131, true)⟩,
    ⟨some 135, .load 4 (.tmp 134), some (131, true)⟩,
    ⟨some 136, .binOp .eql 4 (.tmp 133) (.tmp 135) 4, some (131, true)⟩,
    ⟨some 137, .pick (.tmp 131) (.tmp 136) (.const (.bool false)), none⟩,
    ⟨some 138, .move (.tmp 137), none⟩,
    ⟨some 139, .move (.tmp 21), some (138, true)⟩,
    ⟨some 140, .fieldAddr 24 (.tmp 13) 1, some (138, true)⟩,
    ⟨some 141, .load 3 (.tmp 140), some (138, true)⟩,
    ⟨some 142, .indexAddr 37 (.tmp 139) (.tmp 141), some (138, true)⟩,
    ⟨some 143, .load 3 (.tmp 142), some (138, true)⟩,
    ⟨some 144, .fieldAddr 24 (.tmp 18) 1, some (138, true)⟩,
    ⟨some 145, .load 3 (.tmp 144), some (138, true)⟩,
    ⟨some 146, .binOp .eql 3 (.tmp 143) (.tmp 145) 3, some (138, true)⟩,
    ⟨some 147, .pick (.tmp 138) (.tmp 146) (.const (.bool false)), none⟩,
    ⟨some 148, .move (.tmp 147), none⟩,
    ⟨some 149, .move (.tmp 21), some (148, true)⟩,
    ⟨some 150, .fieldAddr 24 (.tmp 13) 2, some (148, true)⟩,
    ⟨some 151, .load 3 (.tmp 150), some (148, true)⟩,
    ⟨some 152, .indexAddr 37 (.tmp 149) (.tmp 151), some (148, true)⟩,
    ⟨some 153, .load 3 (.tmp 152), some (148, true)⟩,
    ⟨some 154, .fieldAddr 24 (.tmp 18) 2, some (148, true)⟩,
    ⟨some 155, .load 3 (.tmp 154), some (148, true)⟩,
    ⟨some 156, .binOp .eql 3 (.tmp 153) (.tmp 155) 3, some (148, true)⟩,
    ⟨some 157, .pick (.tmp 148) (.tmp 156) (.const (.bool false)), none⟩,
    ⟨some 4, .assign (.tmp 157), none⟩] [])
  .ret))))))))))
theorem S4_eq : slimF Try.prog 4 = some (158, [.tmp 4], S4) := by kernel_rfl

/-- tamis/tamislaw13.AtomValue -/
def S5 : SC :=
  (.seq (.reg [⟨some 4, .box 24 (.tmp 1), none⟩,
    ⟨some 5, .box 27 (.tmp 2), none⟩,
    ⟨some 6, .assign (.const (.bool false)), none⟩] [])
  (.seq (.seq (.reg [⟨some 14, .call { callee := .value (.func 17), args := #[], argTypes := #[] }, none⟩,
    ⟨some 15, .unOp .not 4 (.tmp 14), none⟩,
    ⟨some 16, .move (.tmp 15), none⟩,
    ⟨some 17, .move (.tmp 0), some (16, false)⟩,
    ⟨some 18, .call { callee := .builtin .len, args := #[.tmp 17], argTypes := #[22] }, some (16, false)⟩,
    ⟨some 19, .binOp .gtr 3 (.tmp 18) (.const (.int .i64 60)) 3, some (16, false)⟩,
    ⟨some 20, .pick (.tmp 16) (.const (.bool true)) (.tmp 19), none⟩,
    ⟨some 21, .move (.tmp 20), none⟩,
    ⟨some 22, .move (.tmp 0), some (21, false)⟩,
    ⟨some 23, .call { callee := .value (.func 23), args := #[.tmp 22], argTypes := #[22] }, some (21, false)⟩,
    ⟨some 24, .unOp .not 4 (.tmp 23), some (21, false)⟩,
    ⟨some 25, .pick (.tmp 21) (.const (.bool true)) (.tmp 24), none⟩] [])
  (.cond (.tmp 25) (.seq (.reg [⟨some 26, .call { callee := .value (.func 17), args := #[], argTypes := #[] }, none⟩,
    ⟨some 6, .assign (.tmp 26), none⟩] [])
  .ret) .skip))
  (.seq (.reg [⟨some 28, .move (.tmp 0), none⟩,
    ⟨some 29, .call { callee := .value (.func 24), args := #[.const (.slice none 0 0), .tmp 28], argTypes := #[22, 22] }, none⟩,
    ⟨some 27, .move (.tmp 29), none⟩,
    ⟨some 30, .extract (.tmp 27) 0, none⟩,
    ⟨some 31, .extract (.tmp 27) 1, none⟩,
    ⟨some 7, .assign (.tmp 30), none⟩,
    ⟨some 8, .assign (.tmp 31), none⟩] [])
  (.seq (.seq (.reg [⟨some 32, .move (.tmp 7), none⟩,
    ⟨some 33, .load 24 (.tmp 4), none⟩,
    ⟨some 34, .call { callee := .value (.func 18), args := #[.tmp 32, .tmp 33], argTypes := #[22, 24] }, none⟩,
    ⟨some 35, .binOp .neq 3 (.tmp 34) (.const (.int .i64 0)) 3, none⟩] [])
  (.cond (.tmp 35) (.seq (.reg [⟨some 6, .assign (.const (.bool true)), none⟩] [])
  .ret) .skip))
  (.seq (.reg [⟨some 37, .move (.tmp 7), none⟩,
    ⟨some 38, .fieldAddr 24 (.tmp 4) 0, none⟩,
    ⟨some 39, .load 3 (.tmp 38), none⟩,
    ⟨some 40, .fieldAddr 24 (.tmp 4) 1, none⟩,
    ⟨some 41, .load 3 (.tmp 40), none⟩,
    ⟨some 42, .fieldAddr 24 (.tmp 4) 2, none⟩,
    ⟨some 43, .load 3 (.tmp 42), none⟩,
    ⟨some 44, .build 47 #[(0, .tmp 41), (1, .tmp 43)], none⟩,
    ⟨some 45, .fieldAddr 24 (.tmp 4) 3, none⟩,
    ⟨some 46, .load 4 (.tmp 45), none⟩,
    ⟨some 47, .call { callee := .value (.func 27), args := #[.tmp 37, .tmp 39, .tmp 44, .tmp 46], argTypes := #[22, 3, 47, 4] }, none⟩,
    ⟨some 36, .move (.tmp 47), none⟩,
    ⟨some 48, .extract (.tmp 36) 0, none⟩,
    ⟨some 49, .extract (.tmp 36) 1, none⟩,
    ⟨some 50, .extract (.tmp 36) 2, none⟩,
    ⟨some 51, .extract (.tmp 36) 3, none⟩,
    ⟨some 9, .alloc 24, none⟩,
    ⟨none, .store 24 (.tmp 9) (.tmp 48), none⟩,
    ⟨some 10, .assign (.tmp 49), none⟩,
    ⟨some 11, .assign (.tmp 50), none⟩,
    ⟨some 12, .assign (.tmp 51), none⟩] [])
  (.seq (.seq (.reg [⟨some 52, .move (.tmp 12), none⟩,
    ⟨some 53, .unOp .not 4 (.tmp 52), none⟩] [])
  (.cond (.tmp 53) (.seq (.reg [⟨some 6, .assign (.const (.bool false)), none⟩] [])
  .ret) .skip))
  (.seq (.reg [⟨some 54, .move (.tmp 7), none⟩,
    ⟨some 55, .load 24 (.tmp 4), none⟩,
    ⟨some 56, .load 27 (.tmp 5), none⟩,
    ⟨some 57, .call { callee := .value (.func 22), args := #[.tmp 54, .tmp 55, .tmp 56], argTypes := #[22, 24, 27] }, none⟩,
    ⟨some 13, .assign (.tmp 57), none⟩] [])
  (.seq (.seq (.reg [⟨some 58, .move (.tmp 10), none⟩,
    ⟨some 59, .binOp .neq 3 (.tmp 58) (.const (.int .i64 1)) 3, none⟩] [])
  (.cond (.tmp 59) (.seq (.reg [⟨some 60, .move (.tmp 13), none⟩,
    ⟨some 61, .move (.tmp 10), none⟩,
    ⟨some 62, .binOp .eql 3 (.tmp 61) (.const (.int .i64 2)) 3, none⟩,
    ⟨some 63, .binOp .eql 4 (.tmp 60) (.tmp 62) 4, none⟩,
    ⟨some 6, .assign (.tmp 63), none⟩] [])
  .ret) .skip))
  (.seq (.reg [⟨some 64, .move (.tmp 11), none⟩,
    ⟨some 65, .load 24 (.tmp 9), none⟩,
    ⟨some 66, .load 27 (.tmp 5), none⟩,
    ⟨some 67, .call { callee := .value (.func 22), args := #[.tmp 64, .tmp 65, .tmp 66], argTypes := #[22, 24, 27] }, none⟩,
    ⟨some 68, .move (.tmp 13), none⟩,
    ⟨some 69, .binOp .eql 4 (.tmp 67) (.tmp 68) 4, none⟩,
    ⟨some 6, .assign (.tmp 69), none⟩] [])
  .ret)))))))))
theorem S5_eq : slimF Try.prog 5 = some (70, [.tmp 6], S5) := by kernel_rfl

/-- tamis/tamislaw13.AtomTurned -/
def S6 : SC :=
  (.seq (.reg [⟨some 3, .box 24 (.tmp 1), none⟩,
    ⟨some 4, .assign (.const (.bool false)), none⟩] [])
  (.seq (.seq (.reg [⟨some 19, .call { callee := .value (.func 17), args := #[], argTypes := #[] }, none⟩,
    ⟨some 20, .unOp .not 4 (.tmp 19), none⟩,
    ⟨some 21, .move (.tmp 20), none⟩,
    ⟨some 22, .move (.tmp 0), some (21, false)⟩,
    ⟨some 23, .call { callee := .builtin .len, args := #[.tmp 22], argTypes := #[22] }, some (21, false)⟩,
    ⟨some 24, .binOp .gtr 3 (.tmp 23) (.const (.int .i64 60)) 3, some (21, false)⟩,
    ⟨some 25, .pick (.tmp 21) (.const (.bool true)) (.tmp 24), none⟩,
    ⟨some 26, .move (.tmp 25), none⟩,
    ⟨some 27, .move (.tmp 0), some (26, false)⟩,
    ⟨some 28, .call { callee := .value (.func 23), args := #[.tmp 27], argTypes := #[22] }, some (26, false)⟩,
    ⟨some 29, .unOp .not 4 (.tmp 28), some (26, false)⟩,
    ⟨some 30, .pick (.tmp 26) (.const (.bool true)) (.tmp 29), none⟩] [])
  (.cond (.tmp 30) (.seq (.reg [⟨some 31, .call { callee := .value (.func 17), args := #[], argTypes := #[] }, none⟩,
    ⟨some 4, .assign (.tmp 31), none⟩] [])
  .ret) .skip))
  (.seq (.reg [⟨some 33, .move (.tmp 0), none⟩,
    ⟨some 34, .call { callee := .value (.func 24), args := #[.const (.slice none 0 0), .tmp 33], argTypes := #[22, 22] }, none⟩,
    ⟨some 32, .move (.tmp 34), none⟩,
    ⟨some 35, .extract (.tmp 32) 0, none⟩,
    ⟨some 36, .extract (.tmp 32) 1, none⟩,
    ⟨some 5, .assign (.tmp 35), none⟩,
    ⟨some 6, .assign (.tmp 36), none⟩] [])
  (.seq (.seq (.reg [⟨some 37, .move (.tmp 5), none⟩,
    ⟨some 38, .load 24 (.tmp 3), none⟩,
    ⟨some 39, .call { callee := .value (.func 18), args := #[.tmp 37, .tmp 38], argTypes := #[22, 24] }, none⟩,
    ⟨some 40, .binOp .neq 3 (.tmp 39) (.const (.int .i64 0)) 3, none⟩] [])
  (.cond (.tmp 40) (.seq (.reg [⟨some 4, .assign (.const (.bool true)), none⟩] [])
  .ret) .skip))
  (.seq (.reg [⟨some 42, .move (.tmp 5), none⟩,
    ⟨some 43, .fieldAddr 24 (.tmp 3) 0, none⟩,
    ⟨some 44, .load 3 (.tmp 43), none⟩,
    ⟨some 45, .fieldAddr 24 (.tmp 3) 1, none⟩,
    ⟨some 46, .load 3 (.tmp 45), none⟩,
    ⟨some 47, .fieldAddr 24 (.tmp 3) 2, none⟩,
    ⟨some 48, .load 3 (.tmp 47), none⟩,
    ⟨some 49, .build 47 #[(0, .tmp 46), (1, .tmp 48)], none⟩,
    ⟨some 50, .fieldAddr 24 (.tmp 3) 3, none⟩,
    ⟨some 51, .load 4 (.tmp 50), none⟩,
    ⟨some 52, .call { callee := .value (.func 27), args := #[.tmp 42, .tmp 44, .tmp 49, .tmp 51], argTypes := #[22, 3, 47, 4] }, none⟩,
    ⟨some 41, .move (.tmp 52), none⟩,
    ⟨some 53, .extract (.tmp 41) 0, none⟩,
    ⟨some 54, .extract (.tmp 41) 1, none⟩,
    ⟨some 55, .extract (.tmp 41) 2, none⟩,
    ⟨some 56, .extract (.tmp 41) 3, none⟩,
    ⟨some 7, .alloc 24, none⟩,
    ⟨none, .store 24 (.tmp 7) (.tmp 53), none⟩,
    ⟨some 8, .assign (.tmp 54), none⟩,
    ⟨some 9, .assign (.tmp 55), none⟩,
    ⟨some 10, .assign (.tmp 56), none⟩] [])
  (.seq (.reg [⟨some 58, .move (.tmp 5), none⟩,
    ⟨some 59, .fieldAddr 24 (.tmp 3) 0, none⟩,
    ⟨some 60, .load 3 (.tmp 59), none⟩,
    ⟨some 61, .fieldAddr 24 (.tmp 3) 1, none⟩,
    ⟨some 62, .load 3 (.tmp 61), none⟩,
    ⟨some 63, .fieldAddr 24 (.tmp 3) 2, none⟩,
    ⟨some 64, .load 3 (.tmp 63), none⟩,
    ⟨some 65, .build 47 #[(0, .tmp 62), (1, .tmp 64)], none⟩,
    ⟨some 66, .fieldAddr 24 (.tmp 3) 3, none⟩,
    ⟨some 67, .load 4 (.tmp 66), none⟩,
    ⟨some 68, .unOp .not 4 (.tmp 67), none⟩,
    ⟨some 69, .call { callee := .value (.func 27), args := #[.tmp 58, .tmp 60, .tmp 65, .tmp 68], argTypes := #[22, 3, 47, 4] }, none⟩,
    ⟨some 57, .move (.tmp 69), none⟩,
    ⟨some 70, .extract (.tmp 57) 0, none⟩,
    ⟨some 71, .extract (.tmp 57) 1, none⟩,
    ⟨some 72, .extract (.tmp 57) 2, none⟩,
    ⟨some 73, .extract (.tmp 57) 3, none⟩,
    ⟨some 11, .alloc 24, none⟩,
    ⟨none, .store 24 (.tmp 11) (.tmp 70), none⟩,
    ⟨some 12, .assign (.tmp 71), none⟩,
    ⟨some 13, .assign (.tmp 72), none⟩,
    ⟨some 14, .assign (.tmp 73), none⟩] [])
  (.seq (.seq (.reg [⟨some 74, .move (.tmp 10), none⟩,
    ⟨some 75, .unOp .not 4 (.tmp 74), none⟩,
    ⟨some 76, .move (.tmp 75), none⟩,
    ⟨some 77, .move (.tmp 14), some (76, false)⟩,
    ⟨some 78, .unOp .not 4 (.tmp 77), some (76, false)⟩,
    ⟨some 79, .pick (.tmp 76) (.const (.bool true)) (.tmp 78), none⟩,
    ⟨some 80, .move (.tmp 79), none⟩,
    ⟨some 81, .move (.tmp 8), some (80, false)⟩,
    ⟨some 82, .binOp .eql 3 (.tmp 81) (.const (.int .i64 1)) 3, some (80, false)⟩,
    ⟨some 83, .move (.tmp 12), some (80, false)⟩,
    ⟨some 84, .binOp .eql 3 (.tmp 83) (.const (.int .i64 1)) 3, some (80, false)⟩,
    ⟨some 85, .binOp .neq 4 (.tmp 82) (.tmp 84) 4, some (80, false)⟩,
    ⟨some 86, .pick (.tmp 80) (.const (.bool true)) (.tmp 85), none⟩] [])
  (.cond (.tmp 86) (.seq (.reg [⟨some 4, .assign (.const (.bool false)), none⟩] [])
  .ret) .skip))
  (.seq (.seq (.reg [⟨some 87, .move (.tmp 8), none⟩,
    ⟨some 88, .binOp .neq 3 (.tmp 87) (.const (.int .i64 1)) 3, none⟩] [])
  (.cond (.tmp 88) (.seq (.reg [⟨some 89, .move (.tmp 8), none⟩,
    ⟨some 90, .move (.tmp 12), none⟩,
    ⟨some 91, .binOp .neq 3 (.tmp 89) (.tmp 90) 3, none⟩,
    ⟨some 4, .assign (.tmp 91), none⟩] [])
  .ret) .skip))
  (.seq (.reg [⟨some 93, .move (.tmp 9), none⟩,
    ⟨some 94, .call { callee := .value (.func 24), args := #[.const (.slice none 0 0), .tmp 93], argTypes := #[22, 22] }, none⟩,
    ⟨some 92, .move (.tmp 94), none⟩,
    ⟨some 95, .extract (.tmp 92) 0, none⟩,
    ⟨some 96, .extract (.tmp 92) 1, none⟩,
    ⟨some 15, .assign (.tmp 95), none⟩,
    ⟨some 16, .assign (.tmp 96), none⟩] [])
  (.seq (.reg [⟨some 98, .move (.tmp 15), none⟩,
    ⟨some 99, .move (.tmp 13), none⟩,
    ⟨some 100, .call { callee := .value (.func 24), args := #[.tmp 98, .tmp 99], argTypes := #[22, 22] }, none⟩,
    ⟨some 97, .move (.tmp 100), none⟩,
    ⟨some 101, .extract (.tmp 97) 0, none⟩,
    ⟨some 102, .extract (.tmp 97) 1, none⟩,
    ⟨some 17, .assign (.tmp 101), none⟩,
    ⟨some 18, .assign (.tmp 102), none⟩] [])
  (.seq (.reg [⟨some 103, .fieldAddr 24 (.tmp 7) 0, none⟩,
    ⟨some 104, .load 3 (.tmp 103), none⟩,
    ⟨some 105, .fieldAddr 24 (.tmp 11) 0, none⟩,
    ⟨some 106, .load 3 (.tmp 105), none⟩,
    ⟨some 107, .binOp .eql 3 (.tmp 104) (.tmp 106) 3, none⟩,
    ⟨some 108, .move (.tmp 107), none⟩,
    ⟨some 109, .fieldAddr 24 (.tmp 7) 3, some (108, true)⟩,
    ⟨some 110, .load 4 (.tmp 109), some (108, true)⟩,
    ⟨some 111, .fieldAddr 24 (.tmp 11) 3, some (108, true)⟩,
    ⟨some 112, .load 4 (.tmp 111), some (108, true)⟩,
    ⟨some 113, .binOp .neq 4 (.tmp 110) (.tmp 112) 4, some (108, true)⟩,
    ⟨some 114, .pick (.tmp 108) (.tmp 113) (.const (.bool false)), none⟩,
    ⟨some 115, .move (.tmp 114), none⟩,
    ⟨some 116, .move (.tmp 16), some (115, true)⟩,
    ⟨some 117, .fieldAddr 24 (.tmp 7) 1, some (115, true)⟩,
    ⟨some 118, .load 3 (.tmp 117), some (115, true)⟩,
    ⟨some 119, .indexAddr 37 (.tmp 116) (.tmp 118), some (115, true)⟩,
    ⟨some 120, .load 3 (.tmp 119), some (115, true)⟩,
    ⟨some 121, .move (.tmp 18), some (115, true)⟩,
    ⟨some 122, .fieldAddr 24 (.tmp 11) 1, some (115, true)⟩,
    ⟨some 123, .load 3 (.tmp 122), some (115, true)⟩,
    ⟨some 124, .indexAddr 37 (.tmp 121) (.tmp 123), some (115, true)⟩,
    ⟨some 125, .load 3 (.tmp 124), some (115, true)⟩,
    ⟨some 126, .binOp .eql 3 (.tmp 120) (.tmp 125) 3, some (115, true)⟩,
    ⟨some 127, .pick (.tmp 115) (.tmp 126) (.const (.bool false)), none⟩,
    ⟨some 128, .move (.tmp 127), none⟩,
    ⟨some 129, .move (.tmp 16), some (128, true)⟩,
    ⟨some 130, .fieldAddr 24 (.tmp 7) 2, some (128, true)⟩,
    ⟨some 131, .load 3 (.tmp 130), some (128, true)⟩,
    ⟨some 132, .indexAddr 37 (.tmp 129) (.tmp 131), some (128, true)⟩,
    ⟨some 133, .load 3 (.tmp 132), some (128, true)⟩,
    ⟨some 134, .move (.tmp 18), some (128, true)⟩,
    ⟨some 135, .fieldAddr 24 (.tmp 11) 2, some (128, true)⟩,
    ⟨some 136, .load 3 (.tmp 135), some (128, true)⟩,
    ⟨some 137, .indexAddr 37 (.tmp 134) (.tmp 136), some (128, true)⟩,
    ⟨some 138, .load 3 (.tmp 137), some (128, true)⟩,
    ⟨some 139, .binOp .eql 3 (.tmp 133) (.tmp 138) 3, some (128, true)⟩,
    ⟨some 140, .pick (.tmp 128) (.tmp 139) (.const (.bool false)), none⟩,
    ⟨some 4, .assign (.tmp 140), none⟩] [])
  .ret)))))))))))
theorem S6_eq : slimF Try.prog 6 = some (141, [.tmp 4], S6) := by kernel_rfl

/-- tamis/tamislaw13.AtomAgain -/
def S7 : SC :=
  (.seq (.reg [⟨some 3, .box 24 (.tmp 1), none⟩,
    ⟨some 4, .assign (.const (.bool false)), none⟩] [])
  (.seq (.seq (.reg [⟨some 15, .call { callee := .value (.func 17), args := #[], argTypes := #[] }, none⟩,
    ⟨some 16, .unOp .not 4 (.tmp 15), none⟩,
    ⟨some 17, .move (.tmp 16), none⟩,
    ⟨some 18, .move (.tmp 0), some (17, false)⟩,
    ⟨some 19, .call { callee := .builtin .len, args := #[.tmp 18], argTypes := #[22] }, some (17, false)⟩,
    ⟨some 20, .binOp .gtr 3 (.tmp 19) (.const (.int .i64 60)) 3, some (17, false)⟩,
    ⟨some 21, .pick (.tmp 17) (.const (.bool true)) (.tmp 20), none⟩,
    ⟨some 22, .move (.tmp 21), none⟩,
    ⟨some 23, .move (.tmp 0), some (22, false)⟩,
    ⟨some 24, .call { callee := .value (.func 23), args := #[.tmp 23], argTypes := #[22] }, some (22, false)⟩,
    ⟨some 25, .unOp .not 4 (.tmp 24), some (22, false)⟩,
    ⟨some 26, .pick (.tmp 22) (.const (.bool true)) (.tmp 25), none⟩] [])
  (.cond (.tmp 26) (.seq (.reg [⟨some 27, .call { callee := .value (.func 17), args := #[], argTypes := #[] }, none⟩,
    ⟨some 4, .assign (.tmp 27), none⟩] [])
  .ret) .skip))
  (.seq (.reg [⟨some 29, .move (.tmp 0), none⟩,
    ⟨some 30, .call { callee := .value (.func 24), args := #[.const (.slice none 0 0), .tmp 29], argTypes := #[22, 22] }, none⟩,
    ⟨some 28, .move (.tmp 30), none⟩,
    ⟨some 31, .extract (.tmp 28) 0, none⟩,
    ⟨some 32, .extract (.tmp 28) 1, none⟩,
    ⟨some 5, .assign (.tmp 31), none⟩,
    ⟨some 6, .assign (.tmp 32), none⟩] [])
  (.seq (.seq (.reg [⟨some 33, .move (.tmp 5), none⟩,
    ⟨some 34, .load 24 (.tmp 3), none⟩,
    ⟨some 35, .call { callee := .value (.func 18), args := #[.tmp 33, .tmp 34], argTypes := #[22, 24] }, none⟩,
    ⟨some 36, .binOp .neq 3 (.tmp 35) (.const (.int .i64 0)) 3, none⟩] [])
  (.cond (.tmp 36) (.seq (.reg [⟨some 4, .assign (.const (.bool true)), none⟩] [])
  .ret) .skip))
  (.seq (.reg [⟨some 38, .move (.tmp 5), none⟩,
    ⟨some 39, .fieldAddr 24 (.tmp 3) 0, none⟩,
    ⟨some 40, .load 3 (.tmp 39), none⟩,
    ⟨some 41, .fieldAddr 24 (.tmp 3) 1, none⟩,
    ⟨some 42, .load 3 (.tmp 41), none⟩,
    ⟨some 43, .fieldAddr 24 (.tmp 3) 2, none⟩,
    ⟨some 44, .load 3 (.tmp 43), none⟩,
    ⟨some 45, .build 47 #[(0, .tmp 42), (1, .tmp 44)], none⟩,
    ⟨some 46, .fieldAddr 24 (.tmp 3) 3, none⟩,
    ⟨some 47, .load 4 (.tmp 46), none⟩,
    ⟨some 48, .call { callee := .value (.func 27), args := #[.tmp 38, .tmp 40, .tmp 45, .tmp 47], argTypes := #[22, 3, 47, 4] }, none⟩,
    ⟨some 37, .move (.tmp 48), none⟩,
    ⟨some 49, .extract (.tmp 37) 0, none⟩,
    ⟨some 50, .extract (.tmp 37) 1, none⟩,
    ⟨some 51, .extract (.tmp 37) 2, none⟩,
    ⟨some 52, .extract (.tmp 37) 3, none⟩,
    ⟨some 7, .alloc 24, none⟩,
    ⟨none, .store 24 (.tmp 7) (.tmp 49), none⟩,
    ⟨some 8, .assign (.tmp 50), none⟩,
    ⟨some 9, .assign (.tmp 51), none⟩,
    ⟨some 10, .assign (.tmp 52), none⟩] [])
  (.seq (.seq (.reg [⟨some 53, .move (.tmp 10), none⟩,
    ⟨some 54, .unOp .not 4 (.tmp 53), none⟩,
    ⟨some 55, .move (.tmp 54), none⟩,
    ⟨some 56, .move (.tmp 8), some (55, false)⟩,
    ⟨some 57, .binOp .eql 3 (.tmp 56) (.const (.int .i64 1)) 3, some (55, false)⟩,
    ⟨some 58, .move (.tmp 57), some (55, false)⟩,
    ⟨some 59, .move (.tmp 5), some (58, true)⟩,
    ⟨some 60, .fieldAddr 24 (.tmp 3) 1, some (58, true)⟩,
    ⟨some 61, .load 3 (.tmp 60), some (58, true)⟩,
    ⟨some 62, .indexAddr 22 (.tmp 59) (.tmp 61), some (58, true)⟩,
    ⟨some 63, .fieldAddr 52 (.tmp 62) 0, some (58, true)⟩,
    ⟨some 64, .load 3 (.tmp 63), some (58, true)⟩,
    ⟨some 65, .binOp .eql 3 (.tmp 64) (.const (.int .i64 1)) 3, some (58, true)⟩,
    ⟨some 66, .pick (.tmp 58) (.tmp 65) (.const (.bool false)), some (55, false)⟩,
    ⟨some 67, .move (.tmp 66), some (55, false)⟩,
    ⟨some 68, .move (.tmp 5), some (67, true)⟩,
    ⟨some 69, .fieldAddr 24 (.tmp 3) 2, some (67, true)⟩,
    ⟨some 70, .load 3 (.tmp 69), some (67, true)⟩,
    ⟨some 71, .indexAddr 22 (.tmp 68) (.tmp 70), some (67, true)⟩,
    ⟨some 72, .fieldAddr 52 (.tmp 71) 0, some (67, true)⟩,
    ⟨some 73, .load 3 (.tmp 72), some (67, true)⟩,
    ⟨some 74, .binOp .eql 3 (.tmp 73) (.const (.int .i64 1)) 3, some (67, true)⟩,
    ⟨some 75, .pick (.tmp 67) (.tmp 74) (.const (.bool false)), some (55, false)⟩,
    ⟨some 76, .pick (.tmp 55) (.const (.bool true)) (.tmp 75), none⟩,
    ⟨some 77, .move (.tmp 76), none⟩,
    ⟨some 78, .move (.tmp 8), some (77, false)⟩,
    ⟨some 79, .binOp .eql 3 (.tmp 78) (.const (.int .i64 1)) 3, some (77, false)⟩,
    ⟨some 80, .move (.tmp 79), some (77, false)⟩,
    ⟨some 81, .fieldAddr 24 (.tmp 3) 1, some (80, true)⟩,
    ⟨some 82, .load 3 (.tmp 81), some (80, true)⟩,
    ⟨some 83, .fieldAddr 24 (.tmp 3) 2, some (80, true)⟩,
    ⟨some 84, .load 3 (.tmp 83), some (80, true)⟩,
    ⟨some 85, .binOp .eql 3 (.tmp 82) (.tmp 84) 3, some (80, true)⟩,
    ⟨some 86, .pick (.tmp 80) (.tmp 85) (.const (.bool false)), some (77, false)⟩,
    ⟨some 87, .move (.tmp 86), some (77, false)⟩,
    ⟨some 88, .fieldAddr 24 (.tmp 3) 0, some (87, true)⟩,
    ⟨some 89, .load 3 (.tmp 88), some (87, true)⟩,
    ⟨some 90, .binOp .neq 3 (.tmp 89) (.const (.int .i64 64)) 3, some (87, true)⟩,
    ⟨some 91, .pick (.tmp 87) (.tmp 90) (.const (.bool false)), some (77, false)⟩,
    ⟨some 92, .pick (.tmp 77) (.const (.bool true)) (.tmp 91), none⟩] [])
  (.cond (.tmp 92) (.seq (.reg [⟨some 4, .assign (.const (.bool false)), none⟩] [])
  .ret) .skip))
  (.seq (.seq (.reg [⟨some 93, .move (.tmp 8), none⟩,
    ⟨some 94, .binOp .neq 3 (.tmp 93) (.const (.int .i64 1)) 3, none⟩] [])
  (.cond (.tmp 94) (.seq (.reg [⟨some 4, .assign (.const (.bool true)), none⟩] [])
  .ret) .skip))
  (.seq (.reg [⟨some 96, .move (.tmp 9), none⟩,
    ⟨some 97, .fieldAddr 24 (.tmp 7) 0, none⟩,
    ⟨some 98, .load 3 (.tmp 97), none⟩,
    ⟨some 99, .fieldAddr 24 (.tmp 7) 1, none⟩,
    ⟨some 100, .load 3 (.tmp 99), none⟩,
    ⟨some 101, .fieldAddr 24 (.tmp 7) 2, none⟩,
    ⟨some 102, .load 3 (.tmp 101), none⟩,
    ⟨some 103, .build 47 #[(0, .tmp 100), (1, .tmp 102)], none⟩,
    ⟨some 104, .fieldAddr 24 (.tmp 7) 3, none⟩,
    ⟨some 105, .load 4 (.tmp 104), none⟩,
    ⟨some 106, .call { callee := .value (.func 27), args := #[.tmp 96, .tmp 98, .tmp 103, .tmp 105], argTypes := #[22, 3, 47, 4] }, none⟩,
    ⟨some 95, .move (.tmp 106), none⟩,
    ⟨some 107, .extract (.tmp 95) 0, none⟩,
    ⟨some 108, .extract (.tmp 95) 1, none⟩,
    ⟨some 109, .extract (.tmp 95) 2, none⟩,
    ⟨some 110, .extract (.tmp 95) 3, none⟩,
    ⟨some 11, .alloc 24, none⟩,
    ⟨none, .store 24 (.tmp 11) (.tmp 107), none⟩,
    ⟨some 12, .assign (.tmp 108), none⟩,
    ⟨some 13, .assign (.tmp 109), none⟩,
    ⟨some 14, .assign (.tmp 110), none⟩] [])
  (.seq (.reg [⟨some 111, .move (.tmp 14), none⟩,
    ⟨some 112, .move (.tmp 111), none⟩,
    ⟨some 113, .move (.tmp 12), some (112, true)⟩,
    ⟨some 114, .binOp .eql 3 (.tmp 113) (.const (.int .i64 1)) 3, some (112, true)⟩,
    ⟨some 115, .pick (.tmp 112) (.tmp 114) (.const (.bool false)), none⟩,
    ⟨some 116, .move (.tmp 115), none⟩,
    ⟨some 117, .load 24 (.tmp 7), some (116, true)⟩,
    ⟨some 118, .load 24 (.tmp 11), some (116, true)⟩,
    ⟨some 119, .binOp .eql 24 (.tmp 117) (.tmp 118) 24, some (116, true)⟩,
    ⟨some 120, .pick (.tmp 116) (.tmp 119) (.const (.bool false)), none⟩,
    ⟨some 121, .move (.tmp 120), none⟩,
    ⟨some 122, .move (.tmp 9), some (121, true)⟩,
    ⟨some 123, .fieldAddr 24 (.tmp 7) 1, some (121, true)⟩,
    ⟨some 124, .load 3 (.tmp 123), some (121, true)⟩,
    ⟨some 125, .indexAddr 22 (.tmp 122) (.tmp 124), some (121, true)⟩,
    ⟨some 126, .fieldAddr 52 (.tmp 125) 0, some (121, true)⟩,
    ⟨some 127, .load 3 (.tmp 126), some (121, true)⟩,
    ⟨some 128, .binOp .neq 3 (.tmp 127) (.const (.int .i64 1)) 3, some (121, true)⟩,
    ⟨some 129, .pick (.tmp 121) (.tmp 128) (.const (.bool false)), none⟩,
    ⟨some 4, .assign (.tmp 129), none⟩] [])
  .ret)))))))))
theorem S7_eq : slimF Try.prog 7 = some (130, [.tmp 4], S7) := by kernel_rfl

/-- tamis/tamislaw13.AtomSides -/
def S8 : SC :=
  (.seq (.reg [⟨some 4, .box 47 (.tmp 1), none⟩,
    ⟨some 5, .box 27 (.tmp 2), none⟩,
    ⟨some 6, .assign (.const (.bool false)), none⟩] [])
  (.seq (.seq (.reg [⟨some 17, .call { callee := .value (.func 17), args := #[], argTypes := #[] }, none⟩,
    ⟨some 18, .unOp .not 4 (.tmp 17), none⟩,
    ⟨some 19, .move (.tmp 18), none⟩,
    ⟨some 20, .move (.tmp 0), some (19, false)⟩,
    ⟨some 21, .call { callee := .builtin .len, args := #[.tmp 20], argTypes := #[22] }, some (19, false)⟩,
    ⟨some 22, .binOp .gtr 3 (.tmp 21) (.const (.int .i64 60)) 3, some (19, false)⟩,
    ⟨some 23, .pick (.tmp 19) (.const (.bool true)) (.tmp 22), none⟩,
    ⟨some 24, .move (.tmp 23), none⟩,
    ⟨some 25, .move (.tmp 0), some (24, false)⟩,
    ⟨some 26, .call { callee := .value (.func 23), args := #[.tmp 25], argTypes := #[22] }, some (24, false)⟩,
    ⟨some 27, .unOp .not 4 (.tmp 26), some (24, false)⟩,
    ⟨some 28, .pick (.tmp 24) (.const (.bool true)) (.tmp 27), none⟩] [])
  (.cond (.tmp 28) (.seq (.reg [⟨some 29, .call { callee := .value (.func 17), args := #[], argTypes := #[] }, none⟩,
    ⟨some 6, .assign (.tmp 29), none⟩] [])
  .ret) .skip))
  (.seq (.reg [⟨some 31, .move (.tmp 0), none⟩,
    ⟨some 32, .call { callee := .value (.func 24), args := #[.const (.slice none 0 0), .tmp 31], argTypes := #[22, 22] }, none⟩,
    ⟨some 30, .move (.tmp 32), none⟩,
    ⟨some 33, .extract (.tmp 30) 0, none⟩,
    ⟨some 34, .extract (.tmp 30) 1, none⟩,
    ⟨some 7, .assign (.tmp 33), none⟩,
    ⟨some 8, .assign (.tmp 34), none⟩] [])
  (.seq (.seq (.reg [⟨some 35, .move (.tmp 7), none⟩,
    ⟨some 36, .indexAddr 47 (.tmp 4) (.const (.int .i64 0)), none⟩,
    ⟨some 37, .load 3 (.tmp 36), none⟩,
    ⟨some 38, .indexAddr 47 (.tmp 4) (.const (.int .i64 1)), none⟩,
    ⟨some 39, .load 3 (.tmp 38), none⟩,
    ⟨some 40, .build 24 #[(0, .const (.int .i64 16)), (1, .tmp 37), (2, .tmp 39)], none⟩,
    ⟨some 41, .call { callee := .value (.func 18), args := #[.tmp 35, .tmp 40], argTypes := #[22, 24] }, none⟩,
    ⟨some 42, .binOp .neq 3 (.tmp 41) (.const (.int .i64 0)) 3, none⟩] [])
  (.cond (.tmp 42) (.seq (.reg [⟨some 6, .assign (.const (.bool true)), none⟩] [])
  .ret) .skip))
  (.seq (.reg [⟨some 44, .move (.tmp 7), none⟩,
    ⟨some 45, .load 47 (.tmp 4), none⟩,
    ⟨some 46, .load 27 (.tmp 5), none⟩,
    ⟨some 47, .call { callee := .value (.func 29), args := #[.tmp 44, .const (.int .i64 32), .tmp 45, .const (.bool false), .tmp 46], argTypes := #[22, 3, 47, 4, 27] }, none⟩,
    ⟨some 43, .move (.tmp 47), none⟩,
    ⟨some 48, .extract (.tmp 43) 0, none⟩,
    ⟨some 49, .extract (.tmp 43) 1, none⟩,
    ⟨some 9, .assign (.tmp 48), none⟩,
    ⟨some 10, .assign (.tmp 49), none⟩] [])
  (.seq (.reg [⟨some 51, .move (.tmp 7), none⟩,
    ⟨some 52, .indexAddr 47 (.tmp 4) (.const (.int .i64 1)), none⟩,
    ⟨some 53, .load 3 (.tmp 52), none⟩,
    ⟨some 54, .indexAddr 47 (.tmp 4) (.const (.int .i64 0)), none⟩,
    ⟨some 55, .load 3 (.tmp 54), none⟩,
    ⟨some 56, .build 47 #[(0, .tmp 53), (1, .tmp 55)], none⟩,
    ⟨some 57, .load 27 (.tmp 5), none⟩,
    ⟨some 58, .call { callee := .value (.func 29), args := #[.tmp 51, .const (.int .i64 48), .tmp 56, .const (.bool true), .tmp 57], argTypes := #[22, 3, 47, 4, 27] }, none⟩,
    ⟨some 50, .move (.tmp 58), none⟩,
    ⟨some 59, .extract (.tmp 50) 0, none⟩,
    ⟨some 60, .extract (.tmp 50) 1, none⟩,
    ⟨some 11, .assign (.tmp 59), none⟩,
    ⟨some 12, .assign (.tmp 60), none⟩] [])
  (.seq (.reg [⟨some 62, .move (.tmp 7), none⟩,
    ⟨some 63, .load 47 (.tmp 4), none⟩,
    ⟨some 64, .load 27 (.tmp 5), none⟩,
    ⟨some 65, .call { callee := .value (.func 29), args := #[.tmp 62, .const (.int .i64 48), .tmp 63, .const (.bool false), .tmp 64], argTypes := #[22, 3, 47, 4, 27] }, none⟩,
    ⟨some 61, .move (.tmp 65), none⟩,
    ⟨some 66, .extract (.tmp 61) 0, none⟩,
    ⟨some 67, .extract (.tmp 61) 1, none⟩,
    ⟨some 13, .assign (.tmp 66), none⟩,
    ⟨some 14, .assign (.tmp 67), none⟩] [])
  (.seq (.reg [⟨some 69, .move (.tmp 7), none⟩,
    ⟨some 70, .indexAddr 47 (.tmp 4) (.const (.int .i64 1)), none⟩,
    ⟨some 71, .load 3 (.tmp 70), none⟩,
    ⟨some 72, .indexAddr 47 (.tmp 4) (.const (.int .i64 0)), none⟩,
    ⟨some 73, .load 3 (.tmp 72), none⟩,
    ⟨some 74, .build 47 #[(0, .tmp 71), (1, .tmp 73)], none⟩,
    ⟨some 75, .load 27 (.tmp 5), none⟩,
    ⟨some 76, .call { callee := .value (.func 29), args := #[.tmp 69, .const (.int .i64 16), .tmp 74, .const (.bool false), .tmp 75], argTypes := #[22, 3, 47, 4, 27] }, none⟩,
    ⟨some 68, .move (.tmp 76), none⟩,
    ⟨some 77, .extract (.tmp 68) 0, none⟩,
    ⟨some 78, .extract (.tmp 68) 1, none⟩,
    ⟨some 15, .assign (.tmp 77), none⟩,
    ⟨some 16, .assign (.tmp 78), none⟩] [])
  (.seq (.reg [⟨some 79, .move (.tmp 10), none⟩,
    ⟨some 80, .move (.tmp 79), none⟩,
    ⟨some 81, .move (.tmp 12), some (80, true)⟩,
    ⟨some 82, .pick (.tmp 80) (.tmp 81) (.const (.bool false)), none⟩,
    ⟨some 83, .move (.tmp 82), none⟩,
    ⟨some 84, .move (.tmp 14), some (83, true)⟩,
    ⟨some 85, .pick (.tmp 83) (.tmp 84) (.const (.bool false)), none⟩,
    ⟨some 86, .move (.tmp 85), none⟩,
    ⟨some 87, .move (.tmp 16), some (86, true)⟩,
    ⟨some 88, .pick (.tmp 86) (.tmp 87) (.const (.bool false)), none⟩,
    ⟨some 89, .move (.tmp 88), none⟩,
    ⟨some 90, .move (.tmp 9), some (89, true)⟩,
    ⟨some 91, .move (.tmp 11), some (89, true)⟩,
    ⟨some 92, .binOp .eql 4 (.tmp 90) (.tmp 91) 4, some (89, true)⟩,
    ⟨some 93, .pick (.tmp 89) (.tmp 92) (.const (.bool false)), none⟩,
    ⟨some 94, .move (.tmp 93), none⟩,
    ⟨some 95, .move (.tmp 9), some (94, true)⟩,
    ⟨some 96, .move (.tmp 13), some (94, true)⟩,
    ⟨some 97, .move (.tmp 96), some (94, true)⟩,
    ⟨some 98, .move (.tmp 15), some (97, true)⟩,
    ⟨some 99, .unOp .not 4 (.tmp 98), some (97, true)⟩,
    ⟨some 100, .pick (.tmp 97) (.tmp 99) (.const (.bool false)), some (94, true)⟩,
    ⟨some 101, .binOp .eql 4 (.tmp 95) (.tmp 100) 4, some (94, true)⟩,
    ⟨some 102, .pick (.tmp 94) (.tmp 101) (.const (.bool false)), none⟩,
    ⟨some 103, .move (.tmp 102), none⟩,
    ⟨some 104, .move (.tmp 15), some (103, true)⟩,
    ⟨some 105, .unOp .not 4 (.tmp 104), some (103, true)⟩,
    ⟨some 106, .move (.tmp 105), some (103, true)⟩,
    ⟨some 107, .move (.tmp 13), some (106, false)⟩,
    ⟨some 108, .pick (.tmp 106) (.const (.bool true)) (.tmp 107), some (103, true)⟩,
    ⟨some 109, .pick (.tmp 103) (.tmp 108) (.const (.bool false)), none⟩,
    ⟨some 6, .assign (.tmp 109), none⟩] [])
  .ret)))))))))
theorem S8_eq : slimF Try.prog 8 = some (110, [.tmp 6], S8) := by kernel_rfl

/-- tamis/tamislaw13.AtomBits -/
def S9 : SC :=
  (.seq (.reg [⟨some 1, .box 57 (.tmp 0), none⟩,
    ⟨some 2, .assign (.const (.bool false)), none⟩] [])
  (.seq (.reg [⟨some 17, .fieldAddr 57 (.tmp 1) 0, none⟩,
    ⟨some 18, .load 25 (.tmp 17), none⟩,
    ⟨some 19, .binOp .rem 25 (.tmp 18) (.const (.int .u32 16)) 25, none⟩,
    ⟨some 20, .fieldAddr 57 (.tmp 1) 1, none⟩,
    ⟨some 21, .load 25 (.tmp 20), none⟩,
    ⟨some 22, .fieldAddr 57 (.tmp 1) 2, none⟩,
    ⟨some 23, .load 25 (.tmp 22), none⟩,
    ⟨some 24, .fieldAddr 57 (.tmp 1) 3, none⟩,
    ⟨some 25, .load 27 (.tmp 24), none⟩,
    ⟨some 6, .alloc 27, none⟩,
    ⟨some 3, .assign (.tmp 19), none⟩,
    ⟨some 4, .assign (.tmp 21), none⟩,
    ⟨some 5, .assign (.tmp 23), none⟩,
    ⟨none, .store 27 (.tmp 6) (.tmp 25), none⟩] [(1, 9), (4, 9), (6, 9), (8, 9)])
  (.seq (.reg [⟨some 26, .move (.tmp 3), none⟩,
    ⟨some 27, .build 52 #[(0, .const (.int .i64 2)), (3, .tmp 26)], none⟩,
    ⟨some 28, .move (.tmp 4), none⟩,
    ⟨some 29, .build 52 #[(0, .const (.int .i64 1)), (3, .tmp 28)], none⟩,
    ⟨some 30, .build 52 #[(0, .const (.int .i64 336)), (1, .const (.int .i64 0)), (2, .const (.int .i64 1))], none⟩,
    ⟨some 31, .buildSlice 22 3 #[(0, .tmp 27), (1, .tmp 29), (2, .tmp 30)], none⟩,
    ⟨some 7, .assign (.tmp 31), none⟩] [])
  (.seq (.reg [⟨some 8, .assign (.const (.int .i64 1)), none⟩] [])
  (.seq (.seq (.reg [⟨some 32, .move (.tmp 4), none⟩,
    ⟨some 33, .move (.tmp 5), none⟩,
    ⟨some 34, .binOp .neq 25 (.tmp 32) (.tmp 33) 25, none⟩] [])
  (.cond (.tmp 34) (.seq (.reg [⟨some 35, .move (.tmp 7), none⟩,
    ⟨some 36, .move (.tmp 5), none⟩,
    ⟨some 37, .build 52 #[(0, .const (.int .i64 1)), (3, .tmp 36)], none⟩,
    ⟨some 38, .buildSlice 22 1 #[(0, .tmp 37)], none⟩,
    ⟨some 39, .call { callee := .builtin .append, args := #[.tmp 35, .tmp 38], argTypes := #[22, 22] }, none⟩,
    ⟨some 7, .assign (.tmp 39), none⟩] [])
  (.reg [⟨some 8, .assign (.const (.int .i64 3)), none⟩] [])) .skip))
  (.seq (.reg [⟨some 41, .move (.tmp 7), none⟩,
    ⟨some 42, .move (.tmp 8), none⟩,
    ⟨some 43, .build 47 #[(0, .const (.int .i64 2)), (1, .tmp 42)], none⟩,
    ⟨some 44, .call { callee := .value (.func 27), args := #[.tmp 41, .const (.int .i64 16), .tmp 43, .const (.bool false)], argTypes := #[22, 3, 47, 4] }, none⟩,
    ⟨some 40, .move (.tmp 44), none⟩,
    ⟨some 45, .extract (.tmp 40) 0, none⟩,
    ⟨some 46, .extract (.tmp 40) 1, none⟩,
    ⟨some 47, .extract (.tmp 40) 2, none⟩,
    ⟨some 48, .extract (.tmp 40) 3, none⟩,
    ⟨some 9, .alloc 24, none⟩,
    ⟨none, .store 24 (.tmp 9) (.tmp 45), none⟩,
    ⟨some 10, .assign (.tmp 46), none⟩,
    ⟨some 11, .assign (.tmp 47), none⟩,
    ⟨some 12, .assign (.tmp 48), none⟩] [])
  (.seq (.seq (.reg [⟨some 49, .call { callee := .value (.func 17), args := #[], argTypes := #[] }, none⟩,
    ⟨some 50, .unOp .not 4 (.tmp 49), none⟩,
    ⟨some 51, .move (.tmp 50), none⟩,
    ⟨some 52, .move (.tmp 12), some (51, false)⟩,
    ⟨some 53, .unOp .not 4 (.tmp 52), some (51, false)⟩,
    ⟨some 54, .pick (.tmp 51) (.const (.bool true)) (.tmp 53), none⟩] [])
  (.cond (.tmp 54) (.seq (.reg [⟨some 2, .assign (.const (.bool false)), none⟩] [])
  .ret) .skip))
  (.seq (.reg [⟨some 56, .move (.tmp 4), none⟩,
    ⟨some 57, .move (.tmp 5), none⟩,
    ⟨some 58, .call { callee := .value (.func 30), args := #[.const (.int .i64 80), .tmp 56, .tmp 57], argTypes := #[3, 25, 25] }, none⟩,
    ⟨some 55, .move (.tmp 58), none⟩,
    ⟨some 59, .extract (.tmp 55) 0, none⟩,
    ⟨some 60, .extract (.tmp 55) 1, none⟩,
    ⟨some 13, .assign (.tmp 59), none⟩,
    ⟨some 14, .assign (.tmp 60), none⟩] [])
  (.seq (.seq (.reg [⟨some 61, .move (.tmp 13), none⟩,
    ⟨some 62, .move (.tmp 5), none⟩,
    ⟨some 63, .binOp .neq 25 (.tmp 61) (.tmp 62) 25, none⟩] [])
  (.cond (.tmp 63) (.seq (.reg [⟨some 64, .move (.tmp 10), none⟩,
    ⟨some 65, .binOp .eql 3 (.tmp 64) (.const (.int .i64 3)) 3, none⟩,
    ⟨some 2, .assign (.tmp 65), none⟩] [])
  .ret) .skip))
  (.seq (.seq (.reg [⟨some 66, .move (.tmp 10), none⟩,
    ⟨some 67, .binOp .neq 3 (.tmp 66) (.const (.int .i64 1)) 3, none⟩] [])
  (.cond (.tmp 67) (.seq (.reg [⟨some 68, .move (.tmp 10), none⟩,
    ⟨some 69, .binOp .eql 3 (.tmp 68) (.const (.int .i64 2)) 3, none⟩,
    ⟨some 70, .move (.tmp 69), none⟩,
    ⟨some 71, .move (.tmp 4), some (70, true)⟩,
    ⟨some 72, .binOp .eql 25 (.tmp 71) (.const (.int .u32 0)) 25, some (70, true)⟩,
    ⟨some 73, .pick (.tmp 70) (.tmp 72) (.const (.bool false)), none⟩,
    ⟨some 2, .assign (.tmp 73), none⟩] [])
  .ret) .skip))
  (.seq (.reg [⟨some 75, .move (.tmp 3), none⟩,
    ⟨some 76, .indexAddr 27 (.tmp 6) (.tmp 75), none⟩,
    ⟨some 77, .load 25 (.tmp 76), none⟩,
    ⟨some 78, .move (.tmp 4), none⟩,
    ⟨some 79, .call { callee := .value (.func 30), args := #[.const (.int .i64 80), .tmp 77, .tmp 78], argTypes := #[3, 25, 25] }, none⟩,
    ⟨some 74, .move (.tmp 79), none⟩,
    ⟨some 80, .extract (.tmp 74) 0, none⟩,
    ⟨some 81, .extract (.tmp 74) 1, none⟩,
    ⟨some 15, .assign (.tmp 80), none⟩,
    ⟨some 16, .assign (.tmp 81), none⟩] [])
  (.seq (.reg [⟨some 82, .move (.tmp 11), none⟩,
    ⟨some 83, .load 24 (.tmp 9), none⟩,
    ⟨some 84, .load 27 (.tmp 6), none⟩,
    ⟨some 85, .call { callee := .value (.func 22), args := #[.tmp 82, .tmp 83, .tmp 84], argTypes := #[22, 24, 27] }, none⟩,
    ⟨some 86, .move (.tmp 15), none⟩,
    ⟨some 87, .move (.tmp 5), none⟩,
    ⟨some 88, .binOp .eql 25 (.tmp 86) (.tmp 87) 25, none⟩,
    ⟨some 89, .binOp .eql 4 (.tmp 85) (.tmp 88) 4, none⟩,
    ⟨some 2, .assign (.tmp 89), none⟩] [])
  .ret))))))))))))
theorem S9_eq : slimF Try.prog 9 = some (90, [.tmp 2], S9) := by kernel_rfl

/-- tamis/tamislaw12.SimpMake -/
def S10 : SC :=
  (.seq (.reg [⟨some 5, .box 47 (.tmp 2), none⟩,
    ⟨some 6, .assign (.const (.bool false)), none⟩] [])
  (.seq (.seq (.reg [⟨some 19, .call { callee := .value (.func 31), args := #[], argTypes := #[] }, none⟩,
    ⟨some 20, .unOp .not 4 (.tmp 19), none⟩,
    ⟨some 21, .move (.tmp 20), none⟩,
    ⟨some 22, .move (.tmp 0), some (21, false)⟩,
    ⟨some 23, .call { callee := .builtin .len, args := #[.tmp 22], argTypes := #[22] }, some (21, false)⟩,
    ⟨some 24, .binOp .gtr 3 (.tmp 23) (.const (.int .i64 60)) 3, some (21, false)⟩,
    ⟨some 25, .pick (.tmp 21) (.const (.bool true)) (.tmp 24), none⟩,
    ⟨some 26, .move (.tmp 25), none⟩,
    ⟨some 27, .move (.tmp 0), some (26, false)⟩,
    ⟨some 28, .call { callee := .value (.func 23), args := #[.tmp 27], argTypes := #[22] }, some (26, false)⟩,
    ⟨some 29, .unOp .not 4 (.tmp 28), some (26, false)⟩,
    ⟨some 30, .pick (.tmp 26) (.const (.bool true)) (.tmp 29), none⟩] [])
  (.cond (.tmp 30) (.seq (.reg [⟨some 31, .call { callee := .value (.func 31), args := #[], argTypes := #[] }, none⟩,
    ⟨some 6, .assign (.tmp 31), none⟩] [])
  .ret) .skip))
  (.seq (.reg [⟨some 33, .move (.tmp 0), none⟩,
    ⟨some 34, .call { callee := .value (.func 24), args := #[.const (.slice none 0 0), .tmp 33], argTypes := #[22, 22] }, none⟩,
    ⟨some 32, .move (.tmp 34), none⟩,
    ⟨some 35, .extract (.tmp 32) 0, none⟩,
    ⟨some 36, .extract (.tmp 32) 1, none⟩,
    ⟨some 7, .assign (.tmp 35), none⟩,
    ⟨some 8, .assign (.tmp 36), none⟩] [])
  (.seq (.reg [⟨some 38, .move (.tmp 7), none⟩,
    ⟨some 39, .call { callee := .value (.func 32), args := #[.tmp 38], argTypes := #[22] }, none⟩,
    ⟨some 37, .move (.tmp 39), none⟩,
    ⟨some 40, .extract (.tmp 37) 0, none⟩,
    ⟨some 41, .extract (.tmp 37) 1, none⟩,
    ⟨some 9, .assign (.tmp 40), none⟩,
    ⟨some 10, .assign (.tmp 41), none⟩] [])
  (.seq (.reg [⟨some 43, .move (.tmp 9), none⟩,
    ⟨some 44, .move (.tmp 1), none⟩,
    ⟨some 45, .indexAddr 47 (.tmp 5) (.const (.int .i64 0)), none⟩,
    ⟨some 46, .load 3 (.tmp 45), none⟩,
    ⟨some 47, .indexAddr 47 (.tmp 5) (.const (.int .i64 1)), none⟩,
    ⟨some 48, .load 3 (.tmp 47), none⟩,
    ⟨some 49, .call { callee := .value (.func 33), args := #[.tmp 43, .tmp 44, .tmp 46, .tmp 48], argTypes := #[40, 3, 3, 3] }, none⟩,
    ⟨some 42, .move (.tmp 49), none⟩,
    ⟨some 50, .extract (.tmp 42) 0, none⟩,
    ⟨some 51, .extract (.tmp 42) 1, none⟩,
    ⟨some 11, .assign (.tmp 50), none⟩,
    ⟨some 12, .assign (.tmp 51), none⟩] [])
  (.seq (.seq (.reg [⟨some 52, .move (.tmp 10), none⟩,
    ⟨some 53, .unOp .not 4 (.tmp 52), none⟩] [])
  (.cond (.tmp 53) (.seq (.reg [⟨some 6, .assign (.const (.bool false)), none⟩] [])
  .ret) .skip))
  (.seq (.seq (.reg [⟨some 54, .move (.tmp 1), none⟩,
    ⟨some 55, .call { callee := .value (.func 34), args := #[.tmp 54], argTypes := #[3] }, none⟩,
    ⟨some 56, .unOp .not 4 (.tmp 55), none⟩] [])
  (.cond (.tmp 56) (.seq (.reg [⟨some 57, .move (.tmp 11), none⟩,
    ⟨some 58, .binOp .eql 3 (.tmp 57) (.const (.int .i64 0)) 3, none⟩,
    ⟨some 59, .move (.tmp 58), none⟩,
    ⟨some 60, .move (.tmp 12), some (59, true)⟩,
    ⟨some 61, .binOp .eql 30 (.tmp 60) (.const (.int .i64 1)) 30, some (59, true)⟩,
    ⟨some 62, .pick (.tmp 59) (.tmp 61) (.const (.bool false)), none⟩,
    ⟨some 6, .assign (.tmp 62), none⟩] [])
  .ret) .skip))
  (.seq (.seq (.reg [⟨some 63, .indexAddr 47 (.tmp 5) (.const (.int .i64 0)), none⟩,
    ⟨some 64, .load 3 (.tmp 63), none⟩,
    ⟨some 65, .binOp .lss 3 (.tmp 64) (.const (.int .i64 0)) 3, none⟩,
    ⟨some 66, .move (.tmp 65), none⟩,
    ⟨some 67, .indexAddr 47 (.tmp 5) (.const (.int .i64 0)), some (66, false)⟩,
    ⟨some 68, .load 3 (.tmp 67), some (66, false)⟩,
    ⟨some 69, .move (.tmp 7), some (66, false)⟩,
    ⟨some 70, .call { callee := .builtin .len, args := #[.tmp 69], argTypes := #[22] }, some (66, false)⟩,
    ⟨some 71, .binOp .geq 3 (.tmp 68) (.tmp 70) 3, some (66, false)⟩,
    ⟨some 72, .pick (.tmp 66) (.const (.bool true)) (.tmp 71), none⟩,
    ⟨some 73, .move (.tmp 72), none⟩,
    ⟨some 74, .move (.tmp 1), some (73, false)⟩,
    ⟨some 75, .binOp .neq 3 (.tmp 74) (.const (.int .i64 128)) 3, some (73, false)⟩,
    ⟨some 76, .move (.tmp 75), some (73, false)⟩,
    ⟨some 77, .indexAddr 47 (.tmp 5) (.const (.int .i64 1)), some (76, true)⟩,
    ⟨some 78, .load 3 (.tmp 77), some (76, true)⟩,
    ⟨some 79, .binOp .lss 3 (.tmp 78) (.const (.int .i64 0)) 3, some (76, true)⟩,
    ⟨some 80, .move (.tmp 79), some (76, true)⟩,
    ⟨some 81, .indexAddr 47 (.tmp 5) (.const (.int .i64 1)), some (80, false)⟩,
    ⟨some 82, .load 3 (.tmp 81), some (80, false)⟩,
    ⟨some 83, .move (.tmp 7), some (80, false)⟩,
    ⟨some 84, .call { callee := .builtin .len, args := #[.tmp 83], argTypes := #[22] }, some (80, false)⟩,
    ⟨some 85, .binOp .geq 3 (.tmp 82) (.tmp 84) 3, some (80, false)⟩,
    ⟨some 86, .pick (.tmp 80) (.const (.bool true)) (.tmp 85), some (76, true)⟩,
    ⟨some 87, .pick (.tmp 76) (.tmp 86) (.const (.bool false)), some (73, false)⟩,
    ⟨some 88, .pick (.tmp 73) (.const (.bool true)) (.tmp 87), none⟩] [])
  (.cond (.tmp 88) (.seq (.reg [⟨some 89, .move (.tmp 11), none⟩,
    ⟨some 90, .binOp .eql 3 (.tmp 89) (.const (.int .i64 0)) 3, none⟩,
    ⟨some 91, .move (.tmp 90), none⟩,
    ⟨some 92, .move (.tmp 12), some (91, true)⟩,
    ⟨some 93, .binOp .eql 30 (.tmp 92) (.const (.int .i64 2)) 30, some (91, true)⟩,
    ⟨some 94, .pick (.tmp 91) (.tmp 93) (.const (.bool false)), none⟩,
    ⟨some 6, .assign (.tmp 94), none⟩] [])
  .ret) .skip))
  (.seq (.reg [⟨some 95, .indexAddr 47 (.tmp 5) (.const (.int .i64 1)), none⟩,
    ⟨some 96, .load 3 (.tmp 95), none⟩,
    ⟨some 13, .assign (.tmp 96), none⟩] [])
  (.seq (.seq (.reg [⟨some 97, .move (.tmp 1), none⟩,
    ⟨some 98, .binOp .eql 3 (.tmp 97) (.const (.int .i64 128)) 3, none⟩] [])
  (.cond (.tmp 98) (.reg [⟨some 13, .assign (.const (.int .i64 0)), none⟩] []) .skip))
  (.seq (.reg [⟨some 100, .move (.tmp 7), none⟩,
    ⟨some 101, .move (.tmp 1), none⟩,
    ⟨some 102, .indexAddr 47 (.tmp 5) (.const (.int .i64 0)), none⟩,
    ⟨some 103, .load 3 (.tmp 102), none⟩,
    ⟨some 104, .move (.tmp 13), none⟩,
    ⟨some 105, .call { callee := .value (.func 35), args := #[.tmp 100, .tmp 101, .tmp 103, .tmp 104], argTypes := #[22, 3, 3, 3] }, none⟩,
    ⟨some 99, .move (.tmp 105), none⟩,
    ⟨some 106, .extract (.tmp 99) 0, none⟩,
    ⟨some 107, .extract (.tmp 99) 1, none⟩,
    ⟨some 14, .assign (.tmp 106), none⟩,
    ⟨some 15, .assign (.tmp 107), none⟩] [])
  (.seq (.reg [⟨some 108, .move (.tmp 9), none⟩,
    ⟨some 109, .call { callee := .value (.func 36), args := #[.tmp 108], argTypes := #[40] }, none⟩,
    ⟨some 16, .assign (.tmp 109), none⟩] [])
  (.seq (.seq (.reg [⟨some 110, .move (.tmp 12), none⟩,
    ⟨some 111, .binOp .neq 30 (.tmp 110) (.const (.int .i64 0)) 30, none⟩,
    ⟨some 112, .move (.tmp 111), none⟩,
    ⟨some 113, .move (.tmp 11), some (112, false)⟩,
    ⟨some 114, .binOp .lss 3 (.tmp 113) (.const (.int .i64 0)) 3, some (112, false)⟩,
    ⟨some 115, .pick (.tmp 112) (.const (.bool true)) (.tmp 114), none⟩,
    ⟨some 116, .move (.tmp 115), none⟩,
    ⟨some 117, .move (.tmp 11), some (116, false)⟩,
    ⟨some 118, .move (.tmp 16), some (116, false)⟩,
    ⟨some 119, .call { callee := .builtin .len, args := #[.tmp 118], argTypes := #[22] }, some (116, false)⟩,
    ⟨some 120, .binOp .geq 3 (.tmp 117) (.tmp 119) 3, some (116, false)⟩,
    ⟨some 121, .pick (.tmp 116) (.const (.bool true)) (.tmp 120), none⟩,
    ⟨some 122, .move (.tmp 121), none⟩,
    ⟨some 123, .move (.tmp 16), some (122, false)⟩,
    ⟨some 124, .call { callee := .value (.func 23), args := #[.tmp 123], argTypes := #[22] }, some (122, false)⟩,
    ⟨some 125, .unOp .not 4 (.tmp 124), some (122, false)⟩,
    ⟨some 126, .pick (.tmp 122) (.const (.bool true)) (.tmp 125), none⟩,
    ⟨some 127, .move (.tmp 126), none⟩,
    ⟨some 128, .move (.tmp 16), some (127, false)⟩,
    ⟨some 129, .call { callee := .builtin .len, args := #[.tmp 128], argTypes := #[22] }, some (127, false)⟩,
    ⟨some 130, .move (.tmp 7), some (127, false)⟩,
    ⟨some 131, .call { callee := .builtin .len, args := #[.tmp 130], argTypes := #[22] }, some (127, false)⟩,
    ⟨some 132, .binOp .lss 3 (.tmp 129) (.tmp 131) 3, some (127, false)⟩,
    ⟨some 133, .pick (.tmp 127) (.const (.bool true)) (.tmp 132), none⟩,
    ⟨some 134, .move (.tmp 133), none⟩,
    ⟨some 135, .move (.tmp 16), some (134, false)⟩,
    ⟨some 136, .move (.tmp 7), some (134, false)⟩,
    ⟨some 137, .call { callee := .builtin .len, args := #[.tmp 136], argTypes := #[22] }, some (134, false)⟩,
    ⟨some 138, .slice 22 (.tmp 135) none (some (.tmp 137)) none, some (134, false)⟩,
    ⟨some 139, .move (.tmp 7), some (134, false)⟩,
    ⟨some 140, .call { callee := .value (.func 37), args := #[.tmp 138, .tmp 139], argTypes := #[22, 22] }, some (134, false)⟩,
    ⟨some 141, .unOp .not 4 (.tmp 140), some (134, false)⟩,
    ⟨some 142, .pick (.tmp 134) (.const (.bool true)) (.tmp 141), none⟩] [])
  (.cond (.tmp 142) (.seq (.reg [⟨some 6, .assign (.const (.bool false)), none⟩] [])
  .ret) .skip))
  (.seq (.reg [⟨some 144, .buildSlice 22 0 #[], none⟩,
    ⟨some 145, .move (.tmp 14), none⟩,
    ⟨some 146, .call { callee := .builtin .append, args := #[.tmp 144, .tmp 145], argTypes := #[22, 22] }, none⟩,
    ⟨some 147, .move (.tmp 16), none⟩,
    ⟨some 148, .call { callee := .value (.func 24), args := #[.tmp 146, .tmp 147], argTypes := #[22, 22] }, none⟩,
    ⟨some 143, .move (.tmp 148), none⟩,
    ⟨some 149, .extract (.tmp 143) 0, none⟩,
    ⟨some 150, .extract (.tmp 143) 1, none⟩,
    ⟨some 17, .assign (.tmp 149), none⟩,
    ⟨some 18, .assign (.tmp 150), none⟩] [])
  (.seq (.reg [⟨some 151, .move (.tmp 18), none⟩,
    ⟨some 152, .move (.tmp 11), none⟩,
    ⟨some 153, .indexAddr 37 (.tmp 151) (.tmp 152), none⟩,
    ⟨some 154, .load 3 (.tmp 153), none⟩,
    ⟨some 155, .move (.tmp 15), none⟩,
    ⟨some 156, .binOp .eql 3 (.tmp 154) (.tmp 155) 3, none⟩,
    ⟨some 6, .assign (.tmp 156), none⟩] [])
  .ret)))))))))))))))
theorem S10_eq : slimF Try.prog 10 = some (157, [.tmp 6], S10) := by kernel_rfl

def S11L1 : SC :=
  (.seq (.reg [⟨some 61, .binOp .lss 3 (.tmp 60) (.tmp 59) 3, none⟩] [])
  (.seq (.cond (.tmp 61) .skip (.exit 0))
  (.seq (.block 1 (.seq (.reg [⟨some 62, .move (.tmp 60), none⟩,
    ⟨some 12, .assign (.tmp 62), none⟩] [])
  (.seq (.reg [⟨some 63, .move (.tmp 7), none⟩,
    ⟨some 64, .call { callee := .builtin .len, args := #[.tmp 63], argTypes := #[22] }, none⟩,
    ⟨some 65, .binOp .sub 3 (.tmp 64) (.const (.int .i64 1)) 3, none⟩,
    ⟨some 66, .move (.tmp 12), none⟩,
    ⟨some 67, .binOp .sub 3 (.tmp 65) (.tmp 66) 3, none⟩,
    ⟨some 13, .assign (.tmp 67), none⟩] [])
  (.seq (.reg [⟨some 69, .move (.tmp 9), none⟩,
    ⟨some 70, .move (.tmp 2), none⟩,
    ⟨some 71, .move (.tmp 12), none⟩,
    ⟨some 72, .move (.tmp 13), none⟩,
    ⟨some 73, .call { callee := .value (.func 33), args := #[.tmp 69, .tmp 70, .tmp 71, .tmp 72], argTypes := #[40, 3, 3, 3] }, none⟩,
    ⟨some 68, .move (.tmp 73), none⟩,
    ⟨some 74, .extract (.tmp 68) 0, none⟩,
    ⟨some 75, .extract (.tmp 68) 1, none⟩,
    ⟨some 14, .assign (.tmp 74), none⟩,
    ⟨some 15, .assign (.tmp 75), none⟩] [])
  (.seq (.reg [⟨some 77, .move (.tmp 2), none⟩,
    ⟨some 78, .move (.tmp 11), none⟩,
    ⟨some 79, .move (.tmp 12), none⟩,
    ⟨some 80, .indexAddr 69 (.tmp 78) (.tmp 79), none⟩,
    ⟨some 81, .load 25 (.tmp 80), none⟩,
    ⟨some 82, .move (.tmp 11), none⟩,
    ⟨some 83, .move (.tmp 13), none⟩,
    ⟨some 84, .indexAddr 69 (.tmp 82) (.tmp 83), none⟩,
    ⟨some 85, .load 25 (.tmp 84), none⟩,
    ⟨some 86, .call { callee := .value (.func 30), args := #[.tmp 77, .tmp 81, .tmp 85], argTypes := #[3, 25, 25] }, none⟩,
    ⟨some 76, .move (.tmp 86), none⟩,
    ⟨some 87, .extract (.tmp 76) 0, none⟩,
    ⟨some 88, .extract (.tmp 76) 1, none⟩,
    ⟨some 16, .assign (.tmp 87), none⟩,
    ⟨some 17, .assign (.tmp 88), none⟩] [])
  (.seq (.seq (.reg [⟨some 89, .move (.tmp 17), none⟩,
    ⟨some 90, .unOp .not 4 (.tmp 89), none⟩] [])
  (.cond (.tmp 90) (.reg [⟨some 16, .assign (.const (.int .u32 0)), none⟩] []) .skip))
  (.seq (.reg [⟨some 91, .move (.tmp 9), none⟩,
    ⟨some 92, .call { callee := .value (.func 36), args := #[.tmp 91], argTypes := #[40] }, none⟩,
    ⟨some 18, .assign (.tmp 92), none⟩] [])
  (.seq (.seq (.reg [⟨some 93, .move (.tmp 10), none⟩,
    ⟨some 94, .unOp .not 4 (.tmp 93), none⟩,
    ⟨some 95, .move (.tmp 94), none⟩,
    ⟨some 96, .move (.tmp 15), some (95, false)⟩,
    ⟨some 97, .binOp .neq 30 (.tmp 96) (.const (.int .i64 0)) 30, some (95, false)⟩,
    ⟨some 98, .pick (.tmp 95) (.const (.bool true)) (.tmp 97), none⟩,
    ⟨some 99, .move (.tmp 98), none⟩,
    ⟨some 100, .move (.tmp 14), some (99, false)⟩,
    ⟨some 101, .binOp .lss 3 (.tmp 100) (.const (.int .i64 0)) 3, some (99, false)⟩,
    ⟨some 102, .pick (.tmp 99) (.const (.bool true)) (.tmp 101), none⟩,
    ⟨some 103, .move (.tmp 102), none⟩,
    ⟨some 104, .move (.tmp 14), some (103, false)⟩,
    ⟨some 105, .move (.tmp 18), some (103, false)⟩,
    ⟨some 106, .call { callee := .builtin .len, args := #[.tmp 105], argTypes := #[22] }, some (103, false)⟩,
    ⟨some 107, .binOp .geq 3 (.tmp 104) (.tmp 106) 3, some (103, false)⟩,
    ⟨some 108, .pick (.tmp 103) (.const (.bool true)) (.tmp 107), none⟩,
    ⟨some 109, .move (.tmp 108), none⟩,
    ⟨some 110, .move (.tmp 18), some (109, false)⟩,
    ⟨some 111, .call { callee := .value (.func 23), args := #[.tmp 110], argTypes := #[22] }, some (109, false)⟩,
    ⟨some 112, .unOp .not 4 (.tmp 111), some (109, false)⟩,
    ⟨some 113, .pick (.tmp 109) (.const (.bool true)) (.tmp 112), none⟩,
    ⟨some 114, .move (.tmp 113), none⟩,
    ⟨some 115, .move (.tmp 18), some (114, false)⟩,
    ⟨some 116, .load 27 (.tmp 4), some (114, false)⟩,
    ⟨some 117, .call { callee := .value (.func 38), args := #[.tmp 115, .tmp 116], argTypes := #[22, 27] }, some (114, false)⟩,
    ⟨some 118, .move (.tmp 14), some (114, false)⟩,
    ⟨some 119, .indexAddr 69 (.tmp 117) (.tmp 118), some (114, false)⟩,
    ⟨some 120, .load 25 (.tmp 119), some (114, false)⟩,
    ⟨some 121, .move (.tmp 16), some (114, false)⟩,
    ⟨some 122, .binOp .neq 25 (.tmp 120) (.tmp 121) 25, some (114, false)⟩,
    ⟨some 123, .pick (.tmp 114) (.const (.bool true)) (.tmp 122), none⟩] [])
  (.cond (.tmp 123) (.seq (.reg [⟨some 6, .assign (.const (.bool false)), none⟩] [])
  .ret) .skip))
  (.seq (.reg [⟨some 125, .move (.tmp 7), none⟩,
    ⟨some 126, .move (.tmp 12), none⟩,
    ⟨some 127, .call { callee := .value (.func 39), args := #[.tmp 125, .tmp 126], argTypes := #[22, 3] }, none⟩,
    ⟨some 124, .move (.tmp 127), none⟩,
    ⟨some 128, .extract (.tmp 124) 0, none⟩,
    ⟨some 129, .extract (.tmp 124) 1, none⟩,
    ⟨some 130, .extract (.tmp 124) 2, none⟩,
    ⟨some 19, .assign (.tmp 128), none⟩,
    ⟨some 20, .assign (.tmp 129), none⟩,
    ⟨some 21, .assign (.tmp 130), none⟩] [])
  (.seq (.reg [⟨some 131, .move (.tmp 21), none⟩,
    ⟨some 132, .binOp .neq 30 (.tmp 131) (.const (.int .i64 0)) 30, none⟩,
    ⟨some 133, .move (.tmp 132), none⟩,
    ⟨some 134, .move (.tmp 20), some (133, false)⟩,
    ⟨some 135, .binOp .lss 3 (.tmp 134) (.const (.int .i64 0)) 3, some (133, false)⟩,
    ⟨some 136, .pick (.tmp 133) (.const (.bool true)) (.tmp 135), none⟩,
    ⟨some 137, .move (.tmp 136), none⟩,
    ⟨some 138, .move (.tmp 20), some (137, false)⟩,
    ⟨some 139, .move (.tmp 19), some (137, false)⟩,
    ⟨some 140, .call { callee := .builtin .len, args := #[.tmp 139], argTypes := #[22] }, some (137, false)⟩,
    ⟨some 141, .binOp .geq 3 (.tmp 138) (.tmp 140) 3, some (137, false)⟩,
    ⟨some 142, .pick (.tmp 137) (.const (.bool true)) (.tmp 141), none⟩,
    ⟨some 143, .move (.tmp 142), none⟩,
    ⟨some 144, .move (.tmp 19), some (143, false)⟩,
    ⟨some 145, .call { callee := .value (.func 23), args := #[.tmp 144], argTypes := #[22] }, some (143, false)⟩,
    ⟨some 146, .unOp .not 4 (.tmp 145), some (143, false)⟩,
    ⟨some 147, .pick (.tmp 143) (.const (.bool true)) (.tmp 146), none⟩,
    ⟨some 148, .move (.tmp 147), none⟩,
    ⟨some 149, .move (.tmp 19), some (148, false)⟩,
    ⟨some 150, .load 27 (.tmp 4), some (148, false)⟩,
    ⟨some 151, .call { callee := .value (.func 38), args := #[.tmp 149, .tmp 150], argTypes := #[22, 27] }, some (148, false)⟩,
    ⟨some 152, .move (.tmp 20), some (148, false)⟩,
    ⟨some 153, .indexAddr 69 (.tmp 151) (.tmp 152), some (148, false)⟩,
    ⟨some 154, .load 25 (.tmp 153), some (148, false)⟩,
    ⟨some 155, .move (.tmp 11), some (148, false)⟩,
    ⟨some 156, .move (.tmp 12), some (148, false)⟩,
    ⟨some 157, .indexAddr 69 (.tmp 155) (.tmp 156), some (148, false)⟩,
    ⟨some 158, .load 25 (.tmp 157), some (148, false)⟩,
    ⟨some 159, .binOp .neq 25 (.tmp 154) (.tmp 158) 25, some (148, false)⟩,
    ⟨some 160, .pick (.tmp 148) (.const (.bool true)) (.tmp 159), none⟩] [(27, 20)])
  (.cond (.tmp 160) (.seq (.reg [⟨some 6, .assign (.const (.bool false)), none⟩] [])
  .ret) .skip)))))))))))
  (.reg [⟨some 161, .binOp .add 3 (.tmp 60) (.const (.int .i64 1)) 3, none⟩,
    ⟨some 60, .move (.tmp 161), none⟩] []))))
/-- tamis/tamislaw12.SimpValue -/
def S11 : SC :=
  (.seq (.reg [⟨some 4, .box 27 (.tmp 1), none⟩,
    ⟨some 6, .assign (.const (.bool false)), none⟩] [])
  (.seq (.seq (.reg [⟨some 22, .call { callee := .value (.func 31), args := #[], argTypes := #[] }, none⟩,
    ⟨some 23, .unOp .not 4 (.tmp 22), none⟩,
    ⟨some 24, .move (.tmp 23), none⟩,
    ⟨some 25, .move (.tmp 0), some (24, false)⟩,
    ⟨some 26, .call { callee := .builtin .len, args := #[.tmp 25], argTypes := #[22] }, some (24, false)⟩,
    ⟨some 27, .binOp .eql 3 (.tmp 26) (.const (.int .i64 0)) 3, some (24, false)⟩,
    ⟨some 28, .pick (.tmp 24) (.const (.bool true)) (.tmp 27), none⟩,
    ⟨some 29, .move (.tmp 28), none⟩,
    ⟨some 30, .move (.tmp 0), some (29, false)⟩,
    ⟨some 31, .call { callee := .builtin .len, args := #[.tmp 30], argTypes := #[22] }, some (29, false)⟩,
    ⟨some 32, .binOp .gtr 3 (.tmp 31) (.const (.int .i64 25)) 3, some (29, false)⟩,
    ⟨some 33, .pick (.tmp 29) (.const (.bool true)) (.tmp 32), none⟩,
    ⟨some 34, .move (.tmp 33), none⟩,
    ⟨some 35, .move (.tmp 0), some (34, false)⟩,
    ⟨some 36, .call { callee := .value (.func 23), args := #[.tmp 35], argTypes := #[22] }, some (34, false)⟩,
    ⟨some 37, .unOp .not 4 (.tmp 36), some (34, false)⟩,
    ⟨some 38, .pick (.tmp 34) (.const (.bool true)) (.tmp 37), none⟩,
    ⟨some 39, .move (.tmp 38), none⟩,
    ⟨some 40, .move (.tmp 2), some (39, false)⟩,
    ⟨some 41, .call { callee := .value (.func 34), args := #[.tmp 40], argTypes := #[3] }, some (39, false)⟩,
    ⟨some 42, .unOp .not 4 (.tmp 41), some (39, false)⟩,
    ⟨some 43, .pick (.tmp 39) (.const (.bool true)) (.tmp 42), none⟩] [])
  (.cond (.tmp 43) (.seq (.reg [⟨some 44, .call { callee := .value (.func 31), args := #[], argTypes := #[] }, none⟩,
    ⟨some 6, .assign (.tmp 44), none⟩] [])
  .ret) .skip))
  (.seq (.reg [⟨some 46, .move (.tmp 0), none⟩,
    ⟨some 47, .call { callee := .value (.func 24), args := #[.const (.slice none 0 0), .tmp 46], argTypes := #[22, 22] }, none⟩,
    ⟨some 45, .move (.tmp 47), none⟩,
    ⟨some 48, .extract (.tmp 45) 0, none⟩,
    ⟨some 49, .extract (.tmp 45) 1, none⟩,
    ⟨some 7, .assign (.tmp 48), none⟩,
    ⟨some 8, .assign (.tmp 49), none⟩] [])
  (.seq (.reg [⟨some 51, .move (.tmp 7), none⟩,
    ⟨some 52, .call { callee := .value (.func 32), args := #[.tmp 51], argTypes := #[22] }, none⟩,
    ⟨some 50, .move (.tmp 52), none⟩,
    ⟨some 53, .extract (.tmp 50) 0, none⟩,
    ⟨some 54, .extract (.tmp 50) 1, none⟩,
    ⟨some 9, .assign (.tmp 53), none⟩,
    ⟨some 10, .assign (.tmp 54), none⟩] [])
  (.seq (.reg [⟨some 55, .move (.tmp 7), none⟩,
    ⟨some 56, .load 27 (.tmp 4), none⟩,
    ⟨some 57, .call { callee := .value (.func 38), args := #[.tmp 55, .tmp 56], argTypes := #[22, 27] }, none⟩,
    ⟨some 11, .assign (.tmp 57), none⟩] [])
  (.seq (.seq (.reg [⟨some 58, .move (.tmp 7), none⟩,
    ⟨some 59, .call { callee := .builtin .len, args := #[.tmp 58], argTypes := #[22] }, none⟩,
    ⟨some 60, .move (.const (.int .i64 0)), none⟩] [])
  (.block 0 (.loop S11L1)))
  (.seq (.reg [⟨some 6, .assign (.const (.bool true)), none⟩] [])
  .ret)))))))
theorem S11_eq : slimF Try.prog 11 = some (162, [.tmp 6], S11) := by kernel_rfl

def S12L1 : SC :=
  (.seq (.reg [⟨some 98, .binOp .lss 3 (.tmp 97) (.tmp 96) 3, none⟩] [])
  (.seq (.cond (.tmp 98) .skip (.exit 0))
  (.seq (.block 1 (.seq (.reg [⟨some 99, .indexAddr 74 (.tmp 95) (.tmp 97), none⟩,
    ⟨some 100, .load 4 (.tmp 99), none⟩,
    ⟨some 9, .assign (.tmp 100), none⟩] [])
  (.seq (.reg [⟨some 101, .move (.tmp 9), none⟩,
    ⟨some 102, .unOp .not 4 (.tmp 101), none⟩] [])
  (.cond (.tmp 102) (.seq (.reg [⟨some 4, .assign (.const (.bool false)), none⟩] [])
  .ret) .skip))))
  (.reg [⟨some 103, .binOp .add 3 (.tmp 97) (.const (.int .i64 1)) 3, none⟩,
    ⟨some 97, .move (.tmp 103), none⟩] []))))
/-- tamis/tamislaw12.SimpAll -/
def S12 : SC :=
  (.seq (.reg [⟨some 4, .assign (.const (.bool false)), none⟩] [])
  (.seq (.seq (.reg [⟨some 16, .call { callee := .value (.func 31), args := #[], argTypes := #[] }, none⟩,
    ⟨some 17, .unOp .not 4 (.tmp 16), none⟩,
    ⟨some 18, .move (.tmp 17), none⟩,
    ⟨some 19, .move (.tmp 0), some (18, false)⟩,
    ⟨some 20, .call { callee := .builtin .len, args := #[.tmp 19], argTypes := #[22] }, some (18, false)⟩,
    ⟨some 21, .binOp .gtr 3 (.tmp 20) (.const (.int .i64 60)) 3, some (18, false)⟩,
    ⟨some 22, .pick (.tmp 18) (.const (.bool true)) (.tmp 21), none⟩] [])
  (.cond (.tmp 22) (.seq (.reg [⟨some 23, .call { callee := .value (.func 31), args := #[], argTypes := #[] }, none⟩,
    ⟨some 4, .assign (.tmp 23), none⟩] [])
  .ret) .skip))
  (.seq (.reg [⟨some 25, .buildSlice 22 0 #[], none⟩,
    ⟨some 26, .move (.tmp 0), none⟩,
    ⟨some 27, .call { callee := .builtin .append, args := #[.tmp 25, .tmp 26], argTypes := #[22, 22] }, none⟩,
    ⟨some 28, .move (.tmp 1), none⟩,
    ⟨some 29, .call { callee := .value (.func 39), args := #[.tmp 27, .tmp 28], argTypes := #[22, 3] }, none⟩,
    ⟨some 24, .move (.tmp 29), none⟩,
    ⟨some 30, .extract (.tmp 24) 0, none⟩,
    ⟨some 31, .extract (.tmp 24) 1, none⟩,
    ⟨some 32, .extract (.tmp 24) 2, none⟩,
    ⟨some 5, .assign (.tmp 30), none⟩,
    ⟨some 6, .assign (.tmp 31), none⟩,
    ⟨some 7, .assign (.tmp 32), none⟩] [])
  (.seq (.seq (.reg [⟨some 33, .move (.tmp 0), none⟩,
    ⟨some 34, .call { callee := .value (.func 23), args := #[.tmp 33], argTypes := #[22] }, none⟩,
    ⟨some 35, .unOp .not 4 (.tmp 34), none⟩] [])
  (.cond (.tmp 35) (.seq (.reg [⟨some 36, .move (.tmp 5), none⟩,
    ⟨some 37, .call { callee := .builtin .len, args := #[.tmp 36], argTypes := #[22] }, none⟩,
    ⟨some 38, .binOp .eql 3 (.tmp 37) (.const (.int .i64 0)) 3, none⟩,
    ⟨some 39, .move (.tmp 38), none⟩,
    ⟨some 40, .move (.tmp 6), some (39, true)⟩,
    ⟨some 41, .binOp .eql 3 (.tmp 40) (.const (.int .i64 0)) 3, some (39, true)⟩,
    ⟨some 42, .pick (.tmp 39) (.tmp 41) (.const (.bool false)), none⟩,
    ⟨some 43, .move (.tmp 42), none⟩,
    ⟨some 44, .move (.tmp 7), some (43, true)⟩,
    ⟨some 45, .binOp .eql 30 (.tmp 44) (.const (.int .i64 3)) 30, some (43, true)⟩,
    ⟨some 46, .pick (.tmp 43) (.tmp 45) (.const (.bool false)), none⟩,
    ⟨some 47, .move (.tmp 46), none⟩,
    ⟨some 48, .move (.tmp 0), some (47, true)⟩,
    ⟨some 49, .call { callee := .value (.func 40), args := #[.tmp 48], argTypes := #[22] }, some (47, true)⟩,
    ⟨some 50, .unOp .not 4 (.tmp 49), some (47, true)⟩,
    ⟨some 51, .pick (.tmp 47) (.tmp 50) (.const (.bool false)), none⟩,
    ⟨some 4, .assign (.tmp 51), none⟩] [])
  .ret) .skip))
  (.seq (.seq (.reg [⟨some 52, .move (.tmp 0), none⟩,
    ⟨some 53, .call { callee := .value (.func 40), args := #[.tmp 52], argTypes := #[22] }, none⟩,
    ⟨some 54, .move (.tmp 0), none⟩,
    ⟨some 55, .call { callee := .value (.func 41), args := #[.tmp 54], argTypes := #[22] }, none⟩,
    ⟨some 56, .binOp .neq 4 (.tmp 53) (.tmp 55) 4, none⟩] [])
  (.cond (.tmp 56) (.seq (.reg [⟨some 4, .assign (.const (.bool false)), none⟩] [])
  .ret) .skip))
  (.seq (.seq (.reg [⟨some 57, .move (.tmp 1), none⟩,
    ⟨some 58, .binOp .lss 3 (.tmp 57) (.const (.int .i64 0)) 3, none⟩,
    ⟨some 59, .move (.tmp 58), none⟩,
    ⟨some 60, .move (.tmp 1), some (59, false)⟩,
    ⟨some 61, .move (.tmp 0), some (59, false)⟩,
    ⟨some 62, .call { callee := .builtin .len, args := #[.tmp 61], argTypes := #[22] }, some (59, false)⟩,
    ⟨some 63, .binOp .geq 3 (.tmp 60) (.tmp 62) 3, some (59, false)⟩,
    ⟨some 64, .pick (.tmp 59) (.const (.bool true)) (.tmp 63), none⟩] [])
  (.cond (.tmp 64) (.seq (.reg [⟨some 65, .move (.tmp 5), none⟩,
    ⟨some 66, .call { callee := .builtin .len, args := #[.tmp 65], argTypes := #[22] }, none⟩,
    ⟨some 67, .binOp .eql 3 (.tmp 66) (.const (.int .i64 0)) 3, none⟩,
    ⟨some 68, .move (.tmp 67), none⟩,
    ⟨some 69, .move (.tmp 6), some (68, true)⟩,
    ⟨some 70, .binOp .eql 3 (.tmp 69) (.const (.int .i64 0)) 3, some (68, true)⟩,
    ⟨some 71, .pick (.tmp 68) (.tmp 70) (.const (.bool false)), none⟩,
    ⟨some 72, .move (.tmp 71), none⟩,
    ⟨some 73, .move (.tmp 7), some (72, true)⟩,
    ⟨some 74, .binOp .eql 30 (.tmp 73) (.const (.int .i64 2)) 30, some (72, true)⟩,
    ⟨some 75, .pick (.tmp 72) (.tmp 74) (.const (.bool false)), none⟩,
    ⟨some 4, .assign (.tmp 75), none⟩] [])
  .ret) .skip))
  (.seq (.seq (.reg [⟨some 76, .move (.tmp 7), none⟩,
    ⟨some 77, .binOp .neq 30 (.tmp 76) (.const (.int .i64 0)) 30, none⟩,
    ⟨some 78, .move (.tmp 77), none⟩,
    ⟨some 79, .move (.tmp 6), some (78, false)⟩,
    ⟨some 80, .binOp .lss 3 (.tmp 79) (.const (.int .i64 0)) 3, some (78, false)⟩,
    ⟨some 81, .pick (.tmp 78) (.const (.bool true)) (.tmp 80), none⟩,
    ⟨some 82, .move (.tmp 81), none⟩,
    ⟨some 83, .move (.tmp 6), some (82, false)⟩,
    ⟨some 84, .move (.tmp 5), some (82, false)⟩,
    ⟨some 85, .call { callee := .builtin .len, args := #[.tmp 84], argTypes := #[22] }, some (82, false)⟩,
    ⟨some 86, .binOp .geq 3 (.tmp 83) (.tmp 85) 3, some (82, false)⟩,
    ⟨some 87, .pick (.tmp 82) (.const (.bool true)) (.tmp 86), none⟩,
    ⟨some 88, .move (.tmp 87), none⟩,
    ⟨some 89, .move (.tmp 5), some (88, false)⟩,
    ⟨some 90, .call { callee := .value (.func 23), args := #[.tmp 89], argTypes := #[22] }, some (88, false)⟩,
    ⟨some 91, .unOp .not 4 (.tmp 90), some (88, false)⟩,
    ⟨some 92, .pick (.tmp 88) (.const (.bool true)) (.tmp 91), none⟩] [])
  (.cond (.tmp 92) (.seq (.reg [⟨some 4, .assign (.const (.bool false)), none⟩] [])
  .ret) .skip))
  (.seq (.seq (.reg [⟨some 93, .move (.tmp 5), none⟩,
    ⟨some 94, .move (.tmp 6), none⟩,
    ⟨some 95, .call { callee := .value (.func 42), args := #[.tmp 93, .tmp 94], argTypes := #[22, 3] }, none⟩,
    ⟨some 96, .call { callee := .builtin .len, args := #[.tmp 95], argTypes := #[74] }, none⟩,
    ⟨some 97, .move (.const (.int .i64 0)), none⟩] [])
  (.block 0 (.loop S12L1)))
  (.seq (.reg [⟨some 105, .move (.tmp 0), none⟩,
    ⟨some 106, .call { callee := .value (.func 43), args := #[.tmp 105], argTypes := #[22] }, none⟩,
    ⟨some 104, .move (.tmp 106), none⟩,
    ⟨some 107, .extract (.tmp 104) 0, none⟩,
    ⟨some 108, .extract (.tmp 104) 1, none⟩,
    ⟨some 10, .assign (.tmp 107), none⟩,
    ⟨some 11, .assign (.tmp 108), none⟩] [])
  (.seq (.reg [⟨some 110, .move (.tmp 5), none⟩,
    ⟨some 111, .call { callee := .value (.func 24), args := #[.const (.slice none 0 0), .tmp 110], argTypes := #[22, 22] }, none⟩,
    ⟨some 109, .move (.tmp 111), none⟩,
    ⟨some 112, .extract (.tmp 109) 0, none⟩,
    ⟨some 113, .extract (.tmp 109) 1, none⟩,
    ⟨some 12, .assign (.tmp 112), none⟩,
    ⟨some 13, .assign (.tmp 113), none⟩] [])
  (.seq (.reg [⟨some 115, .move (.tmp 10), none⟩,
    ⟨some 116, .move (.tmp 5), none⟩,
    ⟨some 117, .call { callee := .value (.func 24), args := #[.tmp 115, .tmp 116], argTypes := #[22, 22] }, none⟩,
    ⟨some 114, .move (.tmp 117), none⟩,
    ⟨some 118, .extract (.tmp 114) 0, none⟩,
    ⟨some 119, .extract (.tmp 114) 1, none⟩,
    ⟨some 14, .assign (.tmp 118), none⟩,
    ⟨some 15, .assign (.tmp 119), none⟩] [])
  (.seq (.reg [⟨some 120, .move (.tmp 15), none⟩,
    ⟨some 121, .move (.tmp 6), none⟩,
    ⟨some 122, .indexAddr 37 (.tmp 120) (.tmp 121), none⟩,
    ⟨some 123, .load 3 (.tmp 122), none⟩,
    ⟨some 124, .move (.tmp 11), none⟩,
    ⟨some 125, .move (.tmp 1), none⟩,
    ⟨some 126, .indexAddr 37 (.tmp 124) (.tmp 125), none⟩,
    ⟨some 127, .load 3 (.tmp 126), none⟩,
    ⟨some 128, .binOp .eql 3 (.tmp 123) (.tmp 127) 3, none⟩,
    ⟨some 129, .move (.tmp 128), none⟩,
    ⟨some 130, .move (.tmp 12), some (129, true)⟩,
    ⟨some 131, .call { callee := .builtin .len, args := #[.tmp 130], argTypes := #[22] }, some (129, true)⟩,
    ⟨some 132, .move (.tmp 5), some (129, true)⟩,
    ⟨some 133, .call { callee := .builtin .len, args := #[.tmp 132], argTypes := #[22] }, some (129, true)⟩,
    ⟨some 134, .binOp .eql 3 (.tmp 131) (.tmp 133) 3, some (129, true)⟩,
    ⟨some 135, .pick (.tmp 129) (.tmp 134) (.const (.bool false)), none⟩,
    ⟨some 4, .assign (.tmp 135), none⟩] [])
  .ret))))))))))))
theorem S12_eq : slimF Try.prog 12 = some (136, [.tmp 4], S12) := by kernel_rfl

def S13L1 : SC :=
  (.seq (.reg [⟨some 30, .binOp .lss 3 (.tmp 29) (.tmp 28) 3, none⟩] [])
  (.seq (.cond (.tmp 30) .skip (.exit 0))
  (.seq (.block 1 (.seq (.reg [⟨some 31, .move (.tmp 29), none⟩,
    ⟨some 3, .assign (.tmp 31), none⟩] [])
  (.seq (.reg [⟨some 33, .move (.tmp 0), none⟩,
    ⟨some 34, .move (.tmp 3), none⟩,
    ⟨some 35, .call { callee := .value (.func 39), args := #[.tmp 33, .tmp 34], argTypes := #[22, 3] }, none⟩,
    ⟨some 32, .move (.tmp 35), none⟩,
    ⟨some 36, .extract (.tmp 32) 0, none⟩,
    ⟨some 37, .extract (.tmp 32) 1, none⟩,
    ⟨some 38, .extract (.tmp 32) 2, none⟩,
    ⟨some 4, .assign (.tmp 36), none⟩,
    ⟨some 5, .assign (.tmp 37), none⟩,
    ⟨some 6, .assign (.tmp 38), none⟩] [])
  (.seq (.seq (.reg [⟨some 39, .move (.tmp 6), none⟩,
    ⟨some 40, .binOp .neq 30 (.tmp 39) (.const (.int .i64 0)) 30, none⟩,
    ⟨some 41, .move (.tmp 40), none⟩,
    ⟨some 42, .move (.tmp 4), some (41, false)⟩,
    ⟨some 43, .call { callee := .value (.func 23), args := #[.tmp 42], argTypes := #[22] }, some (41, false)⟩,
    ⟨some 44, .unOp .not 4 (.tmp 43), some (41, false)⟩,
    ⟨some 45, .pick (.tmp 41) (.const (.bool true)) (.tmp 44), none⟩,
    ⟨some 46, .move (.tmp 45), none⟩,
    ⟨some 47, .move (.tmp 5), some (46, false)⟩,
    ⟨some 48, .binOp .lss 3 (.tmp 47) (.const (.int .i64 0)) 3, some (46, false)⟩,
    ⟨some 49, .pick (.tmp 46) (.const (.bool true)) (.tmp 48), none⟩,
    ⟨some 50, .move (.tmp 49), none⟩,
    ⟨some 51, .move (.tmp 5), some (50, false)⟩,
    ⟨some 52, .move (.tmp 4), some (50, false)⟩,
    ⟨some 53, .call { callee := .builtin .len, args := #[.tmp 52], argTypes := #[22] }, some (50, false)⟩,
    ⟨some 54, .binOp .geq 3 (.tmp 51) (.tmp 53) 3, some (50, false)⟩,
    ⟨some 55, .pick (.tmp 50) (.const (.bool true)) (.tmp 54), none⟩] [])
  (.cond (.tmp 55) (.seq (.reg [⟨some 2, .assign (.const (.bool false)), none⟩] [])
  .ret) .skip))
  (.seq (.reg [⟨some 57, .move (.tmp 4), none⟩,
    ⟨some 58, .move (.tmp 5), none⟩,
    ⟨some 59, .call { callee := .value (.func 39), args := #[.tmp 57, .tmp 58], argTypes := #[22, 3] }, none⟩,
    ⟨some 56, .move (.tmp 59), none⟩,
    ⟨some 60, .extract (.tmp 56) 0, none⟩,
    ⟨some 61, .extract (.tmp 56) 1, none⟩,
    ⟨some 62, .extract (.tmp 56) 2, none⟩,
    ⟨some 7, .assign (.tmp 60), none⟩,
    ⟨some 8, .assign (.tmp 61), none⟩,
    ⟨some 9, .assign (.tmp 62), none⟩] [])
  (.seq (.seq (.reg [⟨some 63, .move (.tmp 9), none⟩,
    ⟨some 64, .binOp .neq 30 (.tmp 63) (.const (.int .i64 0)) 30, none⟩,
    ⟨some 65, .move (.tmp 64), none⟩,
    ⟨some 66, .move (.tmp 7), some (65, false)⟩,
    ⟨some 67, .call { callee := .value (.func 23), args := #[.tmp 66], argTypes := #[22] }, some (65, false)⟩,
    ⟨some 68, .unOp .not 4 (.tmp 67), some (65, false)⟩,
    ⟨some 69, .pick (.tmp 65) (.const (.bool true)) (.tmp 68), none⟩,
    ⟨some 70, .move (.tmp 69), none⟩,
    ⟨some 71, .move (.tmp 8), some (70, false)⟩,
    ⟨some 72, .binOp .lss 3 (.tmp 71) (.const (.int .i64 0)) 3, some (70, false)⟩,
    ⟨some 73, .pick (.tmp 70) (.const (.bool true)) (.tmp 72), none⟩,
    ⟨some 74, .move (.tmp 73), none⟩,
    ⟨some 75, .move (.tmp 8), some (74, false)⟩,
    ⟨some 76, .move (.tmp 7), some (74, false)⟩,
    ⟨some 77, .call { callee := .builtin .len, args := #[.tmp 76], argTypes := #[22] }, some (74, false)⟩,
    ⟨some 78, .binOp .geq 3 (.tmp 75) (.tmp 77) 3, some (74, false)⟩,
    ⟨some 79, .pick (.tmp 74) (.const (.bool true)) (.tmp 78), none⟩,
    ⟨some 80, .move (.tmp 79), none⟩,
    ⟨some 81, .move (.tmp 4), some (80, false)⟩,
    ⟨some 82, .call { callee := .value (.func 40), args := #[.tmp 81], argTypes := #[22] }, some (80, false)⟩,
    ⟨some 83, .unOp .not 4 (.tmp 82), some (80, false)⟩,
    ⟨some 84, .pick (.tmp 80) (.const (.bool true)) (.tmp 83), none⟩,
    ⟨some 85, .move (.tmp 84), none⟩,
    ⟨some 86, .move (.tmp 7), some (85, false)⟩,
    ⟨some 87, .call { callee := .builtin .len, args := #[.tmp 86], argTypes := #[22] }, some (85, false)⟩,
    ⟨some 88, .move (.tmp 4), some (85, false)⟩,
    ⟨some 89, .call { callee := .builtin .len, args := #[.tmp 88], argTypes := #[22] }, some (85, false)⟩,
    ⟨some 90, .binOp .neq 3 (.tmp 87) (.tmp 89) 3, some (85, false)⟩,
    ⟨some 91, .pick (.tmp 85) (.const (.bool true)) (.tmp 90), none⟩] [])
  (.cond (.tmp 91) (.seq (.reg [⟨some 2, .assign (.const (.bool false)), none⟩] [])
  .ret) .skip))
  (.seq (.reg [⟨some 93, .move (.tmp 4), none⟩,
    ⟨some 94, .call { callee := .value (.func 24), args := #[.const (.slice none 0 0), .tmp 93], argTypes := #[22, 22] }, none⟩,
    ⟨some 92, .move (.tmp 94), none⟩,
    ⟨some 95, .extract (.tmp 92) 0, none⟩,
    ⟨some 96, .extract (.tmp 92) 1, none⟩,
    ⟨some 10, .assign (.tmp 95), none⟩,
    ⟨some 11, .assign (.tmp 96), none⟩] [])
  (.seq (.reg [⟨some 98, .move (.tmp 10), none⟩,
    ⟨some 99, .move (.tmp 7), none⟩,
    ⟨some 100, .call { callee := .value (.func 24), args := #[.tmp 98, .tmp 99], argTypes := #[22, 22] }, none⟩,
    ⟨some 97, .move (.tmp 100), none⟩,
    ⟨some 101, .extract (.tmp 97) 0, none⟩,
    ⟨some 102, .extract (.tmp 97) 1, none⟩,
    ⟨some 12, .assign (.tmp 101), none⟩,
    ⟨some 13, .assign (.tmp 102), none⟩] [])
  (.seq (.reg [⟨some 103, .move (.tmp 11), none⟩,
    ⟨some 104, .move (.tmp 5), none⟩,
    ⟨some 105, .indexAddr 37 (.tmp 103) (.tmp 104), none⟩,
    ⟨some 106, .load 3 (.tmp 105), none⟩,
    ⟨some 107, .move (.tmp 13), none⟩,
    ⟨some 108, .move (.tmp 8), none⟩,
    ⟨some 109, .indexAddr 37 (.tmp 107) (.tmp 108), none⟩,
    ⟨some 110, .load 3 (.tmp 109), none⟩,
    ⟨some 111, .binOp .neq 3 (.tmp 106) (.tmp 110) 3, none⟩] [])
  (.cond (.tmp 111) (.seq (.reg [⟨some 2, .assign (.const (.bool false)), none⟩] [])
  .ret) .skip))))))))))
  (.reg [⟨some 112, .binOp .add 3 (.tmp 29) (.const (.int .i64 1)) 3, none⟩,
    ⟨some 29, .move (.tmp 112), none⟩] []))))
/-- tamis/tamislaw12.SimpTwice -/
def S13 : SC :=
  (.seq (.reg [⟨some 2, .assign (.const (.bool false)), none⟩] [])
  (.seq (.seq (.reg [⟨some 14, .call { callee := .value (.func 31), args := #[], argTypes := #[] }, none⟩,
    ⟨some 15, .unOp .not 4 (.tmp 14), none⟩,
    ⟨some 16, .move (.tmp 15), none⟩,
    ⟨some 17, .move (.tmp 0), some (16, false)⟩,
    ⟨some 18, .call { callee := .builtin .len, args := #[.tmp 17], argTypes := #[22] }, some (16, false)⟩,
    ⟨some 19, .binOp .gtr 3 (.tmp 18) (.const (.int .i64 25)) 3, some (16, false)⟩,
    ⟨some 20, .pick (.tmp 16) (.const (.bool true)) (.tmp 19), none⟩,
    ⟨some 21, .move (.tmp 20), none⟩,
    ⟨some 22, .move (.tmp 0), some (21, false)⟩,
    ⟨some 23, .call { callee := .value (.func 23), args := #[.tmp 22], argTypes := #[22] }, some (21, false)⟩,
    ⟨some 24, .unOp .not 4 (.tmp 23), some (21, false)⟩,
    ⟨some 25, .pick (.tmp 21) (.const (.bool true)) (.tmp 24), none⟩] [])
  (.cond (.tmp 25) (.seq (.reg [⟨some 26, .call { callee := .value (.func 31), args := #[], argTypes := #[] }, none⟩,
    ⟨some 2, .assign (.tmp 26), none⟩] [])
  .ret) .skip))
  (.seq (.seq (.reg [⟨some 27, .move (.tmp 0), none⟩,
    ⟨some 28, .call { callee := .builtin .len, args := #[.tmp 27], argTypes := #[22] }, none⟩,
    ⟨some 29, .move (.const (.int .i64 0)), none⟩] [])
  (.block 0 (.loop S13L1)))
  (.seq (.reg [⟨some 2, .assign (.const (.bool true)), none⟩] [])
  .ret))))
theorem S13_eq : slimF Try.prog 13 = some (113, [.tmp 2], S13) := by kernel_rfl

def S14L1 : SC :=
  (.seq (.reg [⟨some 27, .binOp .lss 3 (.tmp 26) (.tmp 25) 3, none⟩] [])
  (.seq (.cond (.tmp 27) .skip (.exit 0))
  (.seq (.block 1 (.seq (.reg [⟨some 28, .move (.tmp 26), none⟩,
    ⟨some 4, .assign (.tmp 28), none⟩] [])
  (.seq (.reg [⟨some 30, .move (.tmp 0), none⟩,
    ⟨some 31, .move (.tmp 4), none⟩,
    ⟨some 32, .call { callee := .value (.func 39), args := #[.tmp 30, .tmp 31], argTypes := #[22, 3] }, none⟩,
    ⟨some 29, .move (.tmp 32), none⟩,
    ⟨some 33, .extract (.tmp 29) 0, none⟩,
    ⟨some 34, .extract (.tmp 29) 1, none⟩,
    ⟨some 35, .extract (.tmp 29) 2, none⟩,
    ⟨some 5, .assign (.tmp 33), none⟩,
    ⟨some 6, .assign (.tmp 34), none⟩,
    ⟨some 7, .assign (.tmp 35), none⟩] [])
  (.seq (.seq (.reg [⟨some 36, .move (.tmp 7), none⟩,
    ⟨some 37, .binOp .neq 30 (.tmp 36) (.const (.int .i64 0)) 30, none⟩] [])
  (.cond (.tmp 37) (.seq (.reg [⟨some 2, .assign (.const (.bool false)), none⟩] [])
  .ret) .skip))
  (.seq (.reg [⟨some 38, .move (.tmp 0), none⟩,
    ⟨some 39, .move (.tmp 4), none⟩,
    ⟨some 40, .call { callee := .value (.func 44), args := #[.tmp 38, .tmp 39], argTypes := #[22, 3] }, none⟩,
    ⟨some 41, .binOp .eql 78 (.tmp 40) (.const (.int .u16 0)) 78, none⟩,
    ⟨some 42, .move (.tmp 41), none⟩,
    ⟨some 43, .move (.tmp 5), some (42, true)⟩,
    ⟨some 44, .call { callee := .builtin .len, args := #[.tmp 43], argTypes := #[22] }, some (42, true)⟩,
    ⟨some 45, .binOp .neq 3 (.tmp 44) (.const (.int .i64 1)) 3, some (42, true)⟩,
    ⟨some 46, .move (.tmp 45), some (42, true)⟩,
    ⟨some 47, .move (.tmp 6), some (46, false)⟩,
    ⟨some 48, .binOp .neq 3 (.tmp 47) (.const (.int .i64 0)) 3, some (46, false)⟩,
    ⟨some 49, .pick (.tmp 46) (.const (.bool true)) (.tmp 48), some (42, true)⟩,
    ⟨some 50, .move (.tmp 49), some (42, true)⟩,
    ⟨some 51, .move (.tmp 5), some (50, false)⟩,
    ⟨some 52, .indexAddr 22 (.tmp 51) (.const (.int .i64 0)), some (50, false)⟩,
    ⟨some 53, .load 52 (.tmp 52), some (50, false)⟩,
    ⟨some 54, .move (.tmp 3), some (50, false)⟩,
    ⟨some 55, .move (.tmp 4), some (50, false)⟩,
    ⟨some 56, .indexAddr 69 (.tmp 54) (.tmp 55), some (50, false)⟩,
    ⟨some 57, .load 25 (.tmp 56), some (50, false)⟩,
    ⟨some 58, .build 52 #[(0, .const (.int .i64 1)), (3, .tmp 57)], some (50, false)⟩,
    ⟨some 59, .binOp .neq 52 (.tmp 53) (.tmp 58) 52, some (50, false)⟩,
    ⟨some 60, .pick (.tmp 50) (.const (.bool true)) (.tmp 59), some (42, true)⟩,
    ⟨some 61, .pick (.tmp 42) (.tmp 60) (.const (.bool false)), none⟩] [])
  (.cond (.tmp 61) (.seq (.reg [⟨some 2, .assign (.const (.bool false)), none⟩] [])
  .ret) .skip))))))
  (.reg [⟨some 62, .binOp .add 3 (.tmp 26) (.const (.int .i64 1)) 3, none⟩,
    ⟨some 26, .move (.tmp 62), none⟩] []))))
/-- tamis/tamislaw12.SimpNumbers -/
def S14 : SC :=
  (.seq (.reg [⟨some 2, .assign (.const (.bool false)), none⟩] [])
  (.seq (.seq (.reg [⟨some 8, .call { callee := .value (.func 31), args := #[], argTypes := #[] }, none⟩,
    ⟨some 9, .unOp .not 4 (.tmp 8), none⟩,
    ⟨some 10, .move (.tmp 9), none⟩,
    ⟨some 11, .move (.tmp 0), some (10, false)⟩,
    ⟨some 12, .call { callee := .builtin .len, args := #[.tmp 11], argTypes := #[22] }, some (10, false)⟩,
    ⟨some 13, .binOp .gtr 3 (.tmp 12) (.const (.int .i64 40)) 3, some (10, false)⟩,
    ⟨some 14, .pick (.tmp 10) (.const (.bool true)) (.tmp 13), none⟩,
    ⟨some 15, .move (.tmp 14), none⟩,
    ⟨some 16, .move (.tmp 0), some (15, false)⟩,
    ⟨some 17, .call { callee := .value (.func 23), args := #[.tmp 16], argTypes := #[22] }, some (15, false)⟩,
    ⟨some 18, .unOp .not 4 (.tmp 17), some (15, false)⟩,
    ⟨some 19, .pick (.tmp 15) (.const (.bool true)) (.tmp 18), none⟩] [])
  (.cond (.tmp 19) (.seq (.reg [⟨some 20, .call { callee := .value (.func 31), args := #[], argTypes := #[] }, none⟩,
    ⟨some 2, .assign (.tmp 20), none⟩] [])
  .ret) .skip))
  (.seq (.reg [⟨some 21, .move (.tmp 0), none⟩,
    ⟨some 22, .build 27 #[], none⟩,
    ⟨some 23, .call { callee := .value (.func 38), args := #[.tmp 21, .tmp 22], argTypes := #[22, 27] }, none⟩,
    ⟨some 3, .assign (.tmp 23), none⟩] [])
  (.seq (.seq (.reg [⟨some 24, .move (.tmp 0), none⟩,
    ⟨some 25, .call { callee := .builtin .len, args := #[.tmp 24], argTypes := #[22] }, none⟩,
    ⟨some 26, .move (.const (.int .i64 0)), none⟩] [])
  (.block 0 (.loop S14L1)))
  (.seq (.reg [⟨some 2, .assign (.const (.bool true)), none⟩] [])
  .ret)))))
theorem S14_eq : slimF Try.prog 14 = some (63, [.tmp 2], S14) := by kernel_rfl

def S15L1 : SC :=
  (.seq (.reg [⟨some 26, .binOp .lss 3 (.tmp 25) (.tmp 24) 3, none⟩] [])
  (.seq (.cond (.tmp 26) .skip (.exit 0))
  (.seq (.block 1 (.seq (.reg [⟨some 27, .move (.tmp 25), none⟩,
    ⟨some 4, .assign (.tmp 27), none⟩] [])
  (.seq (.reg [⟨some 29, .move (.tmp 0), none⟩,
    ⟨some 30, .move (.tmp 4), none⟩,
    ⟨some 31, .call { callee := .value (.func 39), args := #[.tmp 29, .tmp 30], argTypes := #[22, 3] }, none⟩,
    ⟨some 28, .move (.tmp 31), none⟩,
    ⟨some 32, .extract (.tmp 28) 0, none⟩,
    ⟨some 33, .extract (.tmp 28) 1, none⟩,
    ⟨some 34, .extract (.tmp 28) 2, none⟩,
    ⟨some 5, .assign (.tmp 32), none⟩,
    ⟨some 6, .assign (.tmp 33), none⟩,
    ⟨some 7, .assign (.tmp 34), none⟩] [])
  (.seq (.seq (.reg [⟨some 35, .move (.tmp 7), none⟩,
    ⟨some 36, .binOp .neq 30 (.tmp 35) (.const (.int .i64 0)) 30, none⟩,
    ⟨some 37, .move (.tmp 36), none⟩,
    ⟨some 38, .move (.tmp 5), some (37, false)⟩,
    ⟨some 39, .call { callee := .value (.func 23), args := #[.tmp 38], argTypes := #[22] }, some (37, false)⟩,
    ⟨some 40, .unOp .not 4 (.tmp 39), some (37, false)⟩,
    ⟨some 41, .pick (.tmp 37) (.const (.bool true)) (.tmp 40), none⟩,
    ⟨some 42, .move (.tmp 41), none⟩,
    ⟨some 43, .move (.tmp 6), some (42, false)⟩,
    ⟨some 44, .binOp .lss 3 (.tmp 43) (.const (.int .i64 0)) 3, some (42, false)⟩,
    ⟨some 45, .pick (.tmp 42) (.const (.bool true)) (.tmp 44), none⟩,
    ⟨some 46, .move (.tmp 45), none⟩,
    ⟨some 47, .move (.tmp 6), some (46, false)⟩,
    ⟨some 48, .move (.tmp 5), some (46, false)⟩,
    ⟨some 49, .call { callee := .builtin .len, args := #[.tmp 48], argTypes := #[22] }, some (46, false)⟩,
    ⟨some 50, .binOp .geq 3 (.tmp 47) (.tmp 49) 3, some (46, false)⟩,
    ⟨some 51, .pick (.tmp 46) (.const (.bool true)) (.tmp 50), none⟩] [])
  (.cond (.tmp 51) (.seq (.reg [⟨some 2, .assign (.const (.bool false)), none⟩] [])
  .ret) .skip))
  (.seq (.reg [⟨some 52, .move (.tmp 5), none⟩,
    ⟨some 53, .call { callee := .value (.func 45), args := #[.tmp 52], argTypes := #[22] }, none⟩,
    ⟨some 54, .move (.tmp 6), none⟩,
    ⟨some 55, .indexAddr 80 (.tmp 53) (.tmp 54), none⟩,
    ⟨some 56, .load 82 (.tmp 55), none⟩,
    ⟨some 57, .move (.tmp 3), none⟩,
    ⟨some 58, .move (.tmp 4), none⟩,
    ⟨some 59, .indexAddr 80 (.tmp 57) (.tmp 58), none⟩,
    ⟨some 60, .load 82 (.tmp 59), none⟩,
    ⟨some 61, .binOp .gtr 82 (.tmp 56) (.tmp 60) 82, none⟩,
    ⟨some 62, .move (.tmp 61), none⟩,
    ⟨some 63, .move (.tmp 5), some (62, false)⟩,
    ⟨some 64, .move (.tmp 6), some (62, false)⟩,
    ⟨some 65, .call { callee := .value (.func 44), args := #[.tmp 63, .tmp 64], argTypes := #[22, 3] }, some (62, false)⟩,
    ⟨some 66, .move (.tmp 0), some (62, false)⟩,
    ⟨some 67, .move (.tmp 4), some (62, false)⟩,
    ⟨some 68, .call { callee := .value (.func 44), args := #[.tmp 66, .tmp 67], argTypes := #[22, 3] }, some (62, false)⟩,
    ⟨some 69, .binOp .andNot 78 (.tmp 65) (.tmp 68) 78, some (62, false)⟩,
    ⟨some 70, .binOp .neq 78 (.tmp 69) (.const (.int .u16 0)) 78, some (62, false)⟩,
    ⟨some 71, .pick (.tmp 62) (.const (.bool true)) (.tmp 70), none⟩] [(8, 1)])
  (.cond (.tmp 71) (.seq (.reg [⟨some 2, .assign (.const (.bool false)), none⟩] [])
  .ret) .skip))))))
  (.reg [⟨some 72, .binOp .add 3 (.tmp 25) (.const (.int .i64 1)) 3, none⟩,
    ⟨some 25, .move (.tmp 72), none⟩] []))))
/-- tamis/tamislaw12.SimpSize -/
def S15 : SC :=
  (.seq (.reg [⟨some 2, .assign (.const (.bool false)), none⟩] [])
  (.seq (.seq (.reg [⟨some 8, .call { callee := .value (.func 31), args := #[], argTypes := #[] }, none⟩,
    ⟨some 9, .unOp .not 4 (.tmp 8), none⟩,
    ⟨some 10, .move (.tmp 9), none⟩,
    ⟨some 11, .move (.tmp 0), some (10, false)⟩,
    ⟨some 12, .call { callee := .builtin .len, args := #[.tmp 11], argTypes := #[22] }, some (10, false)⟩,
    ⟨some 13, .binOp .gtr 3 (.tmp 12) (.const (.int .i64 40)) 3, some (10, false)⟩,
    ⟨some 14, .pick (.tmp 10) (.const (.bool true)) (.tmp 13), none⟩,
    ⟨some 15, .move (.tmp 14), none⟩,
    ⟨some 16, .move (.tmp 0), some (15, false)⟩,
    ⟨some 17, .call { callee := .value (.func 23), args := #[.tmp 16], argTypes := #[22] }, some (15, false)⟩,
    ⟨some 18, .unOp .not 4 (.tmp 17), some (15, false)⟩,
    ⟨some 19, .pick (.tmp 15) (.const (.bool true)) (.tmp 18), none⟩] [])
  (.cond (.tmp 19) (.seq (.reg [⟨some 20, .call { callee := .value (.func 31), args := #[], argTypes := #[] }, none⟩,
    ⟨some 2, .assign (.tmp 20), none⟩] [])
  .ret) .skip))
  (.seq (.reg [⟨some 21, .move (.tmp 0), none⟩,
    ⟨some 22, .call { callee := .value (.func 45), args := #[.tmp 21], argTypes := #[22] }, none⟩,
    ⟨some 3, .assign (.tmp 22), none⟩] [])
  (.seq (.seq (.reg [⟨some 23, .move (.tmp 0), none⟩,
    ⟨some 24, .call { callee := .builtin .len, args := #[.tmp 23], argTypes := #[22] }, none⟩,
    ⟨some 25, .move (.const (.int .i64 0)), none⟩] [])
  (.block 0 (.loop S15L1)))
  (.seq (.reg [⟨some 2, .assign (.const (.bool true)), none⟩] [])
  .ret)))))
theorem S15_eq : slimF Try.prog 15 = some (73, [.tmp 2], S15) := by kernel_rfl

def S16L1 : SC :=
  (.seq (.reg [⟨some 73, .binOp .lss 3 (.tmp 72) (.tmp 71) 3, none⟩] [])
  (.seq (.cond (.tmp 73) .skip (.exit 0))
  (.seq (.block 1 (.seq (.reg [⟨some 74, .move (.tmp 72), none⟩,
    ⟨some 13, .assign (.tmp 74), none⟩] [])
  (.seq (.reg [⟨some 76, .move (.tmp 9), none⟩,
    ⟨some 77, .move (.tmp 2), none⟩,
    ⟨some 78, .move (.tmp 13), none⟩,
    ⟨some 79, .move (.tmp 11), none⟩,
    ⟨some 80, .call { callee := .value (.func 33), args := #[.tmp 76, .tmp 77, .tmp 78, .tmp 79], argTypes := #[40, 3, 3, 3] }, none⟩,
    ⟨some 75, .move (.tmp 80), none⟩,
    ⟨some 81, .extract (.tmp 75) 0, none⟩,
    ⟨some 82, .extract (.tmp 75) 1, none⟩,
    ⟨some 14, .assign (.tmp 81), none⟩,
    ⟨some 15, .assign (.tmp 82), none⟩] [])
  (.seq (.reg [⟨some 84, .move (.tmp 9), none⟩,
    ⟨some 85, .move (.tmp 2), none⟩,
    ⟨some 86, .move (.tmp 11), none⟩,
    ⟨some 87, .move (.tmp 13), none⟩,
    ⟨some 88, .call { callee := .value (.func 33), args := #[.tmp 84, .tmp 85, .tmp 86, .tmp 87], argTypes := #[40, 3, 3, 3] }, none⟩,
    ⟨some 83, .move (.tmp 88), none⟩,
    ⟨some 89, .extract (.tmp 83) 0, none⟩,
    ⟨some 90, .extract (.tmp 83) 1, none⟩,
    ⟨some 16, .assign (.tmp 89), none⟩,
    ⟨some 17, .assign (.tmp 90), none⟩] [])
  (.seq (.reg [⟨some 91, .move (.tmp 10), none⟩,
    ⟨some 92, .unOp .not 4 (.tmp 91), none⟩,
    ⟨some 93, .move (.tmp 92), none⟩,
    ⟨some 94, .move (.tmp 12), some (93, false)⟩,
    ⟨some 95, .binOp .neq 30 (.tmp 94) (.const (.int .i64 0)) 30, some (93, false)⟩,
    ⟨some 96, .pick (.tmp 93) (.const (.bool true)) (.tmp 95), none⟩,
    ⟨some 97, .move (.tmp 96), none⟩,
    ⟨some 98, .move (.tmp 15), some (97, false)⟩,
    ⟨some 99, .binOp .neq 30 (.tmp 98) (.const (.int .i64 0)) 30, some (97, false)⟩,
    ⟨some 100, .pick (.tmp 97) (.const (.bool true)) (.tmp 99), none⟩,
    ⟨some 101, .move (.tmp 100), none⟩,
    ⟨some 102, .move (.tmp 17), some (101, false)⟩,
    ⟨some 103, .binOp .neq 30 (.tmp 102) (.const (.int .i64 0)) 30, some (101, false)⟩,
    ⟨some 104, .pick (.tmp 101) (.const (.bool true)) (.tmp 103), none⟩,
    ⟨some 105, .move (.tmp 104), none⟩,
    ⟨some 106, .move (.tmp 14), some (105, false)⟩,
    ⟨some 107, .move (.tmp 16), some (105, false)⟩,
    ⟨some 108, .binOp .neq 3 (.tmp 106) (.tmp 107) 3, some (105, false)⟩,
    ⟨some 109, .pick (.tmp 105) (.const (.bool true)) (.tmp 108), none⟩] [])
  (.cond (.tmp 109) (.seq (.reg [⟨some 6, .assign (.const (.bool false)), none⟩] [])
  .ret) .skip))))))
  (.reg [⟨some 110, .binOp .add 3 (.tmp 72) (.const (.int .i64 1)) 3, none⟩,
    ⟨some 72, .move (.tmp 110), none⟩] []))))
/-- tamis/tamislaw12.SimpTurns -/
def S16 : SC :=
  (.seq (.reg [⟨some 6, .assign (.const (.bool false)), none⟩] [])
  (.seq (.seq (.reg [⟨some 18, .call { callee := .value (.func 31), args := #[], argTypes := #[] }, none⟩,
    ⟨some 19, .unOp .not 4 (.tmp 18), none⟩,
    ⟨some 20, .move (.tmp 19), none⟩,
    ⟨some 21, .move (.tmp 0), some (20, false)⟩,
    ⟨some 22, .call { callee := .builtin .len, args := #[.tmp 21], argTypes := #[22] }, some (20, false)⟩,
    ⟨some 23, .binOp .eql 3 (.tmp 22) (.const (.int .i64 0)) 3, some (20, false)⟩,
    ⟨some 24, .pick (.tmp 20) (.const (.bool true)) (.tmp 23), none⟩,
    ⟨some 25, .move (.tmp 24), none⟩,
    ⟨some 26, .move (.tmp 0), some (25, false)⟩,
    ⟨some 27, .call { callee := .builtin .len, args := #[.tmp 26], argTypes := #[22] }, some (25, false)⟩,
    ⟨some 28, .binOp .gtr 3 (.tmp 27) (.const (.int .i64 40)) 3, some (25, false)⟩,
    ⟨some 29, .pick (.tmp 25) (.const (.bool true)) (.tmp 28), none⟩,
    ⟨some 30, .move (.tmp 29), none⟩,
    ⟨some 31, .move (.tmp 0), some (30, false)⟩,
    ⟨some 32, .call { callee := .value (.func 23), args := #[.tmp 31], argTypes := #[22] }, some (30, false)⟩,
    ⟨some 33, .unOp .not 4 (.tmp 32), some (30, false)⟩,
    ⟨some 34, .pick (.tmp 30) (.const (.bool true)) (.tmp 33), none⟩] [])
  (.cond (.tmp 34) (.seq (.reg [⟨some 35, .call { callee := .value (.func 31), args := #[], argTypes := #[] }, none⟩,
    ⟨some 6, .assign (.tmp 35), none⟩] [])
  .ret) .skip))
  (.seq (.seq (.reg [⟨some 36, .move (.tmp 2), none⟩,
    ⟨some 37, .binOp .neq 3 (.tmp 36) (.const (.int .i64 0)) 3, none⟩,
    ⟨some 38, .move (.tmp 37), none⟩,
    ⟨some 39, .move (.tmp 2), some (38, true)⟩,
    ⟨some 40, .binOp .neq 3 (.tmp 39) (.const (.int .i64 32)) 3, some (38, true)⟩,
    ⟨some 41, .pick (.tmp 38) (.tmp 40) (.const (.bool false)), none⟩,
    ⟨some 42, .move (.tmp 41), none⟩,
    ⟨some 43, .move (.tmp 2), some (42, true)⟩,
    ⟨some 44, .binOp .neq 3 (.tmp 43) (.const (.int .i64 64)) 3, some (42, true)⟩,
    ⟨some 45, .pick (.tmp 42) (.tmp 44) (.const (.bool false)), none⟩,
    ⟨some 46, .move (.tmp 45), none⟩,
    ⟨some 47, .move (.tmp 2), some (46, true)⟩,
    ⟨some 48, .binOp .neq 3 (.tmp 47) (.const (.int .i64 80)) 3, some (46, true)⟩,
    ⟨some 49, .pick (.tmp 46) (.tmp 48) (.const (.bool false)), none⟩,
    ⟨some 50, .move (.tmp 49), none⟩,
    ⟨some 51, .move (.tmp 2), some (50, true)⟩,
    ⟨some 52, .binOp .neq 3 (.tmp 51) (.const (.int .i64 160)) 3, some (50, true)⟩,
    ⟨some 53, .pick (.tmp 50) (.tmp 52) (.const (.bool false)), none⟩] [])
  (.cond (.tmp 53) (.seq (.reg [⟨some 6, .assign (.const (.bool true)), none⟩] [])
  .ret) .skip))
  (.seq (.reg [⟨some 55, .move (.tmp 0), none⟩,
    ⟨some 56, .call { callee := .value (.func 24), args := #[.const (.slice none 0 0), .tmp 55], argTypes := #[22, 22] }, none⟩,
    ⟨some 54, .move (.tmp 56), none⟩,
    ⟨some 57, .extract (.tmp 54) 0, none⟩,
    ⟨some 58, .extract (.tmp 54) 1, none⟩,
    ⟨some 7, .assign (.tmp 57), none⟩,
    ⟨some 8, .assign (.tmp 58), none⟩] [])
  (.seq (.reg [⟨some 60, .move (.tmp 7), none⟩,
    ⟨some 61, .call { callee := .value (.func 32), args := #[.tmp 60], argTypes := #[22] }, none⟩,
    ⟨some 59, .move (.tmp 61), none⟩,
    ⟨some 62, .extract (.tmp 59) 0, none⟩,
    ⟨some 63, .extract (.tmp 59) 1, none⟩,
    ⟨some 9, .assign (.tmp 62), none⟩,
    ⟨some 10, .assign (.tmp 63), none⟩] [])
  (.seq (.reg [⟨some 65, .move (.tmp 9), none⟩,
    ⟨some 66, .move (.tmp 1), none⟩,
    ⟨some 67, .call { callee := .value (.func 46), args := #[.tmp 65, .tmp 66], argTypes := #[40, 25] }, none⟩,
    ⟨some 64, .move (.tmp 67), none⟩,
    ⟨some 68, .extract (.tmp 64) 0, none⟩,
    ⟨some 69, .extract (.tmp 64) 1, none⟩,
    ⟨some 11, .assign (.tmp 68), none⟩,
    ⟨some 12, .assign (.tmp 69), none⟩] [])
  (.seq (.seq (.reg [⟨some 70, .move (.tmp 7), none⟩,
    ⟨some 71, .call { callee := .builtin .len, args := #[.tmp 70], argTypes := #[22] }, none⟩,
    ⟨some 72, .move (.const (.int .i64 0)), none⟩] [])
  (.block 0 (.loop S16L1)))
  (.seq (.reg [⟨some 6, .assign (.const (.bool true)), none⟩] [])
  .ret))))))))
theorem S16_eq : slimF Try.prog 16 = some (111, [.tmp 6], S16) := by kernel_rfl

/-- tamis/tamislaw13.awake -/
def S17 : SC :=
  (.seq (.reg [⟨some 0, .assign (.const (.bool false)), none⟩] [])
  (.seq (.reg [⟨some 28, .call { callee := .value (.func 47), args := #[], argTypes := #[] }, none⟩,
    ⟨some 1, .assign (.tmp 28), none⟩] [])
  (.seq (.reg [⟨some 30, .move (.tmp 1), none⟩,
    ⟨some 31, .call { callee := .value (.func 48), args := #[.tmp 30, .const (.int .i64 1)], argTypes := #[40, 3] }, none⟩,
    ⟨some 29, .move (.tmp 31), none⟩,
    ⟨some 32, .extract (.tmp 29) 0, none⟩,
    ⟨some 33, .extract (.tmp 29) 1, none⟩,
    ⟨some 2, .assign (.tmp 32), none⟩,
    ⟨some 3, .assign (.tmp 33), none⟩] [])
  (.seq (.reg [⟨some 35, .move (.tmp 1), none⟩,
    ⟨some 36, .call { callee := .value (.func 46), args := #[.tmp 35, .const (.int .u32 5)], argTypes := #[40, 25] }, none⟩,
    ⟨some 34, .move (.tmp 36), none⟩,
    ⟨some 37, .extract (.tmp 34) 0, none⟩,
    ⟨some 38, .extract (.tmp 34) 1, none⟩,
    ⟨some 4, .assign (.tmp 37), none⟩,
    ⟨some 5, .assign (.tmp 38), none⟩] [])
  (.seq (.reg [⟨some 40, .move (.tmp 1), none⟩,
    ⟨some 41, .call { callee := .value (.func 46), args := #[.tmp 40, .const (.int .u32 0)], argTypes := #[40, 25] }, none⟩,
    ⟨some 39, .move (.tmp 41), none⟩,
    ⟨some 42, .extract (.tmp 39) 0, none⟩,
    ⟨some 43, .extract (.tmp 39) 1, none⟩,
    ⟨some 6, .assign (.tmp 42), none⟩,
    ⟨some 7, .assign (.tmp 43), none⟩] [])
  (.seq (.reg [⟨some 45, .move (.tmp 1), none⟩,
    ⟨some 46, .move (.tmp 4), none⟩,
    ⟨some 47, .move (.tmp 2), none⟩,
    ⟨some 48, .call { callee := .value (.func 26), args := #[.tmp 45, .const (.int .i64 32), .tmp 46, .tmp 47, .const (.bool false)], argTypes := #[40, 3, 3, 3, 4] }, none⟩,
    ⟨some 44, .move (.tmp 48), none⟩,
    ⟨some 49, .extract (.tmp 44) 0, none⟩,
    ⟨some 50, .extract (.tmp 44) 1, none⟩,
    ⟨some 51, .extract (.tmp 44) 2, none⟩,
    ⟨some 8, .alloc 24, none⟩,
    ⟨none, .store 24 (.tmp 8) (.tmp 49), none⟩,
    ⟨some 9, .assign (.tmp 50), none⟩,
    ⟨some 10, .assign (.tmp 51), none⟩] [])
  (.seq (.reg [⟨some 53, .move (.tmp 1), none⟩,
    ⟨some 54, .fieldAddr 24 (.tmp 8) 2, none⟩,
    ⟨some 55, .load 3 (.tmp 54), none⟩,
    ⟨some 56, .call { callee := .value (.func 49), args := #[.tmp 53, .tmp 55], argTypes := #[40, 3] }, none⟩,
    ⟨some 52, .move (.tmp 56), none⟩,
    ⟨some 57, .extract (.tmp 52) 0, none⟩,
    ⟨some 58, .extract (.tmp 52) 1, none⟩,
    ⟨some 11, .alloc 52, none⟩,
    ⟨none, .store 52 (.tmp 11) (.tmp 57), none⟩,
    ⟨some 12, .assign (.tmp 58), none⟩] [])
  (.seq (.reg [⟨some 60, .move (.tmp 1), none⟩,
    ⟨some 61, .move (.tmp 2), none⟩,
    ⟨some 62, .move (.tmp 6), none⟩,
    ⟨some 63, .call { callee := .value (.func 26), args := #[.tmp 60, .const (.int .i64 48), .tmp 61, .tmp 62, .const (.bool true)], argTypes := #[40, 3, 3, 3, 4] }, none⟩,
    ⟨some 59, .move (.tmp 63), none⟩,
    ⟨some 64, .extract (.tmp 59) 0, none⟩,
    ⟨some 65, .extract (.tmp 59) 1, none⟩,
    ⟨some 66, .extract (.tmp 59) 2, none⟩,
    ⟨some 13, .alloc 24, none⟩,
    ⟨none, .store 24 (.tmp 13) (.tmp 64), none⟩,
    ⟨some 14, .assign (.tmp 65), none⟩,
    ⟨some 15, .assign (.tmp 66), none⟩] [])
  (.seq (.reg [⟨some 68, .move (.tmp 1), none⟩,
    ⟨some 69, .move (.tmp 2), none⟩,
    ⟨some 70, .move (.tmp 4), none⟩,
    ⟨some 71, .call { callee := .value (.func 26), args := #[.tmp 68, .const (.int .i64 80), .tmp 69, .tmp 70, .const (.bool false)], argTypes := #[40, 3, 3, 3, 4] }, none⟩,
    ⟨some 67, .move (.tmp 71), none⟩,
    ⟨some 72, .extract (.tmp 67) 0, none⟩,
    ⟨some 73, .extract (.tmp 67) 1, none⟩,
    ⟨some 74, .extract (.tmp 67) 2, none⟩,
    ⟨some 16, .alloc 24, none⟩,
    ⟨none, .store 24 (.tmp 16) (.tmp 72), none⟩,
    ⟨some 17, .assign (.tmp 73), none⟩,
    ⟨some 18, .assign (.tmp 74), none⟩] [])
  (.seq (.reg [⟨some 76, .move (.tmp 1), none⟩,
    ⟨some 77, .move (.tmp 2), none⟩,
    ⟨some 78, .call { callee := .value (.func 26), args := #[.tmp 76, .const (.int .i64 16), .tmp 77, .const (.int .i64 99), .const (.bool false)], argTypes := #[40, 3, 3, 3, 4] }, none⟩,
    ⟨some 75, .move (.tmp 78), none⟩,
    ⟨some 79, .extract (.tmp 75) 0, none⟩,
    ⟨some 80, .extract (.tmp 75) 1, none⟩,
    ⟨some 81, .extract (.tmp 75) 2, none⟩,
    ⟨some 19, .alloc 24, none⟩,
    ⟨none, .store 24 (.tmp 19) (.tmp 79), none⟩,
    ⟨some 20, .assign (.tmp 80), none⟩,
    ⟨some 21, .assign (.tmp 81), none⟩] [])
  (.seq (.reg [⟨some 83, .call { callee := .value (.func 26), args := #[.const (.pointer none), .const (.int .i64 16), .const (.int .i64 0), .const (.int .i64 0), .const (.bool false)], argTypes := #[40, 3, 3, 3, 4] }, none⟩,
    ⟨some 82, .move (.tmp 83), none⟩,
    ⟨some 84, .extract (.tmp 82) 0, none⟩,
    ⟨some 85, .extract (.tmp 82) 1, none⟩,
    ⟨some 86, .extract (.tmp 82) 2, none⟩,
    ⟨some 22, .alloc 24, none⟩,
    ⟨none, .store 24 (.tmp 22) (.tmp 84), none⟩,
    ⟨some 23, .assign (.tmp 85), none⟩,
    ⟨some 24, .assign (.tmp 86), none⟩] [])
  (.seq (.reg [⟨some 87, .build 52 #[(0, .const (.int .i64 2)), (3, .const (.int .u32 1))], none⟩,
    ⟨some 88, .build 52 #[(0, .const (.int .i64 1)), (3, .const (.int .u32 5))], none⟩,
    ⟨some 89, .buildSlice 22 2 #[(0, .tmp 87), (1, .tmp 88)], none⟩,
    ⟨some 25, .assign (.tmp 89), none⟩] [])
  (.seq (.reg [⟨some 91, .move (.tmp 25), none⟩,
    ⟨some 92, .build 24 #[(0, .const (.int .i64 16)), (1, .const (.int .i64 0)), (2, .const (.int .i64 1))], none⟩,
    ⟨some 93, .build 27 #[(1, .const (.int .u32 5))], none⟩,
    ⟨some 94, .call { callee := .value (.func 19), args := #[.tmp 91, .tmp 92, .tmp 93], argTypes := #[22, 24, 27] }, none⟩,
    ⟨some 90, .move (.tmp 94), none⟩,
    ⟨some 95, .extract (.tmp 90) 0, none⟩,
    ⟨some 96, .extract (.tmp 90) 1, none⟩,
    ⟨some 26, .assign (.tmp 95), none⟩,
    ⟨some 27, .assign (.tmp 96), none⟩] [])
  (.seq (.reg [⟨some 97, .fieldAddr 24 (.tmp 8) 0, none⟩,
    ⟨some 98, .load 3 (.tmp 97), none⟩,
    ⟨some 99, .binOp .eql 3 (.tmp 98) (.const (.int .i64 32)) 3, none⟩,
    ⟨some 100, .move (.tmp 99), none⟩,
    ⟨some 101, .fieldAddr 24 (.tmp 8) 1, some (100, true)⟩,
    ⟨some 102, .load 3 (.tmp 101), some (100, true)⟩,
    ⟨some 103, .move (.tmp 2), some (100, true)⟩,
    ⟨some 104, .binOp .eql 3 (.tmp 102) (.tmp 103) 3, some (100, true)⟩,
    ⟨some 105, .pick (.tmp 100) (.tmp 104) (.const (.bool false)), none⟩,
    ⟨some 106, .move (.tmp 105), none⟩,
    ⟨some 107, .fieldAddr 24 (.tmp 8) 3, some (106, true)⟩,
    ⟨some 108, .load 4 (.tmp 107), some (106, true)⟩,
    ⟨some 109, .pick (.tmp 106) (.tmp 108) (.const (.bool false)), none⟩,
    ⟨some 110, .move (.tmp 109), none⟩,
    ⟨some 111, .fieldAddr 52 (.tmp 11) 3, some (110, true)⟩,
    ⟨some 112, .load 25 (.tmp 111), some (110, true)⟩,
    ⟨some 113, .binOp .eql 25 (.tmp 112) (.const (.int .u32 4)) 25, some (110, true)⟩,
    ⟨some 114, .pick (.tmp 110) (.tmp 113) (.const (.bool false)), none⟩,
    ⟨some 115, .move (.tmp 114), none⟩,
    ⟨some 116, .move (.tmp 9), some (115, true)⟩,
    ⟨some 117, .binOp .eql 3 (.tmp 116) (.const (.int .i64 1)) 3, some (115, true)⟩,
    ⟨some 118, .pick (.tmp 115) (.tmp 117) (.const (.bool false)), none⟩,
    ⟨some 119, .move (.tmp 118), none⟩,
    ⟨some 120, .move (.tmp 10), some (119, true)⟩,
    ⟨some 121, .binOp .eql 30 (.tmp 120) (.const (.int .i64 0)) 30, some (119, true)⟩,
    ⟨some 122, .pick (.tmp 119) (.tmp 121) (.const (.bool false)), none⟩,
    ⟨some 123, .move (.tmp 122), none⟩,
    ⟨some 124, .move (.tmp 14), some (123, true)⟩,
    ⟨some 125, .binOp .eql 3 (.tmp 124) (.const (.int .i64 3)) 3, some (123, true)⟩,
    ⟨some 126, .pick (.tmp 123) (.tmp 125) (.const (.bool false)), none⟩,
    ⟨some 127, .move (.tmp 126), none⟩,
    ⟨some 128, .move (.tmp 15), some (127, true)⟩,
    ⟨some 129, .binOp .eql 30 (.tmp 128) (.const (.int .i64 0)) 30, some (127, true)⟩,
    ⟨some 130, .pick (.tmp 127) (.tmp 129) (.const (.bool false)), none⟩,
    ⟨some 131, .move (.tmp 130), none⟩,
    ⟨some 132, .move (.tmp 18), some (131, true)⟩,
    ⟨some 133, .binOp .eql 30 (.tmp 132) (.const (.int .i64 1)) 30, some (131, true)⟩,
    ⟨some 134, .pick (.tmp 131) (.tmp 133) (.const (.bool false)), none⟩,
    ⟨some 135, .move (.tmp 134), none⟩,
    ⟨some 136, .move (.tmp 21), some (135, true)⟩,
    ⟨some 137, .binOp .eql 30 (.tmp 136) (.const (.int .i64 2)) 30, some (135, true)⟩,
    ⟨some 138, .pick (.tmp 135) (.tmp 137) (.const (.bool false)), none⟩,
    ⟨some 139, .move (.tmp 138), none⟩,
    ⟨some 140, .move (.tmp 24), some (139, true)⟩,
    ⟨some 141, .binOp .eql 30 (.tmp 140) (.const (.int .i64 16)) 30, some (139, true)⟩,
    ⟨some 142, .pick (.tmp 139) (.tmp 141) (.const (.bool false)), none⟩,
    ⟨some 143, .move (.tmp 142), none⟩,
    ⟨some 144, .move (.tmp 26), some (143, true)⟩,
    ⟨some 145, .pick (.tmp 143) (.tmp 144) (.const (.bool false)), none⟩,
    ⟨some 146, .move (.tmp 145), none⟩,
    ⟨some 147, .move (.tmp 27), some (146, true)⟩,
    ⟨some 148, .binOp .eql 30 (.tmp 147) (.const (.int .i64 0)) 30, some (146, true)⟩,
    ⟨some 149, .pick (.tmp 146) (.tmp 148) (.const (.bool false)), none⟩,
    ⟨some 150, .move (.tmp 149), none⟩,
    ⟨some 151, .load 24 (.tmp 8), some (150, true)⟩,
    ⟨some 152, .call { callee := .value (.func 21), args := #[.tmp 151], argTypes := #[24] }, some (150, true)⟩,
    ⟨some 153, .call { callee := .value (.func 21), args := #[.tmp 152], argTypes := #[24] }, some (150, true)⟩,
    ⟨some 154, .load 24 (.tmp 8), some (150, true)⟩,
    ⟨some 155, .binOp .eql 24 (.tmp 153) (.tmp 154) 24, some (150, true)⟩,
    ⟨some 156, .pick (.tmp 150) (.tmp 155) (.const (.bool false)), none⟩,
    ⟨some 157, .move (.tmp 156), none⟩,
    ⟨some 158, .load 24 (.tmp 8), some (157, true)⟩,
    ⟨some 159, .call { callee := .value (.func 21), args := #[.tmp 158], argTypes := #[24] }, some (157, true)⟩,
    ⟨some 160, .field 24 (.tmp 159) 3, some (157, true)⟩,
    ⟨some 161, .unOp .not 4 (.tmp 160), some (157, true)⟩,
    ⟨some 162, .pick (.tmp 157) (.tmp 161) (.const (.bool false)), none⟩,
    ⟨some 163, .move (.tmp 162), none⟩,
    ⟨some 164, .move (.tmp 25), some (163, true)⟩,
    ⟨some 165, .build 24 #[(0, .const (.int .i64 16)), (2, .const (.int .i64 2))], some (163, true)⟩,
    ⟨some 166, .call { callee := .value (.func 20), args := #[.tmp 164, .tmp 165], argTypes := #[22, 24] }, some (163, true)⟩,
    ⟨some 167, .binOp .eql 30 (.tmp 166) (.const (.int .i64 2)) 30, some (163, true)⟩,
    ⟨some 168, .pick (.tmp 163) (.tmp 167) (.const (.bool false)), none⟩,
    ⟨some 0, .assign (.tmp 168), none⟩] [(57, 55), (57, 56)])
  .ret))))))))))))))
theorem S17_eq : slimF Try.prog 17 = some (169, [.tmp 0], S17) := by kernel_rfl

/-- tamis/tamisref13.Check -/
def S18 : SC :=
  (.seq (.reg [⟨some 3, .box 24 (.tmp 1), none⟩,
    ⟨some 4, .assign (.const (.int .i64 0)), none⟩] [])
  (.seq (.seq (.reg [⟨some 5, .move (.tmp 0), none⟩,
    ⟨some 6, .call { callee := .value (.func 23), args := #[.tmp 5], argTypes := #[22] }, none⟩,
    ⟨some 7, .unOp .not 4 (.tmp 6), none⟩] [])
  (.cond (.tmp 7) (.seq (.reg [⟨some 4, .assign (.const (.int .i64 3)), none⟩] [])
  .ret) .skip))
  (.seq (.seq (.reg [⟨some 8, .fieldAddr 24 (.tmp 3) 0, none⟩,
    ⟨some 9, .load 3 (.tmp 8), none⟩,
    ⟨some 10, .binOp .neq 3 (.tmp 9) (.const (.int .i64 16)) 3, none⟩,
    ⟨some 11, .move (.tmp 10), none⟩,
    ⟨some 12, .fieldAddr 24 (.tmp 3) 0, some (11, true)⟩,
    ⟨some 13, .load 3 (.tmp 12), some (11, true)⟩,
    ⟨some 14, .binOp .neq 3 (.tmp 13) (.const (.int .i64 32)) 3, some (11, true)⟩,
    ⟨some 15, .pick (.tmp 11) (.tmp 14) (.const (.bool false)), none⟩,
    ⟨some 16, .move (.tmp 15), none⟩,
    ⟨some 17, .fieldAddr 24 (.tmp 3) 0, some (16, true)⟩,
    ⟨some 18, .load 3 (.tmp 17), some (16, true)⟩,
    ⟨some 19, .binOp .neq 3 (.tmp 18) (.const (.int .i64 48)) 3, some (16, true)⟩,
    ⟨some 20, .pick (.tmp 16) (.tmp 19) (.const (.bool false)), none⟩,
    ⟨some 21, .move (.tmp 20), none⟩,
    ⟨some 22, .fieldAddr 24 (.tmp 3) 0, some (21, true)⟩,
    ⟨some 23, .load 3 (.tmp 22), some (21, true)⟩,
    ⟨some 24, .binOp .neq 3 (.tmp 23) (.const (.int .i64 64)) 3, some (21, true)⟩,
    ⟨some 25, .pick (.tmp 21) (.tmp 24) (.const (.bool false)), none⟩] [])
  (.cond (.tmp 25) (.seq (.reg [⟨some 4, .assign (.const (.int .i64 1)), none⟩] [])
  .ret) .skip))
  (.seq (.seq (.reg [⟨some 26, .fieldAddr 24 (.tmp 3) 1, none⟩,
    ⟨some 27, .load 3 (.tmp 26), none⟩,
    ⟨some 28, .binOp .lss 3 (.tmp 27) (.const (.int .i64 0)) 3, none⟩,
    ⟨some 29, .move (.tmp 28), none⟩,
    ⟨some 30, .fieldAddr 24 (.tmp 3) 1, some (29, false)⟩,
    ⟨some 31, .load 3 (.tmp 30), some (29, false)⟩,
    ⟨some 32, .move (.tmp 0), some (29, false)⟩,
    ⟨some 33, .call { callee := .builtin .len, args := #[.tmp 32], argTypes := #[22] }, some (29, false)⟩,
    ⟨some 34, .binOp .geq 3 (.tmp 31) (.tmp 33) 3, some (29, false)⟩,
    ⟨some 35, .pick (.tmp 29) (.const (.bool true)) (.tmp 34), none⟩,
    ⟨some 36, .move (.tmp 35), none⟩,
    ⟨some 37, .fieldAddr 24 (.tmp 3) 2, some (36, false)⟩,
    ⟨some 38, .load 3 (.tmp 37), some (36, false)⟩,
    ⟨some 39, .binOp .lss 3 (.tmp 38) (.const (.int .i64 0)) 3, some (36, false)⟩,
    ⟨some 40, .pick (.tmp 36) (.const (.bool true)) (.tmp 39), none⟩,
    ⟨some 41, .move (.tmp 40), none⟩,
    ⟨some 42, .fieldAddr 24 (.tmp 3) 2, some (41, false)⟩,
    ⟨some 43, .load 3 (.tmp 42), some (41, false)⟩,
    ⟨some 44, .move (.tmp 0), some (41, false)⟩,
    ⟨some 45, .call { callee := .builtin .len, args := #[.tmp 44], argTypes := #[22] }, some (41, false)⟩,
    ⟨some 46, .binOp .geq 3 (.tmp 43) (.tmp 45) 3, some (41, false)⟩,
    ⟨some 47, .pick (.tmp 41) (.const (.bool true)) (.tmp 46), none⟩] [])
  (.cond (.tmp 47) (.seq (.reg [⟨some 4, .assign (.const (.int .i64 2)), none⟩] [])
  .ret) .skip))
  (.seq (.reg [⟨some 4, .assign (.const (.int .i64 0)), none⟩] [])
  .ret)))))
theorem S18_eq : slimF Try.prog 18 = some (48, [.tmp 4], S18) := by kernel_rfl

/-- tamis/atom.Holds -/
def S19 : SC :=
  (.seq (.reg [⟨some 4, .box 24 (.tmp 1), none⟩,
    ⟨some 5, .box 27 (.tmp 2), none⟩,
    ⟨some 6, .assign (.const (.bool false)), none⟩,
    ⟨some 7, .assign (.const (.int .i64 0)), none⟩] [])
  (.seq (.seq (.reg [⟨some 11, .move (.tmp 0), none⟩,
    ⟨some 12, .load 24 (.tmp 4), none⟩,
    ⟨some 13, .call { callee := .value (.func 20), args := #[.tmp 11, .tmp 12], argTypes := #[22, 24] }, none⟩,
    ⟨some 8, .assign (.tmp 13), none⟩] [])
  (.seq (.reg [⟨some 14, .move (.tmp 8), none⟩,
    ⟨some 15, .binOp .neq 30 (.tmp 14) (.const (.int .i64 0)) 30, none⟩] [])
  (.cond (.tmp 15) (.seq (.reg [⟨some 16, .move (.tmp 8), none⟩,
    ⟨some 6, .assign (.const (.bool false)), none⟩,
    ⟨some 7, .assign (.tmp 16), none⟩] [])
  .ret) .skip)))
  (.seq (.reg [⟨some 18, .move (.tmp 0), none⟩,
    ⟨some 19, .load 27 (.tmp 5), none⟩,
    ⟨some 20, .call { callee := .value (.func 50), args := #[.tmp 18, .tmp 19], argTypes := #[22, 27] }, none⟩,
    ⟨some 17, .move (.tmp 20), none⟩,
    ⟨some 21, .extract (.tmp 17) 0, none⟩,
    ⟨some 22, .extract (.tmp 17) 1, none⟩,
    ⟨some 9, .assign (.tmp 21), none⟩,
    ⟨some 10, .assign (.tmp 22), none⟩] [])
  (.seq (.reg [⟨some 23, .fieldAddr 24 (.tmp 4) 0, none⟩,
    ⟨some 24, .load 3 (.tmp 23), none⟩,
    ⟨some 25, .move (.tmp 9), none⟩,
    ⟨some 26, .fieldAddr 24 (.tmp 4) 1, none⟩,
    ⟨some 27, .load 3 (.tmp 26), none⟩,
    ⟨some 28, .indexAddr 69 (.tmp 25) (.tmp 27), none⟩,
    ⟨some 29, .load 25 (.tmp 28), none⟩,
    ⟨some 30, .move (.tmp 9), none⟩,
    ⟨some 31, .fieldAddr 24 (.tmp 4) 2, none⟩,
    ⟨some 32, .load 3 (.tmp 31), none⟩,
    ⟨some 33, .indexAddr 69 (.tmp 30) (.tmp 32), none⟩,
    ⟨some 34, .load 25 (.tmp 33), none⟩,
    ⟨some 35, .call { callee := .value (.func 51), args := #[.tmp 24, .tmp 29, .tmp 34], argTypes := #[3, 25, 25] }, none⟩,
    ⟨some 36, .fieldAddr 24 (.tmp 4) 3, none⟩,
    ⟨some 37, .load 4 (.tmp 36), none⟩,
    ⟨some 38, .binOp .neq 4 (.tmp 35) (.tmp 37) 4, none⟩,
    ⟨some 6, .assign (.tmp 38), none⟩,
    ⟨some 7, .assign (.const (.int .i64 0)), none⟩] [(14, 12)])
  .ret))))
theorem S19_eq : slimF Try.prog 19 = some (39, [.tmp 6, .tmp 7], S19) := by kernel_rfl

/-- tamis/atom.Check -/
def S20 : SC :=
  (.seq (.reg [⟨some 3, .box 24 (.tmp 1), none⟩,
    ⟨some 4, .assign (.const (.int .i64 0)), none⟩] [])
  (.seq (.seq (.reg [⟨some 8, .move (.tmp 0), none⟩,
    ⟨some 9, .call { callee := .value (.func 52), args := #[.tmp 8], argTypes := #[22] }, none⟩,
    ⟨some 7, .move (.tmp 9), none⟩,
    ⟨some 10, .extract (.tmp 7) 0, none⟩,
    ⟨some 11, .extract (.tmp 7) 1, none⟩,
    ⟨some 5, .assign (.tmp 10), none⟩,
    ⟨some 6, .assign (.tmp 11), none⟩] [])
  (.seq (.reg [⟨some 12, .move (.tmp 6), none⟩,
    ⟨some 13, .binOp .neq 30 (.tmp 12) (.const (.int .i64 0)) 30, none⟩] [])
  (.cond (.tmp 13) (.seq (.reg [⟨some 4, .assign (.const (.int .i64 3)), none⟩] [])
  .ret) .skip)))
  (.seq (.block 0 (.seq (.reg [⟨some 15, .fieldAddr 24 (.tmp 3) 0, none⟩,
    ⟨some 16, .load 3 (.tmp 15), none⟩,
    ⟨some 17, .call { callee := .value (.func 53), args := #[.tmp 16], argTypes := #[3] }, none⟩,
    ⟨some 18, .unOp .not 4 (.tmp 17), none⟩,
    ⟨some 14, .assign (.tmp 18), none⟩] [])
  (.cond (.tmp 14) (.seq (.reg [⟨some 4, .assign (.const (.int .i64 1)), none⟩] [])
  .ret) (.seq (.reg [⟨some 20, .fieldAddr 24 (.tmp 3) 1, none⟩,
    ⟨some 21, .load 3 (.tmp 20), none⟩,
    ⟨some 22, .binOp .lss 3 (.tmp 21) (.const (.int .i64 0)) 3, none⟩,
    ⟨some 23, .move (.tmp 22), none⟩,
    ⟨some 24, .fieldAddr 24 (.tmp 3) 1, some (23, false)⟩,
    ⟨some 25, .load 3 (.tmp 24), some (23, false)⟩,
    ⟨some 26, .move (.tmp 0), some (23, false)⟩,
    ⟨some 27, .call { callee := .builtin .len, args := #[.tmp 26], argTypes := #[22] }, some (23, false)⟩,
    ⟨some 28, .binOp .geq 3 (.tmp 25) (.tmp 27) 3, some (23, false)⟩,
    ⟨some 29, .pick (.tmp 23) (.const (.bool true)) (.tmp 28), none⟩,
    ⟨some 30, .move (.tmp 29), none⟩,
    ⟨some 31, .fieldAddr 24 (.tmp 3) 2, some (30, false)⟩,
    ⟨some 32, .load 3 (.tmp 31), some (30, false)⟩,
    ⟨some 33, .binOp .lss 3 (.tmp 32) (.const (.int .i64 0)) 3, some (30, false)⟩,
    ⟨some 34, .pick (.tmp 30) (.const (.bool true)) (.tmp 33), none⟩,
    ⟨some 35, .move (.tmp 34), none⟩,
    ⟨some 36, .fieldAddr 24 (.tmp 3) 2, some (35, false)⟩,
    ⟨some 37, .load 3 (.tmp 36), some (35, false)⟩,
    ⟨some 38, .move (.tmp 0), some (35, false)⟩,
    ⟨some 39, .call { callee := .builtin .len, args := #[.tmp 38], argTypes := #[22] }, some (35, false)⟩,
    ⟨some 40, .binOp .geq 3 (.tmp 37) (.tmp 39) 3, some (35, false)⟩,
    ⟨some 41, .pick (.tmp 35) (.const (.bool true)) (.tmp 40), none⟩,
    ⟨some 19, .assign (.tmp 41), none⟩] [])
  (.cond (.tmp 19) (.seq (.reg [⟨some 4, .assign (.const (.int .i64 2)), none⟩] [])
  .ret) .skip)))))
  (.seq (.reg [⟨some 4, .assign (.const (.int .i64 0)), none⟩] [])
  .ret))))
theorem S20_eq : slimF Try.prog 20 = some (42, [.tmp 4], S20) := by kernel_rfl

/-- tamis/atom.Turned -/
def S21 : SC :=
  (.seq (.reg [⟨some 1, .box 24 (.tmp 0), none⟩,
    ⟨some 2, .alloc 24, none⟩] [])
  (.seq (.reg [⟨some 3, .fieldAddr 24 (.tmp 1) 3, none⟩,
    ⟨some 4, .load 4 (.tmp 3), none⟩,
    ⟨some 5, .unOp .not 4 (.tmp 4), none⟩,
    ⟨some 6, .fieldAddr 24 (.tmp 1) 3, none⟩,
    ⟨none, .store 4 (.tmp 6) (.tmp 5), none⟩] [])
  (.seq (.reg [⟨some 7, .load 24 (.tmp 1), none⟩,
    ⟨none, .store 24 (.tmp 2) (.tmp 7), none⟩] [])
  .ret)))
theorem S21_eq : slimF Try.prog 21 = some (8, [.cell 2 24], S21) := by kernel_rfl

/-- tamis/tamisref13.Holds -/
def S22 : SC :=
  (.seq (.reg [⟨some 4, .box 24 (.tmp 1), none⟩,
    ⟨some 5, .box 27 (.tmp 2), none⟩,
    ⟨some 6, .assign (.const (.bool false)), none⟩] [])
  (.seq (.reg [⟨some 8, .move (.tmp 0), none⟩,
    ⟨some 9, .load 27 (.tmp 5), none⟩,
    ⟨some 10, .call { callee := .value (.func 38), args := #[.tmp 8, .tmp 9], argTypes := #[22, 27] }, none⟩,
    ⟨some 7, .assign (.tmp 10), none⟩] [])
  (.seq (.reg [⟨some 11, .fieldAddr 24 (.tmp 4) 0, none⟩,
    ⟨some 12, .load 3 (.tmp 11), none⟩,
    ⟨some 13, .move (.tmp 7), none⟩,
    ⟨some 14, .fieldAddr 24 (.tmp 4) 1, none⟩,
    ⟨some 15, .load 3 (.tmp 14), none⟩,
    ⟨some 16, .indexAddr 69 (.tmp 13) (.tmp 15), none⟩,
    ⟨some 17, .load 25 (.tmp 16), none⟩,
    ⟨some 18, .move (.tmp 7), none⟩,
    ⟨some 19, .fieldAddr 24 (.tmp 4) 2, none⟩,
    ⟨some 20, .load 3 (.tmp 19), none⟩,
    ⟨some 21, .indexAddr 69 (.tmp 18) (.tmp 20), none⟩,
    ⟨some 22, .load 25 (.tmp 21), none⟩,
    ⟨some 23, .call { callee := .value (.func 54), args := #[.tmp 12, .tmp 17, .tmp 22], argTypes := #[3, 25, 25] }, none⟩,
    ⟨some 24, .fieldAddr 24 (.tmp 4) 3, none⟩,
    ⟨some 25, .load 4 (.tmp 24), none⟩,
    ⟨some 26, .binOp .neq 4 (.tmp 23) (.tmp 25) 4, none⟩,
    ⟨some 6, .assign (.tmp 26), none⟩] [(14, 12)])
  .ret)))
theorem S22_eq : slimF Try.prog 22 = some (27, [.tmp 6], S22) := by kernel_rfl

/-- tamis/tamisref11.Right -/
def S23 : SC :=
  (.seq (.reg [⟨some 2, .assign (.const (.bool false)), none⟩] [])
  (.seq (.reg [⟨some 6, .move (.tmp 0), none⟩,
    ⟨some 7, .call { callee := .value (.func 55), args := #[.tmp 6], argTypes := #[22] }, none⟩,
    ⟨some 5, .move (.tmp 7), none⟩,
    ⟨some 8, .extract (.tmp 5) 0, none⟩,
    ⟨some 9, .extract (.tmp 5) 1, none⟩,
    ⟨some 3, .assign (.tmp 8), none⟩,
    ⟨some 4, .assign (.tmp 9), none⟩] [])
  (.seq (.reg [⟨some 10, .move (.tmp 4), none⟩,
    ⟨some 11, .binOp .eql 3 (.tmp 10) (.const (.int .i64 0)) 3, none⟩,
    ⟨some 2, .assign (.tmp 11), none⟩] [])
  .ret)))
theorem S23_eq : slimF Try.prog 23 = some (12, [.tmp 2], S23) := by kernel_rfl

def S24L1 : SC :=
  (.seq (.seq (.reg [⟨some 12, .move (.tmp 7), none⟩,
    ⟨some 13, .move (.tmp 1), none⟩,
    ⟨some 14, .call { callee := .builtin .len, args := #[.tmp 13], argTypes := #[22] }, none⟩,
    ⟨some 15, .binOp .lss 3 (.tmp 12) (.tmp 14) 3, none⟩] [])
  (.cond (.tmp 15) .skip (.exit 0)))
  (.seq (.block 1 (.seq (.reg [⟨some 18, .move (.tmp 1), none⟩,
    ⟨some 19, .move (.tmp 7), none⟩,
    ⟨some 20, .indexAddr 22 (.tmp 18) (.tmp 19), none⟩,
    ⟨some 21, .load 52 (.tmp 20), none⟩,
    ⟨some 8, .alloc 52, none⟩,
    ⟨none, .store 52 (.tmp 8) (.tmp 21), none⟩] [])
  (.seq (.seq (.reg [⟨some 22, .fieldAddr 52 (.tmp 8) 0, none⟩,
    ⟨some 23, .load 3 (.tmp 22), none⟩,
    ⟨some 24, .binOp .gtr 3 (.tmp 23) (.const (.int .i64 2)) 3, none⟩] [])
  (.cond (.tmp 24) (.seq (.reg [⟨some 25, .move (.tmp 6), none⟩,
    ⟨some 26, .fieldAddr 52 (.tmp 8) 1, none⟩,
    ⟨some 27, .load 3 (.tmp 26), none⟩,
    ⟨some 28, .indexAddr 37 (.tmp 25) (.tmp 27), none⟩,
    ⟨some 29, .load 3 (.tmp 28), none⟩,
    ⟨some 30, .fieldAddr 52 (.tmp 8) 1, none⟩,
    ⟨none, .store 3 (.tmp 30) (.tmp 29), none⟩] [])
  (.seq (.reg [⟨some 31, .fieldAddr 52 (.tmp 8) 0, none⟩,
    ⟨some 32, .load 3 (.tmp 31), none⟩,
    ⟨some 33, .binOp .neq 3 (.tmp 32) (.const (.int .i64 384)) 3, none⟩] [])
  (.cond (.tmp 33) (.reg [⟨some 34, .move (.tmp 6), none⟩,
    ⟨some 35, .fieldAddr 52 (.tmp 8) 2, none⟩,
    ⟨some 36, .load 3 (.tmp 35), none⟩,
    ⟨some 37, .indexAddr 37 (.tmp 34) (.tmp 36), none⟩,
    ⟨some 38, .load 3 (.tmp 37), none⟩,
    ⟨some 39, .fieldAddr 52 (.tmp 8) 2, none⟩,
    ⟨none, .store 3 (.tmp 39) (.tmp 38), none⟩] []) .skip))) .skip))
  (.reg [⟨some 41, .move (.tmp 6), none⟩,
    ⟨some 42, .move (.tmp 7), none⟩,
    ⟨some 43, .move (.tmp 0), none⟩,
    ⟨some 44, .load 52 (.tmp 8), none⟩,
    ⟨some 45, .call { callee := .value (.func 56), args := #[.tmp 43, .tmp 44], argTypes := #[22, 52] }, none⟩,
    ⟨some 40, .move (.tmp 45), none⟩,
    ⟨some 46, .extract (.tmp 40) 0, none⟩,
    ⟨some 47, .extract (.tmp 40) 1, none⟩,
    ⟨some 0, .assign (.tmp 46), none⟩,
    ⟨some 48, .indexAddr 37 (.tmp 41) (.tmp 42), none⟩,
    ⟨none, .store 3 (.tmp 48) (.tmp 47), none⟩] []))))
  (.reg [⟨some 16, .move (.tmp 7), none⟩,
    ⟨some 17, .binOp .add 3 (.tmp 16) (.const (.int .i64 1)) 3, none⟩,
    ⟨some 7, .assign (.tmp 17), none⟩] [])))
/-- tamis/tamisref11.Into -/
def S24 : SC :=
  (.seq (.reg [⟨some 4, .assign (.const (.slice none 0 0)), none⟩,
    ⟨some 5, .assign (.const (.slice none 0 0)), none⟩] [])
  (.seq (.reg [⟨some 9, .move (.tmp 1), none⟩,
    ⟨some 10, .call { callee := .builtin .len, args := #[.tmp 9], argTypes := #[22] }, none⟩,
    ⟨some 11, .makeSlice 37 (.tmp 10) (.tmp 10), none⟩,
    ⟨some 6, .assign (.tmp 11), none⟩] [])
  (.seq (.seq (.reg [⟨some 7, .assign (.const (.int .i64 0)), none⟩] [])
  (.block 0 (.loop S24L1)))
  (.seq (.reg [⟨some 49, .move (.tmp 0), none⟩,
    ⟨some 50, .move (.tmp 6), none⟩,
    ⟨some 4, .assign (.tmp 49), none⟩,
    ⟨some 5, .assign (.tmp 50), none⟩] [])
  .ret))))
theorem S24_eq : slimF Try.prog 24 = some (51, [.tmp 4, .tmp 5], S24) := by kernel_rfl

def S25L1 : SC :=
  (.seq (.reg [⟨some 13, .binOp .lss 3 (.tmp 12) (.tmp 11) 3, none⟩] [])
  (.seq (.cond (.tmp 13) .skip (.exit 0))
  (.seq (.block 1 (.seq (.reg [⟨some 14, .move (.tmp 12), none⟩,
    ⟨some 15, .indexAddr 22 (.tmp 10) (.tmp 12), none⟩,
    ⟨some 16, .load 52 (.tmp 15), none⟩,
    ⟨some 6, .alloc 52, none⟩,
    ⟨some 5, .assign (.tmp 14), none⟩,
    ⟨none, .store 52 (.tmp 6) (.tmp 16), none⟩] [])
  (.seq (.reg [⟨some 18, .move (.tmp 4), none⟩,
    ⟨some 19, .load 52 (.tmp 6), none⟩,
    ⟨some 20, .call { callee := .value (.func 57), args := #[.tmp 18, .tmp 19], argTypes := #[40, 52] }, none⟩,
    ⟨some 17, .move (.tmp 20), none⟩,
    ⟨some 21, .extract (.tmp 17) 0, none⟩,
    ⟨some 22, .extract (.tmp 17) 1, none⟩,
    ⟨some 7, .assign (.tmp 21), none⟩,
    ⟨some 8, .assign (.tmp 22), none⟩] [])
  (.seq (.reg [⟨some 23, .move (.tmp 7), none⟩,
    ⟨some 24, .move (.tmp 5), none⟩,
    ⟨some 25, .binOp .neq 3 (.tmp 23) (.tmp 24) 3, none⟩,
    ⟨some 26, .move (.tmp 25), none⟩,
    ⟨some 27, .move (.tmp 8), some (26, false)⟩,
    ⟨some 28, .binOp .neq 30 (.tmp 27) (.const (.int .i64 0)) 30, some (26, false)⟩,
    ⟨some 29, .pick (.tmp 26) (.const (.bool true)) (.tmp 28), none⟩] [])
  (.cond (.tmp 29) (.seq (.reg [⟨some 30, .move (.tmp 4), none⟩,
    ⟨some 2, .assign (.tmp 30), none⟩,
    ⟨some 3, .assign (.const (.bool false)), none⟩] [])
  .ret) .skip)))))
  (.reg [⟨some 31, .binOp .add 3 (.tmp 12) (.const (.int .i64 1)) 3, none⟩,
    ⟨some 12, .move (.tmp 31), none⟩] []))))
/-- tamis/tamislaw13.pool -/
def S25 : SC :=
  (.seq (.reg [⟨some 2, .assign (.const (.pointer none)), none⟩,
    ⟨some 3, .assign (.const (.bool false)), none⟩] [])
  (.seq (.reg [⟨some 9, .call { callee := .value (.func 47), args := #[], argTypes := #[] }, none⟩,
    ⟨some 4, .assign (.tmp 9), none⟩] [])
  (.seq (.seq (.reg [⟨some 10, .move (.tmp 0), none⟩,
    ⟨some 11, .call { callee := .builtin .len, args := #[.tmp 10], argTypes := #[22] }, none⟩,
    ⟨some 12, .move (.const (.int .i64 0)), none⟩] [])
  (.block 0 (.loop S25L1)))
  (.seq (.reg [⟨some 32, .move (.tmp 4), none⟩,
    ⟨some 2, .assign (.tmp 32), none⟩,
    ⟨some 3, .assign (.const (.bool true)), none⟩] [])
  .ret))))
theorem S25_eq : slimF Try.prog 25 = some (33, [.tmp 2, .tmp 3], S25) := by kernel_rfl

def S26L1 : SC :=
  (.seq (.seq (.reg [⟨some 54, .move (.tmp 19), none⟩,
    ⟨some 55, .binOp .eql 3 (.tmp 54) (.const (.int .i64 0)) 3, none⟩,
    ⟨some 56, .move (.tmp 55), none⟩,
    ⟨some 57, .move (.tmp 17), some (56, true)⟩,
    ⟨some 58, .nilCheck (.tmp 57), some (56, true)⟩,
    ⟨some 59, .fieldAddr 99 (.tmp 58) 1, some (56, true)⟩,
    ⟨some 60, .load 30 (.tmp 59), some (56, true)⟩,
    ⟨some 61, .binOp .eql 30 (.tmp 60) (.const (.int .i64 0)) 30, some (56, true)⟩,
    ⟨some 62, .pick (.tmp 56) (.tmp 61) (.const (.bool false)), none⟩] [])
  (.cond (.tmp 62) .skip (.exit 0)))
  (.block 1 (.reg [⟨some 64, .move (.tmp 17), none⟩,
    ⟨some 65, .load 101 (.tmp 18), none⟩,
    ⟨some 66, .call { callee := .value (.func 58), args := #[.tmp 64, .tmp 65], argTypes := #[97, 101] }, none⟩,
    ⟨some 63, .move (.tmp 66), none⟩,
    ⟨some 67, .extract (.tmp 63) 0, none⟩,
    ⟨some 68, .extract (.tmp 63) 1, none⟩,
    ⟨none, .store 101 (.tmp 18) (.tmp 67), none⟩,
    ⟨some 19, .assign (.tmp 68), none⟩] [])))
/-- tamis/atom.Make -/
def S26 : SC :=
  (.seq (.reg [⟨some 10, .alloc 24, none⟩,
    ⟨some 11, .assign (.const (.int .i64 0)), none⟩,
    ⟨some 12, .assign (.const (.int .i64 0)), none⟩] [])
  (.seq (.seq (.reg [⟨some 20, .move (.tmp 0), none⟩,
    ⟨some 21, .binOp .eql 40 (.tmp 20) (.const (.pointer none)) 40, none⟩] [])
  (.cond (.tmp 21) (.seq (.reg [⟨some 22, .build 24 #[], none⟩,
    ⟨none, .store 24 (.tmp 10) (.tmp 22), none⟩,
    ⟨some 11, .assign (.const (.int .i64 0)), none⟩,
    ⟨some 12, .assign (.const (.int .i64 16)), none⟩] [])
  .ret) .skip))
  (.seq (.seq (.reg [⟨some 23, .move (.tmp 1), none⟩,
    ⟨some 24, .call { callee := .value (.func 53), args := #[.tmp 23], argTypes := #[3] }, none⟩,
    ⟨some 25, .unOp .not 4 (.tmp 24), none⟩] [])
  (.cond (.tmp 25) (.seq (.reg [⟨some 26, .build 24 #[], none⟩,
    ⟨none, .store 24 (.tmp 10) (.tmp 26), none⟩,
    ⟨some 11, .assign (.const (.int .i64 0)), none⟩,
    ⟨some 12, .assign (.const (.int .i64 1)), none⟩] [])
  .ret) .skip))
  (.seq (.reg [⟨some 28, .move (.tmp 0), none⟩,
    ⟨some 29, .move (.tmp 2), none⟩,
    ⟨some 30, .call { callee := .value (.func 49), args := #[.tmp 28, .tmp 29], argTypes := #[40, 3] }, none⟩,
    ⟨some 27, .move (.tmp 30), none⟩,
    ⟨some 31, .extract (.tmp 27) 0, none⟩,
    ⟨some 32, .extract (.tmp 27) 1, none⟩,
    ⟨some 13, .alloc 52, none⟩,
    ⟨none, .store 52 (.tmp 13) (.tmp 31), none⟩,
    ⟨some 14, .assign (.tmp 32), none⟩] [])
  (.seq (.reg [⟨some 34, .move (.tmp 0), none⟩,
    ⟨some 35, .move (.tmp 3), none⟩,
    ⟨some 36, .call { callee := .value (.func 49), args := #[.tmp 34, .tmp 35], argTypes := #[40, 3] }, none⟩,
    ⟨some 33, .move (.tmp 36), none⟩,
    ⟨some 37, .extract (.tmp 33) 0, none⟩,
    ⟨some 38, .extract (.tmp 33) 1, none⟩,
    ⟨some 15, .alloc 52, none⟩,
    ⟨none, .store 52 (.tmp 15) (.tmp 37), none⟩,
    ⟨some 16, .assign (.tmp 38), none⟩] [])
  (.seq (.seq (.reg [⟨some 39, .move (.tmp 14), none⟩,
    ⟨some 40, .unOp .not 4 (.tmp 39), none⟩,
    ⟨some 41, .move (.tmp 40), none⟩,
    ⟨some 42, .move (.tmp 16), some (41, false)⟩,
    ⟨some 43, .unOp .not 4 (.tmp 42), some (41, false)⟩,
    ⟨some 44, .pick (.tmp 41) (.const (.bool true)) (.tmp 43), none⟩] [])
  (.cond (.tmp 44) (.seq (.reg [⟨some 45, .build 24 #[], none⟩,
    ⟨none, .store 24 (.tmp 10) (.tmp 45), none⟩,
    ⟨some 11, .assign (.const (.int .i64 0)), none⟩,
    ⟨some 12, .assign (.const (.int .i64 2)), none⟩] [])
  .ret) .skip))
  (.seq (.reg [⟨some 46, .move (.tmp 0), none⟩,
    ⟨some 47, .build 99 #[(0, .tmp 46)], none⟩,
    ⟨some 48, .box 99 (.tmp 47), none⟩,
    ⟨some 17, .assign (.tmp 48), none⟩] [])
  (.seq (.reg [⟨some 49, .move (.tmp 1), none⟩,
    ⟨some 50, .move (.tmp 2), none⟩,
    ⟨some 51, .move (.tmp 3), none⟩,
    ⟨some 52, .move (.tmp 4), none⟩,
    ⟨some 53, .build 101 #[(0, .tmp 49), (1, .tmp 50), (2, .tmp 51), (3, .tmp 52)], none⟩,
    ⟨some 18, .alloc 101, none⟩,
    ⟨none, .store 101 (.tmp 18) (.tmp 53), none⟩,
    ⟨some 19, .assign (.const (.int .i64 0)), none⟩] [])
  (.seq (.block 0 (.loop S26L1))
  (.seq (.block 2 (.seq (.reg [⟨some 70, .move (.tmp 17), none⟩,
    ⟨some 71, .nilCheck (.tmp 70), none⟩,
    ⟨some 72, .fieldAddr 99 (.tmp 71) 1, none⟩,
    ⟨some 73, .load 30 (.tmp 72), none⟩,
    ⟨some 74, .binOp .neq 30 (.tmp 73) (.const (.int .i64 0)) 30, none⟩,
    ⟨some 69, .assign (.tmp 74), none⟩] [])
  (.cond (.tmp 69) (.seq (.reg [⟨some 75, .build 24 #[], none⟩,
    ⟨some 76, .move (.tmp 17), none⟩,
    ⟨some 77, .nilCheck (.tmp 76), none⟩,
    ⟨some 78, .fieldAddr 99 (.tmp 77) 1, none⟩,
    ⟨some 79, .load 30 (.tmp 78), none⟩,
    ⟨none, .store 24 (.tmp 10) (.tmp 75), none⟩,
    ⟨some 11, .assign (.const (.int .i64 0)), none⟩,
    ⟨some 12, .assign (.tmp 79), none⟩] [(4, 5)])
  .ret) (.seq (.reg [⟨some 81, .move (.tmp 19), none⟩,
    ⟨some 82, .binOp .neq 3 (.tmp 81) (.const (.int .i64 1)) 3, none⟩,
    ⟨some 80, .assign (.tmp 82), none⟩] [])
  (.cond (.tmp 80) (.seq (.reg [⟨some 83, .build 24 #[], none⟩,
    ⟨some 84, .move (.tmp 19), none⟩,
    ⟨none, .store 24 (.tmp 10) (.tmp 83), none⟩,
    ⟨some 11, .assign (.tmp 84), none⟩,
    ⟨some 12, .assign (.const (.int .i64 0)), none⟩] [])
  .ret) .skip)))))
  (.seq (.reg [⟨some 85, .fieldAddr 101 (.tmp 18) 0, none⟩,
    ⟨some 86, .load 3 (.tmp 85), none⟩,
    ⟨some 87, .fieldAddr 101 (.tmp 18) 1, none⟩,
    ⟨some 88, .load 3 (.tmp 87), none⟩,
    ⟨some 89, .fieldAddr 101 (.tmp 18) 2, none⟩,
    ⟨some 90, .load 3 (.tmp 89), none⟩,
    ⟨some 91, .fieldAddr 101 (.tmp 18) 3, none⟩,
    ⟨some 92, .load 4 (.tmp 91), none⟩,
    ⟨some 93, .build 24 #[(0, .tmp 86), (1, .tmp 88), (2, .tmp 90), (3, .tmp 92)], none⟩,
    ⟨none, .store 24 (.tmp 10) (.tmp 93), none⟩,
    ⟨some 11, .assign (.const (.int .i64 1)), none⟩,
    ⟨some 12, .assign (.const (.int .i64 0)), none⟩] [])
  .ret)))))))))))
theorem S26_eq : slimF Try.prog 26 = some (94, [.cell 10 24, .tmp 11, .tmp 12], S26) := by kernel_rfl

/-- tamis/tamislaw13.made -/
def S27 : SC :=
  (.seq (.reg [⟨some 6, .box 47 (.tmp 2), none⟩,
    ⟨some 8, .alloc 24, none⟩,
    ⟨some 9, .assign (.const (.int .i64 0)), none⟩,
    ⟨some 10, .assign (.const (.slice none 0 0)), none⟩,
    ⟨some 11, .assign (.const (.bool false)), none⟩] [])
  (.seq (.reg [⟨some 19, .move (.tmp 0), none⟩,
    ⟨some 20, .call { callee := .value (.func 25), args := #[.tmp 19], argTypes := #[22] }, none⟩,
    ⟨some 18, .move (.tmp 20), none⟩,
    ⟨some 21, .extract (.tmp 18) 0, none⟩,
    ⟨some 22, .extract (.tmp 18) 1, none⟩,
    ⟨some 12, .assign (.tmp 21), none⟩,
    ⟨some 13, .assign (.tmp 22), none⟩] [])
  (.seq (.reg [⟨some 24, .move (.tmp 12), none⟩,
    ⟨some 25, .move (.tmp 1), none⟩,
    ⟨some 26, .indexAddr 47 (.tmp 6) (.const (.int .i64 0)), none⟩,
    ⟨some 27, .load 3 (.tmp 26), none⟩,
    ⟨some 28, .indexAddr 47 (.tmp 6) (.const (.int .i64 1)), none⟩,
    ⟨some 29, .load 3 (.tmp 28), none⟩,
    ⟨some 30, .move (.tmp 3), none⟩,
    ⟨some 31, .call { callee := .value (.func 26), args := #[.tmp 24, .tmp 25, .tmp 27, .tmp 29, .tmp 30], argTypes := #[40, 3, 3, 3, 4] }, none⟩,
    ⟨some 23, .move (.tmp 31), none⟩,
    ⟨some 32, .extract (.tmp 23) 0, none⟩,
    ⟨some 33, .extract (.tmp 23) 1, none⟩,
    ⟨some 34, .extract (.tmp 23) 2, none⟩,
    ⟨some 14, .alloc 24, none⟩,
    ⟨none, .store 24 (.tmp 14) (.tmp 32), none⟩,
    ⟨some 15, .assign (.tmp 33), none⟩,
    ⟨some 16, .assign (.tmp 34), none⟩] [])
  (.seq (.reg [⟨some 35, .move (.tmp 12), none⟩,
    ⟨some 36, .call { callee := .value (.func 36), args := #[.tmp 35], argTypes := #[40] }, none⟩,
    ⟨some 17, .assign (.tmp 36), none⟩] [])
  (.seq (.seq (.reg [⟨some 37, .move (.tmp 13), none⟩,
    ⟨some 38, .unOp .not 4 (.tmp 37), none⟩,
    ⟨some 39, .move (.tmp 38), none⟩,
    ⟨some 40, .move (.tmp 16), some (39, false)⟩,
    ⟨some 41, .binOp .neq 30 (.tmp 40) (.const (.int .i64 0)) 30, some (39, false)⟩,
    ⟨some 42, .pick (.tmp 39) (.const (.bool true)) (.tmp 41), none⟩,
    ⟨some 43, .move (.tmp 42), none⟩,
    ⟨some 44, .move (.tmp 17), some (43, false)⟩,
    ⟨some 45, .call { callee := .value (.func 23), args := #[.tmp 44], argTypes := #[22] }, some (43, false)⟩,
    ⟨some 46, .unOp .not 4 (.tmp 45), some (43, false)⟩,
    ⟨some 47, .pick (.tmp 43) (.const (.bool true)) (.tmp 46), none⟩,
    ⟨some 48, .move (.tmp 47), none⟩,
    ⟨some 49, .move (.tmp 17), some (48, false)⟩,
    ⟨some 50, .call { callee := .builtin .len, args := #[.tmp 49], argTypes := #[22] }, some (48, false)⟩,
    ⟨some 51, .move (.tmp 0), some (48, false)⟩,
    ⟨some 52, .call { callee := .builtin .len, args := #[.tmp 51], argTypes := #[22] }, some (48, false)⟩,
    ⟨some 53, .binOp .lss 3 (.tmp 50) (.tmp 52) 3, some (48, false)⟩,
    ⟨some 54, .pick (.tmp 48) (.const (.bool true)) (.tmp 53), none⟩,
    ⟨some 55, .move (.tmp 54), none⟩,
    ⟨some 56, .move (.tmp 17), some (55, false)⟩,
    ⟨some 57, .move (.tmp 0), some (55, false)⟩,
    ⟨some 58, .call { callee := .builtin .len, args := #[.tmp 57], argTypes := #[22] }, some (55, false)⟩,
    ⟨some 59, .slice 22 (.tmp 56) none (some (.tmp 58)) none, some (55, false)⟩,
    ⟨some 60, .move (.tmp 0), some (55, false)⟩,
    ⟨some 61, .call { callee := .value (.func 37), args := #[.tmp 59, .tmp 60], argTypes := #[22, 22] }, some (55, false)⟩,
    ⟨some 62, .unOp .not 4 (.tmp 61), some (55, false)⟩,
    ⟨some 63, .pick (.tmp 55) (.const (.bool true)) (.tmp 62), none⟩] [])
  (.cond (.tmp 63) (.seq (.reg [⟨some 64, .load 24 (.tmp 14), none⟩,
    ⟨some 65, .move (.tmp 15), none⟩,
    ⟨some 66, .move (.tmp 17), none⟩,
    ⟨none, .store 24 (.tmp 8) (.tmp 64), none⟩,
    ⟨some 9, .assign (.tmp 65), none⟩,
    ⟨some 10, .assign (.tmp 66), none⟩,
    ⟨some 11, .assign (.const (.bool false)), none⟩] [])
  .ret) .skip))
  (.seq (.seq (.reg [⟨some 67, .move (.tmp 15), none⟩,
    ⟨some 68, .binOp .neq 3 (.tmp 67) (.const (.int .i64 1)) 3, none⟩] [])
  (.cond (.tmp 68) (.seq (.reg [⟨some 69, .load 24 (.tmp 14), none⟩,
    ⟨some 70, .move (.tmp 15), none⟩,
    ⟨some 71, .move (.tmp 17), none⟩,
    ⟨some 72, .move (.tmp 15), none⟩,
    ⟨some 73, .binOp .eql 3 (.tmp 72) (.const (.int .i64 2)) 3, none⟩,
    ⟨some 74, .move (.tmp 73), none⟩,
    ⟨some 75, .move (.tmp 15), some (74, false)⟩,
    ⟨some 76, .binOp .eql 3 (.tmp 75) (.const (.int .i64 3)) 3, some (74, false)⟩,
    ⟨some 77, .pick (.tmp 74) (.const (.bool true)) (.tmp 76), none⟩,
    ⟨some 78, .move (.tmp 77), none⟩,
    ⟨some 79, .load 24 (.tmp 14), some (78, true)⟩,
    ⟨some 80, .build 24 #[], some (78, true)⟩,
    ⟨some 81, .binOp .eql 24 (.tmp 79) (.tmp 80) 24, some (78, true)⟩,
    ⟨some 82, .pick (.tmp 78) (.tmp 81) (.const (.bool false)), none⟩,
    ⟨none, .store 24 (.tmp 8) (.tmp 69), none⟩,
    ⟨some 9, .assign (.tmp 70), none⟩,
    ⟨some 10, .assign (.tmp 71), none⟩,
    ⟨some 11, .assign (.tmp 82), none⟩] [(10, 14)])
  .ret) .skip))
  (.seq (.reg [⟨some 83, .load 24 (.tmp 14), none⟩,
    ⟨some 84, .move (.tmp 15), none⟩,
    ⟨some 85, .move (.tmp 17), none⟩,
    ⟨some 86, .move (.tmp 17), none⟩,
    ⟨some 87, .load 24 (.tmp 14), none⟩,
    ⟨some 88, .call { callee := .value (.func 18), args := #[.tmp 86, .tmp 87], argTypes := #[22, 24] }, none⟩,
    ⟨some 89, .binOp .eql 3 (.tmp 88) (.const (.int .i64 0)) 3, none⟩,
    ⟨none, .store 24 (.tmp 8) (.tmp 83), none⟩,
    ⟨some 9, .assign (.tmp 84), none⟩,
    ⟨some 10, .assign (.tmp 85), none⟩,
    ⟨some 11, .assign (.tmp 89), none⟩] [(0, 5)])
  .ret)))))))
theorem S27_eq : slimF Try.prog 27 = some (90, [.cell 8 24, .tmp 9, .tmp 10, .tmp 11], S27) := by kernel_rfl

/-- tamis/tamisref13.Make -/
def S28 : SC :=
  (.seq (.reg [⟨some 10, .assign (.const (.slice none 0 0)), none⟩,
    ⟨some 11, .alloc 24, none⟩,
    ⟨some 12, .assign (.const (.int .i64 0)), none⟩] [])
  (.seq (.reg [⟨some 17, .move (.tmp 0), none⟩,
    ⟨some 18, .move (.tmp 2), none⟩,
    ⟨some 19, .indexAddr 22 (.tmp 17) (.tmp 18), none⟩,
    ⟨some 20, .load 52 (.tmp 19), none⟩,
    ⟨some 21, .move (.tmp 0), none⟩,
    ⟨some 22, .move (.tmp 3), none⟩,
    ⟨some 23, .indexAddr 22 (.tmp 21) (.tmp 22), none⟩,
    ⟨some 24, .load 52 (.tmp 23), none⟩,
    ⟨some 13, .alloc 52, none⟩,
    ⟨some 14, .alloc 52, none⟩,
    ⟨none, .store 52 (.tmp 13) (.tmp 20), none⟩,
    ⟨none, .store 52 (.tmp 14) (.tmp 24), none⟩] [(3, 8), (3, 9), (7, 8), (7, 9), (7, 10)])
  (.seq (.seq (.reg [⟨some 25, .fieldAddr 52 (.tmp 13) 0, none⟩,
    ⟨some 26, .load 3 (.tmp 25), none⟩,
    ⟨some 27, .binOp .eql 3 (.tmp 26) (.const (.int .i64 1)) 3, none⟩,
    ⟨some 28, .move (.tmp 27), none⟩,
    ⟨some 29, .fieldAddr 52 (.tmp 14) 0, some (28, true)⟩,
    ⟨some 30, .load 3 (.tmp 29), some (28, true)⟩,
    ⟨some 31, .binOp .eql 3 (.tmp 30) (.const (.int .i64 1)) 3, some (28, true)⟩,
    ⟨some 32, .pick (.tmp 28) (.tmp 31) (.const (.bool false)), none⟩] [])
  (.cond (.tmp 32) (.seq (.reg [⟨some 33, .move (.tmp 0), none⟩,
    ⟨some 34, .build 24 #[], none⟩,
    ⟨some 35, .move (.tmp 1), none⟩,
    ⟨some 36, .fieldAddr 52 (.tmp 13) 3, none⟩,
    ⟨some 37, .load 25 (.tmp 36), none⟩,
    ⟨some 38, .fieldAddr 52 (.tmp 14) 3, none⟩,
    ⟨some 39, .load 25 (.tmp 38), none⟩,
    ⟨some 40, .call { callee := .value (.func 54), args := #[.tmp 35, .tmp 37, .tmp 39], argTypes := #[3, 25, 25] }, none⟩,
    ⟨some 41, .move (.tmp 4), none⟩,
    ⟨some 42, .call { callee := .value (.func 59), args := #[.tmp 40, .tmp 41], argTypes := #[4, 4] }, none⟩,
    ⟨some 10, .assign (.tmp 33), none⟩,
    ⟨none, .store 24 (.tmp 11) (.tmp 34), none⟩,
    ⟨some 12, .assign (.tmp 42), none⟩] [])
  .ret) .skip))
  (.seq (.seq (.reg [⟨some 43, .fieldAddr 52 (.tmp 13) 0, none⟩,
    ⟨some 44, .load 3 (.tmp 43), none⟩,
    ⟨some 45, .binOp .eql 3 (.tmp 44) (.const (.int .i64 1)) 3, none⟩] [])
  (.cond (.tmp 45) (.seq (.seq (.reg [⟨some 46, .move (.tmp 1), none⟩,
    ⟨some 47, .binOp .eql 3 (.tmp 46) (.const (.int .i64 32)) 3, none⟩] [])
  (.cond (.tmp 47) (.seq (.reg [⟨some 48, .move (.tmp 0), none⟩,
    ⟨some 49, .move (.tmp 3), none⟩,
    ⟨some 50, .move (.tmp 2), none⟩,
    ⟨some 51, .move (.tmp 4), none⟩,
    ⟨some 52, .unOp .not 4 (.tmp 51), none⟩,
    ⟨some 53, .call { callee := .value (.func 28), args := #[.tmp 48, .const (.int .i64 48), .tmp 49, .tmp 50, .tmp 52], argTypes := #[22, 3, 3, 3, 4] }, none⟩,
    ⟨some 54, .extract (.tmp 53) 0, none⟩,
    ⟨some 55, .extract (.tmp 53) 1, none⟩,
    ⟨some 56, .extract (.tmp 53) 2, none⟩,
    ⟨some 10, .assign (.tmp 54), none⟩,
    ⟨none, .store 24 (.tmp 11) (.tmp 55), none⟩,
    ⟨some 12, .assign (.tmp 56), none⟩] [])
  .ret) .skip))
  (.seq (.seq (.reg [⟨some 57, .move (.tmp 1), none⟩,
    ⟨some 58, .binOp .eql 3 (.tmp 57) (.const (.int .i64 48)) 3, none⟩] [])
  (.cond (.tmp 58) (.seq (.reg [⟨some 59, .move (.tmp 0), none⟩,
    ⟨some 60, .move (.tmp 3), none⟩,
    ⟨some 61, .move (.tmp 2), none⟩,
    ⟨some 62, .move (.tmp 4), none⟩,
    ⟨some 63, .unOp .not 4 (.tmp 62), none⟩,
    ⟨some 64, .call { callee := .value (.func 28), args := #[.tmp 59, .const (.int .i64 32), .tmp 60, .tmp 61, .tmp 63], argTypes := #[22, 3, 3, 3, 4] }, none⟩,
    ⟨some 65, .extract (.tmp 64) 0, none⟩,
    ⟨some 66, .extract (.tmp 64) 1, none⟩,
    ⟨some 67, .extract (.tmp 64) 2, none⟩,
    ⟨some 10, .assign (.tmp 65), none⟩,
    ⟨none, .store 24 (.tmp 11) (.tmp 66), none⟩,
    ⟨some 12, .assign (.tmp 67), none⟩] [])
  .ret) .skip))
  (.seq (.reg [⟨some 68, .move (.tmp 0), none⟩,
    ⟨some 69, .move (.tmp 1), none⟩,
    ⟨some 70, .move (.tmp 3), none⟩,
    ⟨some 71, .move (.tmp 2), none⟩,
    ⟨some 72, .move (.tmp 4), none⟩,
    ⟨some 73, .call { callee := .value (.func 28), args := #[.tmp 68, .tmp 69, .tmp 70, .tmp 71, .tmp 72], argTypes := #[22, 3, 3, 3, 4] }, none⟩,
    ⟨some 74, .extract (.tmp 73) 0, none⟩,
    ⟨some 75, .extract (.tmp 73) 1, none⟩,
    ⟨some 76, .extract (.tmp 73) 2, none⟩,
    ⟨some 10, .assign (.tmp 74), none⟩,
    ⟨none, .store 24 (.tmp 11) (.tmp 75), none⟩,
    ⟨some 12, .assign (.tmp 76), none⟩] [])
  .ret))) .skip))
  (.seq (.seq (.reg [⟨some 77, .fieldAddr 52 (.tmp 14) 0, none⟩,
    ⟨some 78, .load 3 (.tmp 77), none⟩,
    ⟨some 79, .binOp .eql 3 (.tmp 78) (.const (.int .i64 1)) 3, none⟩] [])
  (.cond (.tmp 79) (.seq (.reg [⟨some 80, .move (.tmp 0), none⟩,
    ⟨some 81, .move (.tmp 1), none⟩,
    ⟨some 82, .move (.tmp 2), none⟩,
    ⟨some 83, .fieldAddr 52 (.tmp 14) 3, none⟩,
    ⟨some 84, .load 25 (.tmp 83), none⟩,
    ⟨some 85, .move (.tmp 4), none⟩,
    ⟨some 86, .call { callee := .value (.func 60), args := #[.tmp 80, .tmp 81, .tmp 82, .tmp 84, .tmp 85], argTypes := #[22, 3, 3, 25, 4] }, none⟩,
    ⟨some 87, .extract (.tmp 86) 0, none⟩,
    ⟨some 88, .extract (.tmp 86) 1, none⟩,
    ⟨some 89, .extract (.tmp 86) 2, none⟩,
    ⟨some 10, .assign (.tmp 87), none⟩,
    ⟨none, .store 24 (.tmp 11) (.tmp 88), none⟩,
    ⟨some 12, .assign (.tmp 89), none⟩] [])
  .ret) .skip))
  (.seq (.seq (.reg [⟨some 90, .move (.tmp 2), none⟩,
    ⟨some 91, .move (.tmp 3), none⟩,
    ⟨some 92, .binOp .eql 3 (.tmp 90) (.tmp 91) 3, none⟩] [])
  (.cond (.tmp 92) (.seq (.seq (.reg [⟨some 93, .move (.tmp 1), none⟩,
    ⟨some 94, .binOp .eql 3 (.tmp 93) (.const (.int .i64 64)) 3, none⟩] [])
  (.cond (.tmp 94) (.seq (.reg [⟨some 96, .move (.tmp 0), none⟩,
    ⟨some 97, .call { callee := .value (.func 61), args := #[.tmp 96, .const (.int .u32 0)], argTypes := #[22, 25] }, none⟩,
    ⟨some 95, .move (.tmp 97), none⟩,
    ⟨some 98, .extract (.tmp 95) 0, none⟩,
    ⟨some 99, .extract (.tmp 95) 1, none⟩,
    ⟨some 15, .assign (.tmp 98), none⟩,
    ⟨some 16, .assign (.tmp 99), none⟩] [])
  (.seq (.reg [⟨some 100, .move (.tmp 15), none⟩,
    ⟨some 101, .move (.tmp 2), none⟩,
    ⟨some 102, .move (.tmp 16), none⟩,
    ⟨some 103, .move (.tmp 4), none⟩,
    ⟨some 104, .unOp .not 4 (.tmp 103), none⟩,
    ⟨some 105, .call { callee := .value (.func 28), args := #[.tmp 100, .const (.int .i64 16), .tmp 101, .tmp 102, .tmp 104], argTypes := #[22, 3, 3, 3, 4] }, none⟩,
    ⟨some 106, .extract (.tmp 105) 0, none⟩,
    ⟨some 107, .extract (.tmp 105) 1, none⟩,
    ⟨some 108, .extract (.tmp 105) 2, none⟩,
    ⟨some 10, .assign (.tmp 106), none⟩,
    ⟨none, .store 24 (.tmp 11) (.tmp 107), none⟩,
    ⟨some 12, .assign (.tmp 108), none⟩] [])
  .ret)) .skip))
  (.seq (.reg [⟨some 109, .move (.tmp 0), none⟩,
    ⟨some 110, .build 24 #[], none⟩,
    ⟨some 111, .move (.tmp 1), none⟩,
    ⟨some 112, .binOp .neq 3 (.tmp 111) (.const (.int .i64 32)) 3, none⟩,
    ⟨some 113, .move (.tmp 4), none⟩,
    ⟨some 114, .call { callee := .value (.func 59), args := #[.tmp 112, .tmp 113], argTypes := #[4, 4] }, none⟩,
    ⟨some 10, .assign (.tmp 109), none⟩,
    ⟨none, .store 24 (.tmp 11) (.tmp 110), none⟩,
    ⟨some 12, .assign (.tmp 114), none⟩] [])
  .ret)) .skip))
  (.seq (.reg [⟨some 115, .move (.tmp 0), none⟩,
    ⟨some 116, .move (.tmp 1), none⟩,
    ⟨some 117, .move (.tmp 2), none⟩,
    ⟨some 118, .move (.tmp 3), none⟩,
    ⟨some 119, .move (.tmp 4), none⟩,
    ⟨some 120, .build 24 #[(0, .tmp 116), (1, .tmp 117), (2, .tmp 118), (3, .tmp 119)], none⟩,
    ⟨some 10, .assign (.tmp 115), none⟩,
    ⟨none, .store 24 (.tmp 11) (.tmp 120), none⟩,
    ⟨some 12, .assign (.const (.int .i64 1)), none⟩] [])
  .ret)))))))
theorem S28_eq : slimF Try.prog 28 = some (121, [.tmp 10, .cell 11 24, .tmp 12], S28) := by kernel_rfl

/-- tamis/tamislaw13.holds -/
def S29 : SC :=
  (.seq (.reg [⟨some 7, .box 47 (.tmp 2), none⟩,
    ⟨some 9, .box 27 (.tmp 4), none⟩,
    ⟨some 10, .assign (.const (.bool false)), none⟩,
    ⟨some 11, .assign (.const (.bool false)), none⟩] [])
  (.seq (.reg [⟨some 17, .move (.tmp 0), none⟩,
    ⟨some 18, .move (.tmp 1), none⟩,
    ⟨some 19, .load 47 (.tmp 7), none⟩,
    ⟨some 20, .move (.tmp 3), none⟩,
    ⟨some 21, .call { callee := .value (.func 27), args := #[.tmp 17, .tmp 18, .tmp 19, .tmp 20], argTypes := #[22, 3, 47, 4] }, none⟩,
    ⟨some 16, .move (.tmp 21), none⟩,
    ⟨some 22, .extract (.tmp 16) 0, none⟩,
    ⟨some 23, .extract (.tmp 16) 1, none⟩,
    ⟨some 24, .extract (.tmp 16) 2, none⟩,
    ⟨some 25, .extract (.tmp 16) 3, none⟩,
    ⟨some 12, .alloc 24, none⟩,
    ⟨none, .store 24 (.tmp 12) (.tmp 22), none⟩,
    ⟨some 13, .assign (.tmp 23), none⟩,
    ⟨some 14, .assign (.tmp 24), none⟩,
    ⟨some 15, .assign (.tmp 25), none⟩] [])
  (.seq (.seq (.reg [⟨some 26, .move (.tmp 15), none⟩,
    ⟨some 27, .unOp .not 4 (.tmp 26), none⟩,
    ⟨some 28, .move (.tmp 27), none⟩,
    ⟨some 29, .move (.tmp 13), some (28, false)⟩,
    ⟨some 30, .binOp .neq 3 (.tmp 29) (.const (.int .i64 1)) 3, some (28, false)⟩,
    ⟨some 31, .pick (.tmp 28) (.const (.bool true)) (.tmp 30), none⟩] [])
  (.cond (.tmp 31) (.seq (.reg [⟨some 32, .move (.tmp 13), none⟩,
    ⟨some 33, .binOp .eql 3 (.tmp 32) (.const (.int .i64 2)) 3, none⟩,
    ⟨some 34, .move (.tmp 15), none⟩,
    ⟨some 10, .assign (.tmp 33), none⟩,
    ⟨some 11, .assign (.tmp 34), none⟩] [])
  .ret) .skip))
  (.seq (.reg [⟨some 35, .move (.tmp 14), none⟩,
    ⟨some 36, .load 24 (.tmp 12), none⟩,
    ⟨some 37, .load 27 (.tmp 9), none⟩,
    ⟨some 38, .call { callee := .value (.func 22), args := #[.tmp 35, .tmp 36, .tmp 37], argTypes := #[22, 24, 27] }, none⟩,
    ⟨some 10, .assign (.tmp 38), none⟩,
    ⟨some 11, .assign (.const (.bool true)), none⟩] [])
  .ret))))
theorem S29_eq : slimF Try.prog 29 = some (39, [.tmp 10, .tmp 11], S29) := by kernel_rfl

def S30L1 : SC :=
  (.seq (.seq (.reg [⟨some 70, .move (.tmp 10), none⟩,
    ⟨some 71, .move (.tmp 2), none⟩,
    ⟨some 72, .binOp .rem 25 (.tmp 71) (.const (.int .u32 32)) 25, none⟩,
    ⟨some 73, .binOp .lss 25 (.tmp 70) (.tmp 72) 25, none⟩] [])
  (.cond (.tmp 73) .skip (.exit 1)))
  (.seq (.block 2 (.reg [⟨some 76, .move (.tmp 9), none⟩,
    ⟨some 77, .binOp .mul 82 (.const (.int .u64 2)) (.tmp 76) 82, none⟩,
    ⟨some 78, .move (.tmp 8), none⟩,
    ⟨some 79, .binOp .rem 82 (.tmp 77) (.tmp 78) 82, none⟩,
    ⟨some 9, .assign (.tmp 79), none⟩] []))
  (.reg [⟨some 74, .move (.tmp 10), none⟩,
    ⟨some 75, .binOp .add 25 (.tmp 74) (.const (.int .u32 1)) 25, none⟩,
    ⟨some 10, .assign (.tmp 75), none⟩] [])))
def S30L2 : SC :=
  (.seq (.seq (.reg [⟨some 86, .move (.tmp 12), none⟩,
    ⟨some 87, .move (.tmp 2), none⟩,
    ⟨some 88, .binOp .rem 25 (.tmp 87) (.const (.int .u32 32)) 25, none⟩,
    ⟨some 89, .binOp .lss 25 (.tmp 86) (.tmp 88) 25, none⟩] [])
  (.cond (.tmp 89) .skip (.exit 3)))
  (.seq (.block 4 (.reg [⟨some 92, .move (.tmp 11), none⟩,
    ⟨some 93, .binOp .quo 82 (.tmp 92) (.const (.int .u64 2)) 82, none⟩,
    ⟨some 11, .assign (.tmp 93), none⟩] []))
  (.reg [⟨some 90, .move (.tmp 12), none⟩,
    ⟨some 91, .binOp .add 25 (.tmp 90) (.const (.int .u32 1)) 25, none⟩,
    ⟨some 12, .assign (.tmp 91), none⟩] [])))
/-- tamis/tamisref01.Alu -/
def S30 : SC :=
  (.seq (.reg [⟨some 6, .assign (.const (.int .u32 0)), none⟩,
    ⟨some 7, .assign (.const (.bool false)), none⟩] [])
  (.seq (.reg [⟨some 8, .assign (.const (.int .u64 4294967296)), none⟩] [])
  (.seq (.seq (.reg [⟨some 13, .move (.tmp 0), none⟩] [])
  (.block 0 (.seq (.reg [⟨some 15, .binOp .eql 3 (.tmp 13) (.const (.int .i64 0)) 3, none⟩,
    ⟨some 14, .assign (.tmp 15), none⟩] [])
  (.cond (.tmp 14) (.seq (.reg [⟨some 16, .move (.tmp 1), none⟩,
    ⟨some 17, .convert 25 82 (.tmp 16), none⟩,
    ⟨some 18, .move (.tmp 2), none⟩,
    ⟨some 19, .convert 25 82 (.tmp 18), none⟩,
    ⟨some 20, .binOp .add 82 (.tmp 17) (.tmp 19) 82, none⟩,
    ⟨some 21, .move (.tmp 8), none⟩,
    ⟨some 22, .binOp .rem 82 (.tmp 20) (.tmp 21) 82, none⟩,
    ⟨some 23, .convert 82 25 (.tmp 22), none⟩,
    ⟨some 6, .assign (.tmp 23), none⟩,
    ⟨some 7, .assign (.const (.bool true)), none⟩] [])
  .ret) (.seq (.reg [⟨some 25, .binOp .eql 3 (.tmp 13) (.const (.int .i64 16)) 3, none⟩,
    ⟨some 24, .assign (.tmp 25), none⟩] [])
  (.cond (.tmp 24) (.seq (.reg [⟨some 26, .move (.tmp 1), none⟩,
    ⟨some 27, .convert 25 82 (.tmp 26), none⟩,
    ⟨some 28, .move (.tmp 8), none⟩,
    ⟨some 29, .binOp .add 82 (.tmp 27) (.tmp 28) 82, none⟩,
    ⟨some 30, .move (.tmp 2), none⟩,
    ⟨some 31, .convert 25 82 (.tmp 30), none⟩,
    ⟨some 32, .binOp .sub 82 (.tmp 29) (.tmp 31) 82, none⟩,
    ⟨some 33, .move (.tmp 8), none⟩,
    ⟨some 34, .binOp .rem 82 (.tmp 32) (.tmp 33) 82, none⟩,
    ⟨some 35, .convert 82 25 (.tmp 34), none⟩,
    ⟨some 6, .assign (.tmp 35), none⟩,
    ⟨some 7, .assign (.const (.bool true)), none⟩] [])
  .ret) (.seq (.reg [⟨some 37, .binOp .eql 3 (.tmp 13) (.const (.int .i64 32)) 3, none⟩,
    ⟨some 36, .assign (.tmp 37), none⟩] [])
  (.cond (.tmp 36) (.seq (.reg [⟨some 38, .move (.tmp 1), none⟩,
    ⟨some 39, .convert 25 82 (.tmp 38), none⟩,
    ⟨some 40, .move (.tmp 2), none⟩,
    ⟨some 41, .convert 25 82 (.tmp 40), none⟩,
    ⟨some 42, .binOp .mul 82 (.tmp 39) (.tmp 41) 82, none⟩,
    ⟨some 43, .move (.tmp 8), none⟩,
    ⟨some 44, .binOp .rem 82 (.tmp 42) (.tmp 43) 82, none⟩,
    ⟨some 45, .convert 82 25 (.tmp 44), none⟩,
    ⟨some 6, .assign (.tmp 45), none⟩,
    ⟨some 7, .assign (.const (.bool true)), none⟩] [])
  .ret) (.seq (.reg [⟨some 47, .binOp .eql 3 (.tmp 13) (.const (.int .i64 48)) 3, none⟩,
    ⟨some 46, .assign (.tmp 47), none⟩] [])
  (.cond (.tmp 46) (.seq (.seq (.reg [⟨some 48, .move (.tmp 2), none⟩,
    ⟨some 49, .binOp .eql 25 (.tmp 48) (.const (.int .u32 0)) 25, none⟩] [])
  (.cond (.tmp 49) (.seq (.reg [⟨some 6, .assign (.const (.int .u32 0)), none⟩,
    ⟨some 7, .assign (.const (.bool false)), none⟩] [])
  .ret) .skip))
  (.seq (.reg [⟨some 50, .move (.tmp 1), none⟩,
    ⟨some 51, .convert 25 82 (.tmp 50), none⟩,
    ⟨some 52, .move (.tmp 2), none⟩,
    ⟨some 53, .convert 25 82 (.tmp 52), none⟩,
    ⟨some 54, .binOp .quo 82 (.tmp 51) (.tmp 53) 82, none⟩,
    ⟨some 55, .convert 82 25 (.tmp 54), none⟩,
    ⟨some 6, .assign (.tmp 55), none⟩,
    ⟨some 7, .assign (.const (.bool true)), none⟩] [])
  .ret)) (.seq (.reg [⟨some 57, .binOp .eql 3 (.tmp 13) (.const (.int .i64 64)) 3, none⟩,
    ⟨some 56, .assign (.tmp 57), none⟩] [])
  (.cond (.tmp 56) (.seq (.reg [⟨some 58, .move (.tmp 1), none⟩,
    ⟨some 59, .move (.tmp 2), none⟩,
    ⟨some 60, .call { callee := .value (.func 62), args := #[.tmp 58, .tmp 59, .const (.int .i64 0), .const (.int .i64 1), .const (.int .i64 1)], argTypes := #[25, 25, 3, 3, 3] }, none⟩,
    ⟨some 6, .assign (.tmp 60), none⟩,
    ⟨some 7, .assign (.const (.bool true)), none⟩] [])
  .ret) (.seq (.reg [⟨some 62, .binOp .eql 3 (.tmp 13) (.const (.int .i64 80)) 3, none⟩,
    ⟨some 61, .assign (.tmp 62), none⟩] [])
  (.cond (.tmp 61) (.seq (.reg [⟨some 63, .move (.tmp 1), none⟩,
    ⟨some 64, .move (.tmp 2), none⟩,
    ⟨some 65, .call { callee := .value (.func 62), args := #[.tmp 63, .tmp 64, .const (.int .i64 0), .const (.int .i64 0), .const (.int .i64 1)], argTypes := #[25, 25, 3, 3, 3] }, none⟩,
    ⟨some 6, .assign (.tmp 65), none⟩,
    ⟨some 7, .assign (.const (.bool true)), none⟩] [])
  .ret) (.seq (.reg [⟨some 67, .binOp .eql 3 (.tmp 13) (.const (.int .i64 96)) 3, none⟩,
    ⟨some 66, .assign (.tmp 67), none⟩] [])
  (.cond (.tmp 66) (.seq (.reg [⟨some 68, .move (.tmp 1), none⟩,
    ⟨some 69, .convert 25 82 (.tmp 68), none⟩,
    ⟨some 9, .assign (.tmp 69), none⟩] [])
  (.seq (.seq (.reg [⟨some 10, .assign (.const (.int .u32 0)), none⟩] [])
  (.block 1 (.loop S30L1)))
  (.seq (.reg [⟨some 80, .move (.tmp 9), none⟩,
    ⟨some 81, .convert 82 25 (.tmp 80), none⟩,
    ⟨some 6, .assign (.tmp 81), none⟩,
    ⟨some 7, .assign (.const (.bool true)), none⟩] [])
  .ret))) (.seq (.reg [⟨some 83, .binOp .eql 3 (.tmp 13) (.const (.int .i64 112)) 3, none⟩,
    ⟨some 82, .assign (.tmp 83), none⟩] [])
  (.cond (.tmp 82) (.seq (.reg [⟨some 84, .move (.tmp 1), none⟩,
    ⟨some 85, .convert 25 82 (.tmp 84), none⟩,
    ⟨some 11, .assign (.tmp 85), none⟩] [])
  (.seq (.seq (.reg [⟨some 12, .assign (.const (.int .u32 0)), none⟩] [])
  (.block 3 (.loop S30L2)))
  (.seq (.reg [⟨some 94, .move (.tmp 11), none⟩,
    ⟨some 95, .convert 82 25 (.tmp 94), none⟩,
    ⟨some 6, .assign (.tmp 95), none⟩,
    ⟨some 7, .assign (.const (.bool true)), none⟩] [])
  .ret))) (.seq (.reg [⟨some 97, .binOp .eql 3 (.tmp 13) (.const (.int .i64 128)) 3, none⟩,
    ⟨some 96, .assign (.tmp 97), none⟩] [])
  (.cond (.tmp 96) (.seq (.reg [⟨some 98, .move (.tmp 8), none⟩,
    ⟨some 99, .move (.tmp 1), none⟩,
    ⟨some 100, .convert 25 82 (.tmp 99), none⟩,
    ⟨some 101, .binOp .sub 82 (.tmp 98) (.tmp 100) 82, none⟩,
    ⟨some 102, .move (.tmp 8), none⟩,
    ⟨some 103, .binOp .rem 82 (.tmp 101) (.tmp 102) 82, none⟩,
    ⟨some 104, .convert 82 25 (.tmp 103), none⟩,
    ⟨some 6, .assign (.tmp 104), none⟩,
    ⟨some 7, .assign (.const (.bool true)), none⟩] [])
  .ret) (.seq (.reg [⟨some 106, .binOp .eql 3 (.tmp 13) (.const (.int .i64 160)) 3, none⟩,
    ⟨some 105, .assign (.tmp 106), none⟩] [])
  (.cond (.tmp 105) (.seq (.reg [⟨some 107, .move (.tmp 1), none⟩,
    ⟨some 108, .move (.tmp 2), none⟩,
    ⟨some 109, .call { callee := .value (.func 62), args := #[.tmp 107, .tmp 108, .const (.int .i64 0), .const (.int .i64 1), .const (.int .i64 0)], argTypes := #[25, 25, 3, 3, 3] }, none⟩,
    ⟨some 6, .assign (.tmp 109), none⟩,
    ⟨some 7, .assign (.const (.bool true)), none⟩] [])
  .ret) .skip))))))))))))))))))))))
  (.seq (.reg [⟨some 6, .assign (.const (.int .u32 0)), none⟩,
    ⟨some 7, .assign (.const (.bool false)), none⟩] [])
  .ret))))
theorem S30_eq : slimF Try.prog 30 = some (110, [.tmp 6, .tmp 7], S30) := by kernel_rfl

/-- tamis/tamislaw12.awake -/
def S31 : SC :=
  (.seq (.reg [⟨some 0, .assign (.const (.bool false)), none⟩] [])
  (.seq (.reg [⟨some 29, .call { callee := .value (.func 47), args := #[], argTypes := #[] }, none⟩,
    ⟨some 1, .assign (.tmp 29), none⟩] [])
  (.seq (.reg [⟨some 31, .move (.tmp 1), none⟩,
    ⟨some 32, .call { callee := .value (.func 48), args := #[.tmp 31, .const (.int .i64 0)], argTypes := #[40, 3] }, none⟩,
    ⟨some 30, .move (.tmp 32), none⟩,
    ⟨some 33, .extract (.tmp 30) 0, none⟩,
    ⟨some 34, .extract (.tmp 30) 1, none⟩,
    ⟨some 2, .assign (.tmp 33), none⟩,
    ⟨some 3, .assign (.tmp 34), none⟩] [])
  (.seq (.reg [⟨some 36, .move (.tmp 1), none⟩,
    ⟨some 37, .call { callee := .value (.func 46), args := #[.tmp 36, .const (.int .u32 5)], argTypes := #[40, 25] }, none⟩,
    ⟨some 35, .move (.tmp 37), none⟩,
    ⟨some 38, .extract (.tmp 35) 0, none⟩,
    ⟨some 39, .extract (.tmp 35) 1, none⟩,
    ⟨some 4, .assign (.tmp 38), none⟩,
    ⟨some 5, .assign (.tmp 39), none⟩] [])
  (.seq (.reg [⟨some 41, .move (.tmp 1), none⟩,
    ⟨some 42, .move (.tmp 4), none⟩,
    ⟨some 43, .move (.tmp 2), none⟩,
    ⟨some 44, .call { callee := .value (.func 33), args := #[.tmp 41, .const (.int .i64 0), .tmp 42, .tmp 43], argTypes := #[40, 3, 3, 3] }, none⟩,
    ⟨some 40, .move (.tmp 44), none⟩,
    ⟨some 45, .extract (.tmp 40) 0, none⟩,
    ⟨some 46, .extract (.tmp 40) 1, none⟩,
    ⟨some 6, .assign (.tmp 45), none⟩,
    ⟨some 7, .assign (.tmp 46), none⟩] [])
  (.seq (.reg [⟨some 48, .move (.tmp 1), none⟩,
    ⟨some 49, .call { callee := .value (.func 46), args := #[.tmp 48, .const (.int .u32 7)], argTypes := #[40, 25] }, none⟩,
    ⟨some 47, .move (.tmp 49), none⟩,
    ⟨some 50, .extract (.tmp 47) 0, none⟩,
    ⟨some 51, .extract (.tmp 47) 1, none⟩,
    ⟨some 8, .assign (.tmp 50), none⟩,
    ⟨some 9, .assign (.tmp 51), none⟩] [])
  (.seq (.reg [⟨some 53, .move (.tmp 1), none⟩,
    ⟨some 54, .move (.tmp 6), none⟩,
    ⟨some 55, .move (.tmp 8), none⟩,
    ⟨some 56, .call { callee := .value (.func 33), args := #[.tmp 53, .const (.int .i64 0), .tmp 54, .tmp 55], argTypes := #[40, 3, 3, 3] }, none⟩,
    ⟨some 52, .move (.tmp 56), none⟩,
    ⟨some 57, .extract (.tmp 52) 0, none⟩,
    ⟨some 58, .extract (.tmp 52) 1, none⟩,
    ⟨some 10, .assign (.tmp 57), none⟩,
    ⟨some 11, .assign (.tmp 58), none⟩] [])
  (.seq (.reg [⟨some 60, .move (.tmp 1), none⟩,
    ⟨some 61, .move (.tmp 10), none⟩,
    ⟨some 62, .call { callee := .value (.func 49), args := #[.tmp 60, .tmp 61], argTypes := #[40, 3] }, none⟩,
    ⟨some 59, .move (.tmp 62), none⟩,
    ⟨some 63, .extract (.tmp 59) 0, none⟩,
    ⟨some 64, .extract (.tmp 59) 1, none⟩,
    ⟨some 12, .alloc 52, none⟩,
    ⟨none, .store 52 (.tmp 12) (.tmp 63), none⟩,
    ⟨some 13, .assign (.tmp 64), none⟩] [])
  (.seq (.reg [⟨some 66, .move (.tmp 1), none⟩,
    ⟨some 67, .fieldAddr 52 (.tmp 12) 2, none⟩,
    ⟨some 68, .load 3 (.tmp 67), none⟩,
    ⟨some 69, .call { callee := .value (.func 49), args := #[.tmp 66, .tmp 68], argTypes := #[40, 3] }, none⟩,
    ⟨some 65, .move (.tmp 69), none⟩,
    ⟨some 70, .extract (.tmp 65) 0, none⟩,
    ⟨some 71, .extract (.tmp 65) 1, none⟩,
    ⟨some 14, .alloc 52, none⟩,
    ⟨none, .store 52 (.tmp 14) (.tmp 70), none⟩,
    ⟨some 15, .assign (.tmp 71), none⟩] [])
  (.seq (.reg [⟨some 73, .move (.tmp 1), none⟩,
    ⟨some 74, .move (.tmp 2), none⟩,
    ⟨some 75, .move (.tmp 2), none⟩,
    ⟨some 76, .call { callee := .value (.func 33), args := #[.tmp 73, .const (.int .i64 16), .tmp 74, .tmp 75], argTypes := #[40, 3, 3, 3] }, none⟩,
    ⟨some 72, .move (.tmp 76), none⟩,
    ⟨some 77, .extract (.tmp 72) 0, none⟩,
    ⟨some 78, .extract (.tmp 72) 1, none⟩,
    ⟨some 16, .assign (.tmp 77), none⟩,
    ⟨some 17, .assign (.tmp 78), none⟩] [])
  (.seq (.reg [⟨some 80, .move (.tmp 1), none⟩,
    ⟨some 81, .move (.tmp 16), none⟩,
    ⟨some 82, .call { callee := .value (.func 49), args := #[.tmp 80, .tmp 81], argTypes := #[40, 3] }, none⟩,
    ⟨some 79, .move (.tmp 82), none⟩,
    ⟨some 83, .extract (.tmp 79) 0, none⟩,
    ⟨some 84, .extract (.tmp 79) 1, none⟩,
    ⟨some 18, .alloc 52, none⟩,
    ⟨none, .store 52 (.tmp 18) (.tmp 83), none⟩,
    ⟨some 19, .assign (.tmp 84), none⟩] [])
  (.seq (.reg [⟨some 86, .move (.tmp 1), none⟩,
    ⟨some 87, .move (.tmp 2), none⟩,
    ⟨some 88, .move (.tmp 2), none⟩,
    ⟨some 89, .call { callee := .value (.func 33), args := #[.tmp 86, .const (.int .i64 144), .tmp 87, .tmp 88], argTypes := #[40, 3, 3, 3] }, none⟩,
    ⟨some 85, .move (.tmp 89), none⟩,
    ⟨some 90, .extract (.tmp 85) 0, none⟩,
    ⟨some 91, .extract (.tmp 85) 1, none⟩,
    ⟨some 20, .assign (.tmp 90), none⟩,
    ⟨some 21, .assign (.tmp 91), none⟩] [])
  (.seq (.reg [⟨some 93, .move (.tmp 1), none⟩,
    ⟨some 94, .move (.tmp 2), none⟩,
    ⟨some 95, .call { callee := .value (.func 33), args := #[.tmp 93, .const (.int .i64 0), .tmp 94, .const (.int .i64 999)], argTypes := #[40, 3, 3, 3] }, none⟩,
    ⟨some 92, .move (.tmp 95), none⟩,
    ⟨some 96, .extract (.tmp 92) 0, none⟩,
    ⟨some 97, .extract (.tmp 92) 1, none⟩,
    ⟨some 22, .assign (.tmp 96), none⟩,
    ⟨some 23, .assign (.tmp 97), none⟩] [])
  (.seq (.reg [⟨some 99, .call { callee := .value (.func 33), args := #[.const (.pointer none), .const (.int .i64 0), .const (.int .i64 0), .const (.int .i64 0)], argTypes := #[40, 3, 3, 3] }, none⟩,
    ⟨some 98, .move (.tmp 99), none⟩,
    ⟨some 100, .extract (.tmp 98) 0, none⟩,
    ⟨some 101, .extract (.tmp 98) 1, none⟩,
    ⟨some 24, .assign (.tmp 100), none⟩,
    ⟨some 25, .assign (.tmp 101), none⟩] [])
  (.seq (.reg [⟨some 103, .build 52 #[(0, .const (.int .i64 1)), (3, .const (.int .u32 6))], none⟩,
    ⟨some 104, .build 52 #[(0, .const (.int .i64 288)), (1, .const (.int .i64 0)), (2, .const (.int .i64 0))], none⟩,
    ⟨some 105, .buildSlice 22 2 #[(0, .tmp 103), (1, .tmp 104)], none⟩,
    ⟨some 106, .call { callee := .value (.func 39), args := #[.tmp 105, .const (.int .i64 1)], argTypes := #[22, 3] }, none⟩,
    ⟨some 102, .move (.tmp 106), none⟩,
    ⟨some 107, .extract (.tmp 102) 0, none⟩,
    ⟨some 108, .extract (.tmp 102) 1, none⟩,
    ⟨some 109, .extract (.tmp 102) 2, none⟩,
    ⟨some 26, .assign (.tmp 107), none⟩,
    ⟨some 27, .assign (.tmp 108), none⟩,
    ⟨some 28, .assign (.tmp 109), none⟩] [])
  (.seq (.reg [⟨some 110, .move (.tmp 3), none⟩,
    ⟨some 111, .binOp .eql 30 (.tmp 110) (.const (.int .i64 0)) 30, none⟩,
    ⟨some 112, .move (.tmp 111), none⟩,
    ⟨some 113, .move (.tmp 5), some (112, true)⟩,
    ⟨some 114, .binOp .eql 30 (.tmp 113) (.const (.int .i64 0)) 30, some (112, true)⟩,
    ⟨some 115, .pick (.tmp 112) (.tmp 114) (.const (.bool false)), none⟩,
    ⟨some 116, .move (.tmp 115), none⟩,
    ⟨some 117, .move (.tmp 7), some (116, true)⟩,
    ⟨some 118, .binOp .eql 30 (.tmp 117) (.const (.int .i64 0)) 30, some (116, true)⟩,
    ⟨some 119, .pick (.tmp 116) (.tmp 118) (.const (.bool false)), none⟩,
    ⟨some 120, .move (.tmp 119), none⟩,
    ⟨some 121, .move (.tmp 11), some (120, true)⟩,
    ⟨some 122, .binOp .eql 30 (.tmp 121) (.const (.int .i64 0)) 30, some (120, true)⟩,
    ⟨some 123, .pick (.tmp 120) (.tmp 122) (.const (.bool false)), none⟩,
    ⟨some 124, .move (.tmp 123), none⟩,
    ⟨some 125, .fieldAddr 52 (.tmp 12) 1, some (124, true)⟩,
    ⟨some 126, .load 3 (.tmp 125), some (124, true)⟩,
    ⟨some 127, .move (.tmp 2), some (124, true)⟩,
    ⟨some 128, .binOp .eql 3 (.tmp 126) (.tmp 127) 3, some (124, true)⟩,
    ⟨some 129, .pick (.tmp 124) (.tmp 128) (.const (.bool false)), none⟩,
    ⟨some 130, .move (.tmp 129), none⟩,
    ⟨some 131, .load 52 (.tmp 14), some (130, true)⟩,
    ⟨some 132, .build 52 #[(0, .const (.int .i64 1)), (3, .const (.int .u32 12))], some (130, true)⟩,
    ⟨some 133, .binOp .eql 52 (.tmp 131) (.tmp 132) 52, some (130, true)⟩,
    ⟨some 134, .pick (.tmp 130) (.tmp 133) (.const (.bool false)), none⟩,
    ⟨some 135, .move (.tmp 134), none⟩,
    ⟨some 136, .move (.tmp 17), some (135, true)⟩,
    ⟨some 137, .binOp .eql 30 (.tmp 136) (.const (.int .i64 0)) 30, some (135, true)⟩,
    ⟨some 138, .pick (.tmp 135) (.tmp 137) (.const (.bool false)), none⟩,
    ⟨some 139, .move (.tmp 138), none⟩,
    ⟨some 140, .load 52 (.tmp 18), some (139, true)⟩,
    ⟨some 141, .build 52 #[(0, .const (.int .i64 1))], some (139, true)⟩,
    ⟨some 142, .binOp .eql 52 (.tmp 140) (.tmp 141) 52, some (139, true)⟩,
    ⟨some 143, .pick (.tmp 139) (.tmp 142) (.const (.bool false)), none⟩,
    ⟨some 144, .move (.tmp 143), none⟩,
    ⟨some 145, .move (.tmp 21), some (144, true)⟩,
    ⟨some 146, .binOp .eql 30 (.tmp 145) (.const (.int .i64 1)) 30, some (144, true)⟩,
    ⟨some 147, .pick (.tmp 144) (.tmp 146) (.const (.bool false)), none⟩,
    ⟨some 148, .move (.tmp 147), none⟩,
    ⟨some 149, .move (.tmp 23), some (148, true)⟩,
    ⟨some 150, .binOp .eql 30 (.tmp 149) (.const (.int .i64 2)) 30, some (148, true)⟩,
    ⟨some 151, .pick (.tmp 148) (.tmp 150) (.const (.bool false)), none⟩,
    ⟨some 152, .move (.tmp 151), none⟩,
    ⟨some 153, .move (.tmp 25), some (152, true)⟩,
    ⟨some 154, .binOp .eql 30 (.tmp 153) (.const (.int .i64 16)) 30, some (152, true)⟩,
    ⟨some 155, .pick (.tmp 152) (.tmp 154) (.const (.bool false)), none⟩,
    ⟨some 156, .move (.tmp 155), none⟩,
    ⟨some 157, .move (.tmp 26), some (156, true)⟩,
    ⟨some 158, .call { callee := .builtin .len, args := #[.tmp 157], argTypes := #[22] }, some (156, true)⟩,
    ⟨some 159, .binOp .eql 3 (.tmp 158) (.const (.int .i64 1)) 3, some (156, true)⟩,
    ⟨some 160, .pick (.tmp 156) (.tmp 159) (.const (.bool false)), none⟩,
    ⟨some 161, .move (.tmp 160), none⟩,
    ⟨some 162, .move (.tmp 26), some (161, true)⟩,
    ⟨some 163, .indexAddr 22 (.tmp 162) (.const (.int .i64 0)), some (161, true)⟩,
    ⟨some 164, .fieldAddr 52 (.tmp 163) 3, some (161, true)⟩,
    ⟨some 165, .load 25 (.tmp 164), some (161, true)⟩,
    ⟨some 166, .binOp .eql 25 (.tmp 165) (.const (.int .u32 36)) 25, some (161, true)⟩,
    ⟨some 167, .pick (.tmp 161) (.tmp 166) (.const (.bool false)), none⟩,
    ⟨some 168, .move (.tmp 167), none⟩,
    ⟨some 169, .move (.tmp 27), some (168, true)⟩,
    ⟨some 170, .binOp .eql 3 (.tmp 169) (.const (.int .i64 0)) 3, some (168, true)⟩,
    ⟨some 171, .pick (.tmp 168) (.tmp 170) (.const (.bool false)), none⟩,
    ⟨some 172, .move (.tmp 171), none⟩,
    ⟨some 173, .move (.tmp 28), some (172, true)⟩,
    ⟨some 174, .binOp .eql 30 (.tmp 173) (.const (.int .i64 0)) 30, some (172, true)⟩,
    ⟨some 175, .pick (.tmp 172) (.tmp 174) (.const (.bool false)), none⟩,
    ⟨some 176, .move (.tmp 175), none⟩,
    ⟨some 177, .move (.tmp 26), some (176, true)⟩,
    ⟨some 178, .call { callee := .value (.func 40), args := #[.tmp 177], argTypes := #[22] }, some (176, true)⟩,
    ⟨some 179, .pick (.tmp 176) (.tmp 178) (.const (.bool false)), none⟩,
    ⟨some 180, .move (.tmp 179), none⟩,
    ⟨some 181, .build 52 #[(0, .const (.int .i64 1)), (3, .const (.int .u32 6))], some (180, true)⟩,
    ⟨some 182, .build 52 #[(0, .const (.int .i64 288)), (1, .const (.int .i64 0)), (2, .const (.int .i64 0))], some (180, true)⟩,
    ⟨some 183, .buildSlice 22 2 #[(0, .tmp 181), (1, .tmp 182)], some (180, true)⟩,
    ⟨some 184, .call { callee := .value (.func 40), args := #[.tmp 183], argTypes := #[22] }, some (180, true)⟩,
    ⟨some 185, .unOp .not 4 (.tmp 184), some (180, true)⟩,
    ⟨some 186, .pick (.tmp 180) (.tmp 185) (.const (.bool false)), none⟩,
    ⟨some 0, .assign (.tmp 186), none⟩] [])
  .ret))))))))))))))))
theorem S31_eq : slimF Try.prog 31 = some (187, [.tmp 0], S31) := by kernel_rfl

def S32L1 : SC :=
  (.seq (.reg [⟨some 13, .binOp .lss 3 (.tmp 12) (.tmp 11) 3, none⟩] [])
  (.seq (.cond (.tmp 13) .skip (.exit 0))
  (.seq (.block 1 (.seq (.reg [⟨some 14, .move (.tmp 12), none⟩,
    ⟨some 15, .indexAddr 22 (.tmp 10) (.tmp 12), none⟩,
    ⟨some 16, .load 52 (.tmp 15), none⟩,
    ⟨some 6, .alloc 52, none⟩,
    ⟨some 5, .assign (.tmp 14), none⟩,
    ⟨none, .store 52 (.tmp 6) (.tmp 16), none⟩] [])
  (.seq (.reg [⟨some 18, .move (.tmp 4), none⟩,
    ⟨some 19, .load 52 (.tmp 6), none⟩,
    ⟨some 20, .call { callee := .value (.func 57), args := #[.tmp 18, .tmp 19], argTypes := #[40, 52] }, none⟩,
    ⟨some 17, .move (.tmp 20), none⟩,
    ⟨some 21, .extract (.tmp 17) 0, none⟩,
    ⟨some 22, .extract (.tmp 17) 1, none⟩,
    ⟨some 7, .assign (.tmp 21), none⟩,
    ⟨some 8, .assign (.tmp 22), none⟩] [])
  (.seq (.reg [⟨some 23, .move (.tmp 7), none⟩,
    ⟨some 24, .move (.tmp 5), none⟩,
    ⟨some 25, .binOp .neq 3 (.tmp 23) (.tmp 24) 3, none⟩,
    ⟨some 26, .move (.tmp 25), none⟩,
    ⟨some 27, .move (.tmp 8), some (26, false)⟩,
    ⟨some 28, .binOp .neq 30 (.tmp 27) (.const (.int .i64 0)) 30, some (26, false)⟩,
    ⟨some 29, .pick (.tmp 26) (.const (.bool true)) (.tmp 28), none⟩] [])
  (.cond (.tmp 29) (.seq (.reg [⟨some 30, .move (.tmp 4), none⟩,
    ⟨some 2, .assign (.tmp 30), none⟩,
    ⟨some 3, .assign (.const (.bool false)), none⟩] [])
  .ret) .skip)))))
  (.reg [⟨some 31, .binOp .add 3 (.tmp 12) (.const (.int .i64 1)) 3, none⟩,
    ⟨some 12, .move (.tmp 31), none⟩] []))))
/-- tamis/tamislaw12.pool -/
def S32 : SC :=
  (.seq (.reg [⟨some 2, .assign (.const (.pointer none)), none⟩,
    ⟨some 3, .assign (.const (.bool false)), none⟩] [])
  (.seq (.reg [⟨some 9, .call { callee := .value (.func 47), args := #[], argTypes := #[] }, none⟩,
    ⟨some 4, .assign (.tmp 9), none⟩] [])
  (.seq (.seq (.reg [⟨some 10, .move (.tmp 0), none⟩,
    ⟨some 11, .call { callee := .builtin .len, args := #[.tmp 10], argTypes := #[22] }, none⟩,
    ⟨some 12, .move (.const (.int .i64 0)), none⟩] [])
  (.block 0 (.loop S32L1)))
  (.seq (.reg [⟨some 32, .move (.tmp 4), none⟩,
    ⟨some 2, .assign (.tmp 32), none⟩,
    ⟨some 3, .assign (.const (.bool true)), none⟩] [])
  .ret))))
theorem S32_eq : slimF Try.prog 32 = some (33, [.tmp 2, .tmp 3], S32) := by kernel_rfl

/-- tamis/simp.Make -/
def S33 : SC :=
  (.seq (.reg [⟨some 8, .assign (.const (.int .i64 0)), none⟩,
    ⟨some 9, .assign (.const (.int .i64 0)), none⟩] [])
  (.seq (.seq (.reg [⟨some 15, .move (.tmp 0), none⟩,
    ⟨some 16, .binOp .eql 40 (.tmp 15) (.const (.pointer none)) 40, none⟩] [])
  (.cond (.tmp 16) (.seq (.reg [⟨some 8, .assign (.const (.int .i64 0)), none⟩,
    ⟨some 9, .assign (.const (.int .i64 16)), none⟩] [])
  .ret) .skip))
  (.seq (.seq (.reg [⟨some 17, .move (.tmp 1), none⟩,
    ⟨some 18, .call { callee := .value (.func 63), args := #[.tmp 17], argTypes := #[3] }, none⟩,
    ⟨some 19, .unOp .not 4 (.tmp 18), none⟩] [])
  (.cond (.tmp 19) (.seq (.reg [⟨some 8, .assign (.const (.int .i64 0)), none⟩,
    ⟨some 9, .assign (.const (.int .i64 1)), none⟩] [])
  .ret) .skip))
  (.seq (.reg [⟨some 21, .move (.tmp 0), none⟩,
    ⟨some 22, .move (.tmp 2), none⟩,
    ⟨some 23, .call { callee := .value (.func 49), args := #[.tmp 21, .tmp 22], argTypes := #[40, 3] }, none⟩,
    ⟨some 20, .move (.tmp 23), none⟩,
    ⟨some 24, .extract (.tmp 20) 0, none⟩,
    ⟨some 25, .extract (.tmp 20) 1, none⟩,
    ⟨some 10, .alloc 52, none⟩,
    ⟨none, .store 52 (.tmp 10) (.tmp 24), none⟩,
    ⟨some 11, .assign (.tmp 25), none⟩] [])
  (.seq (.reg [⟨some 27, .move (.tmp 0), none⟩,
    ⟨some 28, .move (.tmp 3), none⟩,
    ⟨some 29, .call { callee := .value (.func 49), args := #[.tmp 27, .tmp 28], argTypes := #[40, 3] }, none⟩,
    ⟨some 26, .move (.tmp 29), none⟩,
    ⟨some 30, .extract (.tmp 26) 0, none⟩,
    ⟨some 31, .extract (.tmp 26) 1, none⟩,
    ⟨some 12, .alloc 52, none⟩,
    ⟨none, .store 52 (.tmp 12) (.tmp 30), none⟩,
    ⟨some 13, .assign (.tmp 31), none⟩] [])
  (.seq (.seq (.reg [⟨some 32, .move (.tmp 11), none⟩,
    ⟨some 33, .unOp .not 4 (.tmp 32), none⟩,
    ⟨some 34, .move (.tmp 33), none⟩,
    ⟨some 35, .move (.tmp 13), some (34, false)⟩,
    ⟨some 36, .unOp .not 4 (.tmp 35), some (34, false)⟩,
    ⟨some 37, .move (.tmp 36), some (34, false)⟩,
    ⟨some 38, .move (.tmp 1), some (37, true)⟩,
    ⟨some 39, .binOp .neq 3 (.tmp 38) (.const (.int .i64 128)) 3, some (37, true)⟩,
    ⟨some 40, .pick (.tmp 37) (.tmp 39) (.const (.bool false)), some (34, false)⟩,
    ⟨some 41, .pick (.tmp 34) (.const (.bool true)) (.tmp 40), none⟩] [])
  (.cond (.tmp 41) (.seq (.reg [⟨some 8, .assign (.const (.int .i64 0)), none⟩,
    ⟨some 9, .assign (.const (.int .i64 2)), none⟩] [])
  .ret) .skip))
  (.seq (.reg [⟨some 42, .move (.tmp 0), none⟩,
    ⟨some 43, .build 110 #[(0, .tmp 42)], none⟩,
    ⟨some 44, .box 110 (.tmp 43), none⟩,
    ⟨some 14, .assign (.tmp 44), none⟩] [])
  (.seq (.reg [⟨some 45, .move (.tmp 14), none⟩,
    ⟨some 46, .move (.tmp 14), none⟩,
    ⟨some 47, .move (.tmp 1), none⟩,
    ⟨some 48, .move (.tmp 2), none⟩,
    ⟨some 49, .move (.tmp 3), none⟩,
    ⟨some 50, .call { callee := .value (.func 65), args := #[.tmp 46, .tmp 47, .tmp 48, .tmp 49], argTypes := #[108, 3, 3, 3] }, none⟩,
    ⟨some 51, .call { callee := .value (.func 64), args := #[.tmp 45, .tmp 50], argTypes := #[108, 3] }, none⟩,
    ⟨some 52, .extract (.tmp 51) 0, none⟩,
    ⟨some 53, .extract (.tmp 51) 1, none⟩,
    ⟨some 8, .assign (.tmp 52), none⟩,
    ⟨some 9, .assign (.tmp 53), none⟩] [])
  .ret))))))))
theorem S33_eq : slimF Try.prog 33 = some (54, [.tmp 8, .tmp 9], S33) := by kernel_rfl

/-- tamis/tamisref12.IsOp -/
def S34 : SC :=
  (.seq (.reg [⟨some 2, .assign (.const (.bool false)), none⟩] [])
  (.seq (.reg [⟨some 3, .move (.tmp 0), none⟩,
    ⟨some 4, .binOp .eql 3 (.tmp 3) (.const (.int .i64 0)) 3, none⟩,
    ⟨some 5, .move (.tmp 4), none⟩,
    ⟨some 6, .move (.tmp 0), some (5, false)⟩,
    ⟨some 7, .binOp .eql 3 (.tmp 6) (.const (.int .i64 16)) 3, some (5, false)⟩,
    ⟨some 8, .pick (.tmp 5) (.const (.bool true)) (.tmp 7), none⟩,
    ⟨some 9, .move (.tmp 8), none⟩,
    ⟨some 10, .move (.tmp 0), some (9, false)⟩,
    ⟨some 11, .binOp .eql 3 (.tmp 10) (.const (.int .i64 32)) 3, some (9, false)⟩,
    ⟨some 12, .pick (.tmp 9) (.const (.bool true)) (.tmp 11), none⟩,
    ⟨some 13, .move (.tmp 12), none⟩,
    ⟨some 14, .move (.tmp 0), some (13, false)⟩,
    ⟨some 15, .binOp .eql 3 (.tmp 14) (.const (.int .i64 48)) 3, some (13, false)⟩,
    ⟨some 16, .pick (.tmp 13) (.const (.bool true)) (.tmp 15), none⟩,
    ⟨some 17, .move (.tmp 16), none⟩,
    ⟨some 18, .move (.tmp 0), some (17, false)⟩,
    ⟨some 19, .binOp .eql 3 (.tmp 18) (.const (.int .i64 64)) 3, some (17, false)⟩,
    ⟨some 20, .pick (.tmp 17) (.const (.bool true)) (.tmp 19), none⟩,
    ⟨some 21, .move (.tmp 20), none⟩,
    ⟨some 22, .move (.tmp 0), some (21, false)⟩,
    ⟨some 23, .binOp .eql 3 (.tmp 22) (.const (.int .i64 80)) 3, some (21, false)⟩,
    ⟨some 24, .pick (.tmp 21) (.const (.bool true)) (.tmp 23), none⟩,
    ⟨some 25, .move (.tmp 24), none⟩,
    ⟨some 26, .move (.tmp 0), some (25, false)⟩,
    ⟨some 27, .binOp .eql 3 (.tmp 26) (.const (.int .i64 96)) 3, some (25, false)⟩,
    ⟨some 28, .pick (.tmp 25) (.const (.bool true)) (.tmp 27), none⟩,
    ⟨some 29, .move (.tmp 28), none⟩,
    ⟨some 30, .move (.tmp 0), some (29, false)⟩,
    ⟨some 31, .binOp .eql 3 (.tmp 30) (.const (.int .i64 112)) 3, some (29, false)⟩,
    ⟨some 32, .pick (.tmp 29) (.const (.bool true)) (.tmp 31), none⟩,
    ⟨some 33, .move (.tmp 32), none⟩,
    ⟨some 34, .move (.tmp 0), some (33, false)⟩,
    ⟨some 35, .binOp .eql 3 (.tmp 34) (.const (.int .i64 128)) 3, some (33, false)⟩,
    ⟨some 36, .pick (.tmp 33) (.const (.bool true)) (.tmp 35), none⟩,
    ⟨some 37, .move (.tmp 36), none⟩,
    ⟨some 38, .move (.tmp 0), some (37, false)⟩,
    ⟨some 39, .binOp .eql 3 (.tmp 38) (.const (.int .i64 160)) 3, some (37, false)⟩,
    ⟨some 40, .pick (.tmp 37) (.const (.bool true)) (.tmp 39), none⟩,
    ⟨some 2, .assign (.tmp 40), none⟩] [])
  .ret))
theorem S34_eq : slimF Try.prog 34 = some (41, [.tmp 2], S34) := by kernel_rfl

/-- tamis/tamisref12.Make -/
def S35 : SC :=
  (.seq (.reg [⟨some 8, .assign (.const (.slice none 0 0)), none⟩,
    ⟨some 9, .assign (.const (.int .i64 0)), none⟩] [])
  (.seq (.reg [⟨some 12, .move (.tmp 0), none⟩,
    ⟨some 13, .move (.tmp 2), none⟩,
    ⟨some 14, .indexAddr 22 (.tmp 12) (.tmp 13), none⟩,
    ⟨some 15, .load 52 (.tmp 14), none⟩,
    ⟨some 10, .alloc 52, none⟩,
    ⟨none, .store 52 (.tmp 10) (.tmp 15), none⟩] [])
  (.seq (.seq (.reg [⟨some 16, .move (.tmp 1), none⟩,
    ⟨some 17, .binOp .eql 3 (.tmp 16) (.const (.int .i64 128)) 3, none⟩] [])
  (.cond (.tmp 17) (.seq (.seq (.reg [⟨some 18, .fieldAddr 52 (.tmp 10) 0, none⟩,
    ⟨some 19, .load 3 (.tmp 18), none⟩,
    ⟨some 20, .binOp .eql 3 (.tmp 19) (.const (.int .i64 1)) 3, none⟩] [])
  (.cond (.tmp 20) (.seq (.reg [⟨some 21, .move (.tmp 0), none⟩,
    ⟨some 22, .move (.tmp 1), none⟩,
    ⟨some 23, .fieldAddr 52 (.tmp 10) 3, none⟩,
    ⟨some 24, .load 25 (.tmp 23), none⟩,
    ⟨some 25, .call { callee := .value (.func 66), args := #[.tmp 22, .tmp 24, .const (.int .u32 0)], argTypes := #[3, 25, 25] }, none⟩,
    ⟨some 26, .call { callee := .value (.func 61), args := #[.tmp 21, .tmp 25], argTypes := #[22, 25] }, none⟩,
    ⟨some 27, .extract (.tmp 26) 0, none⟩,
    ⟨some 28, .extract (.tmp 26) 1, none⟩,
    ⟨some 8, .assign (.tmp 27), none⟩,
    ⟨some 9, .assign (.tmp 28), none⟩] [])
  .ret) .skip))
  (.seq (.seq (.reg [⟨some 29, .fieldAddr 52 (.tmp 10) 0, none⟩,
    ⟨some 30, .load 3 (.tmp 29), none⟩,
    ⟨some 31, .binOp .eql 3 (.tmp 30) (.const (.int .i64 384)) 3, none⟩] [])
  (.cond (.tmp 31) (.seq (.reg [⟨some 32, .move (.tmp 0), none⟩,
    ⟨some 33, .fieldAddr 52 (.tmp 10) 1, none⟩,
    ⟨some 34, .load 3 (.tmp 33), none⟩,
    ⟨some 8, .assign (.tmp 32), none⟩,
    ⟨some 9, .assign (.tmp 34), none⟩] [])
  .ret) .skip))
  (.seq (.reg [⟨some 35, .move (.tmp 0), none⟩,
    ⟨some 36, .move (.tmp 2), none⟩,
    ⟨some 37, .build 52 #[(0, .const (.int .i64 384)), (1, .tmp 36)], none⟩,
    ⟨some 38, .call { callee := .value (.func 56), args := #[.tmp 35, .tmp 37], argTypes := #[22, 52] }, none⟩,
    ⟨some 39, .extract (.tmp 38) 0, none⟩,
    ⟨some 40, .extract (.tmp 38) 1, none⟩,
    ⟨some 8, .assign (.tmp 39), none⟩,
    ⟨some 9, .assign (.tmp 40), none⟩] [])
  .ret))) .skip))
  (.seq (.reg [⟨some 41, .move (.tmp 0), none⟩,
    ⟨some 42, .move (.tmp 3), none⟩,
    ⟨some 43, .indexAddr 22 (.tmp 41) (.tmp 42), none⟩,
    ⟨some 44, .load 52 (.tmp 43), none⟩,
    ⟨some 11, .alloc 52, none⟩,
    ⟨none, .store 52 (.tmp 11) (.tmp 44), none⟩] [])
  (.seq (.seq (.reg [⟨some 45, .fieldAddr 52 (.tmp 10) 0, none⟩,
    ⟨some 46, .load 3 (.tmp 45), none⟩,
    ⟨some 47, .binOp .eql 3 (.tmp 46) (.const (.int .i64 1)) 3, none⟩,
    ⟨some 48, .move (.tmp 47), none⟩,
    ⟨some 49, .fieldAddr 52 (.tmp 11) 0, some (48, true)⟩,
    ⟨some 50, .load 3 (.tmp 49), some (48, true)⟩,
    ⟨some 51, .binOp .eql 3 (.tmp 50) (.const (.int .i64 1)) 3, some (48, true)⟩,
    ⟨some 52, .pick (.tmp 48) (.tmp 51) (.const (.bool false)), none⟩] [])
  (.cond (.tmp 52) (.seq (.reg [⟨some 53, .move (.tmp 0), none⟩,
    ⟨some 54, .move (.tmp 1), none⟩,
    ⟨some 55, .fieldAddr 52 (.tmp 10) 3, none⟩,
    ⟨some 56, .load 25 (.tmp 55), none⟩,
    ⟨some 57, .fieldAddr 52 (.tmp 11) 3, none⟩,
    ⟨some 58, .load 25 (.tmp 57), none⟩,
    ⟨some 59, .call { callee := .value (.func 66), args := #[.tmp 54, .tmp 56, .tmp 58], argTypes := #[3, 25, 25] }, none⟩,
    ⟨some 60, .call { callee := .value (.func 61), args := #[.tmp 53, .tmp 59], argTypes := #[22, 25] }, none⟩,
    ⟨some 61, .extract (.tmp 60) 0, none⟩,
    ⟨some 62, .extract (.tmp 60) 1, none⟩,
    ⟨some 8, .assign (.tmp 61), none⟩,
    ⟨some 9, .assign (.tmp 62), none⟩] [])
  .ret) .skip))
  (.seq (.seq (.reg [⟨some 63, .fieldAddr 52 (.tmp 10) 0, none⟩,
    ⟨some 64, .load 3 (.tmp 63), none⟩,
    ⟨some 65, .binOp .eql 3 (.tmp 64) (.const (.int .i64 1)) 3, none⟩,
    ⟨some 66, .move (.tmp 65), none⟩,
    ⟨some 67, .move (.tmp 1), some (66, true)⟩,
    ⟨some 68, .call { callee := .value (.func 67), args := #[.tmp 67], argTypes := #[3] }, some (66, true)⟩,
    ⟨some 69, .pick (.tmp 66) (.tmp 68) (.const (.bool false)), none⟩] [])
  (.cond (.tmp 69) (.seq (.reg [⟨some 70, .move (.tmp 0), none⟩,
    ⟨some 71, .move (.tmp 1), none⟩,
    ⟨some 72, .move (.tmp 3), none⟩,
    ⟨some 73, .move (.tmp 2), none⟩,
    ⟨some 74, .call { callee := .value (.func 35), args := #[.tmp 70, .tmp 71, .tmp 72, .tmp 73], argTypes := #[22, 3, 3, 3] }, none⟩,
    ⟨some 75, .extract (.tmp 74) 0, none⟩,
    ⟨some 76, .extract (.tmp 74) 1, none⟩,
    ⟨some 8, .assign (.tmp 75), none⟩,
    ⟨some 9, .assign (.tmp 76), none⟩] [])
  .ret) .skip))
  (.seq (.seq (.reg [⟨some 77, .fieldAddr 52 (.tmp 11) 0, none⟩,
    ⟨some 78, .load 3 (.tmp 77), none⟩,
    ⟨some 79, .binOp .eql 3 (.tmp 78) (.const (.int .i64 1)) 3, none⟩] [])
  (.cond (.tmp 79) (.seq (.reg [⟨some 80, .move (.tmp 0), none⟩,
    ⟨some 81, .move (.tmp 1), none⟩,
    ⟨some 82, .move (.tmp 2), none⟩,
    ⟨some 83, .fieldAddr 52 (.tmp 11) 3, none⟩,
    ⟨some 84, .load 25 (.tmp 83), none⟩,
    ⟨some 85, .call { callee := .value (.func 68), args := #[.tmp 80, .tmp 81, .tmp 82, .tmp 84], argTypes := #[22, 3, 3, 25] }, none⟩,
    ⟨some 86, .extract (.tmp 85) 0, none⟩,
    ⟨some 87, .extract (.tmp 85) 1, none⟩,
    ⟨some 8, .assign (.tmp 86), none⟩,
    ⟨some 9, .assign (.tmp 87), none⟩] [])
  .ret) .skip))
  (.seq (.seq (.reg [⟨some 88, .move (.tmp 2), none⟩,
    ⟨some 89, .move (.tmp 3), none⟩,
    ⟨some 90, .binOp .eql 3 (.tmp 88) (.tmp 89) 3, none⟩] [])
  (.cond (.tmp 90) (.seq (.seq (.reg [⟨some 91, .move (.tmp 1), none⟩,
    ⟨some 92, .binOp .eql 3 (.tmp 91) (.const (.int .i64 16)) 3, none⟩,
    ⟨some 93, .move (.tmp 92), none⟩,
    ⟨some 94, .move (.tmp 1), some (93, false)⟩,
    ⟨some 95, .binOp .eql 3 (.tmp 94) (.const (.int .i64 160)) 3, some (93, false)⟩,
    ⟨some 96, .pick (.tmp 93) (.const (.bool true)) (.tmp 95), none⟩] [])
  (.cond (.tmp 96) (.seq (.reg [⟨some 97, .move (.tmp 0), none⟩,
    ⟨some 98, .call { callee := .value (.func 61), args := #[.tmp 97, .const (.int .u32 0)], argTypes := #[22, 25] }, none⟩,
    ⟨some 99, .extract (.tmp 98) 0, none⟩,
    ⟨some 100, .extract (.tmp 98) 1, none⟩,
    ⟨some 8, .assign (.tmp 99), none⟩,
    ⟨some 9, .assign (.tmp 100), none⟩] [])
  .ret) .skip))
  (.seq (.reg [⟨some 101, .move (.tmp 1), none⟩,
    ⟨some 102, .binOp .eql 3 (.tmp 101) (.const (.int .i64 64)) 3, none⟩,
    ⟨some 103, .move (.tmp 102), none⟩,
    ⟨some 104, .move (.tmp 1), some (103, false)⟩,
    ⟨some 105, .binOp .eql 3 (.tmp 104) (.const (.int .i64 80)) 3, some (103, false)⟩,
    ⟨some 106, .pick (.tmp 103) (.const (.bool true)) (.tmp 105), none⟩] [])
  (.cond (.tmp 106) (.seq (.reg [⟨some 107, .move (.tmp 0), none⟩,
    ⟨some 108, .move (.tmp 2), none⟩,
    ⟨some 8, .assign (.tmp 107), none⟩,
    ⟨some 9, .assign (.tmp 108), none⟩] [])
  .ret) .skip))) .skip))
  (.seq (.reg [⟨some 109, .move (.tmp 0), none⟩,
    ⟨some 110, .move (.tmp 1), none⟩,
    ⟨some 111, .binOp .add 3 (.const (.int .i64 256)) (.tmp 110) 3, none⟩,
    ⟨some 112, .move (.tmp 2), none⟩,
    ⟨some 113, .move (.tmp 3), none⟩,
    ⟨some 114, .build 52 #[(0, .tmp 111), (1, .tmp 112), (2, .tmp 113)], none⟩,
    ⟨some 115, .call { callee := .value (.func 56), args := #[.tmp 109, .tmp 114], argTypes := #[22, 52] }, none⟩,
    ⟨some 116, .extract (.tmp 115) 0, none⟩,
    ⟨some 117, .extract (.tmp 115) 1, none⟩,
    ⟨some 8, .assign (.tmp 116), none⟩,
    ⟨some 9, .assign (.tmp 117), none⟩] [])
  .ret)))))))))
theorem S35_eq : slimF Try.prog 35 = some (118, [.tmp 8, .tmp 9], S35) := by kernel_rfl

/-- (*tamis/term.Pool).Nodes -/
def S36 : SC :=
  (.seq (.reg [⟨some 2, .assign (.const (.slice none 0 0)), none⟩] [])
  (.seq (.seq (.reg [⟨some 3, .move (.tmp 0), none⟩,
    ⟨some 4, .binOp .eql 40 (.tmp 3) (.const (.pointer none)) 40, none⟩] [])
  (.cond (.tmp 4) (.seq (.reg [⟨some 2, .assign (.const (.slice none 0 0)), none⟩] [])
  .ret) .skip))
  (.seq (.reg [⟨some 5, .move (.tmp 0), none⟩,
    ⟨some 6, .nilCheck (.tmp 5), none⟩,
    ⟨some 7, .fieldAddr 118 (.tmp 6) 0, none⟩,
    ⟨some 8, .load 22 (.tmp 7), none⟩,
    ⟨some 9, .call { callee := .value (.func 69), args := #[.tmp 8], argTypes := #[22] }, none⟩,
    ⟨some 2, .assign (.tmp 9), none⟩] [])
  .ret)))
theorem S36_eq : slimF Try.prog 36 = some (10, [.tmp 2], S36) := by kernel_rfl

def S37L1 : SC :=
  (.seq (.seq (.reg [⟨some 11, .move (.tmp 5), none⟩,
    ⟨some 12, .move (.tmp 0), none⟩,
    ⟨some 13, .call { callee := .builtin .len, args := #[.tmp 12], argTypes := #[22] }, none⟩,
    ⟨some 14, .binOp .lss 3 (.tmp 11) (.tmp 13) 3, none⟩] [])
  (.cond (.tmp 14) .skip (.exit 0)))
  (.seq (.block 1 (.seq (.reg [⟨some 17, .move (.tmp 0), none⟩,
    ⟨some 18, .move (.tmp 5), none⟩,
    ⟨some 19, .indexAddr 22 (.tmp 17) (.tmp 18), none⟩,
    ⟨some 20, .load 52 (.tmp 19), none⟩,
    ⟨some 21, .move (.tmp 1), none⟩,
    ⟨some 22, .move (.tmp 5), none⟩,
    ⟨some 23, .indexAddr 22 (.tmp 21) (.tmp 22), none⟩,
    ⟨some 24, .load 52 (.tmp 23), none⟩,
    ⟨some 25, .binOp .neq 52 (.tmp 20) (.tmp 24) 52, none⟩] [])
  (.cond (.tmp 25) (.seq (.reg [⟨some 4, .assign (.const (.bool false)), none⟩] [])
  .ret) .skip)))
  (.reg [⟨some 15, .move (.tmp 5), none⟩,
    ⟨some 16, .binOp .add 3 (.tmp 15) (.const (.int .i64 1)) 3, none⟩,
    ⟨some 5, .assign (.tmp 16), none⟩] [])))
/-- tamis/tamisref11.Same -/
def S37 : SC :=
  (.seq (.reg [⟨some 4, .assign (.const (.bool false)), none⟩] [])
  (.seq (.seq (.reg [⟨some 6, .move (.tmp 0), none⟩,
    ⟨some 7, .call { callee := .builtin .len, args := #[.tmp 6], argTypes := #[22] }, none⟩,
    ⟨some 8, .move (.tmp 1), none⟩,
    ⟨some 9, .call { callee := .builtin .len, args := #[.tmp 8], argTypes := #[22] }, none⟩,
    ⟨some 10, .binOp .neq 3 (.tmp 7) (.tmp 9) 3, none⟩] [])
  (.cond (.tmp 10) (.seq (.reg [⟨some 4, .assign (.const (.bool false)), none⟩] [])
  .ret) .skip))
  (.seq (.seq (.reg [⟨some 5, .assign (.const (.int .i64 0)), none⟩] [])
  (.block 0 (.loop S37L1)))
  (.seq (.reg [⟨some 4, .assign (.const (.bool true)), none⟩] [])
  .ret))))
theorem S37_eq : slimF Try.prog 37 = some (26, [.tmp 4], S37) := by kernel_rfl

end Go.Va
end
