/- Part 3 of the proof: S1 SS. -/
import Derived.KernelRfl
import Derived.Test.YtokbecghdofohaaProg
import Derived.Test.YtokbecghdofohaaVaK2
section
set_option maxRecDepth 100000
namespace Go.Va
open Go.Proofs

def S38L1 : SC :=
  (.seq (.seq (.reg [⟨some 12, .move (.tmp 6), none⟩,
    ⟨some 13, .move (.tmp 0), none⟩,
    ⟨some 14, .call { callee := .builtin .len, args := #[.tmp 13], argTypes := #[22] }, none⟩,
    ⟨some 15, .binOp .lss 3 (.tmp 12) (.tmp 14) 3, none⟩] [])
  (.cond (.tmp 15) .skip (.exit 0)))
  (.seq (.block 1 (.seq (.reg [⟨some 18, .move (.tmp 0), none⟩,
    ⟨some 19, .move (.tmp 6), none⟩,
    ⟨some 20, .indexAddr 22 (.tmp 18) (.tmp 19), none⟩,
    ⟨some 21, .fieldAddr 52 (.tmp 20) 0, none⟩,
    ⟨some 22, .load 3 (.tmp 21), none⟩] [])
  (.block 2 (.seq (.reg [⟨some 55, .binOp .eql 3 (.tmp 22) (.const (.int .i64 1)) 3, none⟩,
    ⟨some 54, .assign (.tmp 55), none⟩] [])
  (.cond (.tmp 54) (.reg [⟨some 56, .move (.tmp 5), none⟩,
    ⟨some 57, .move (.tmp 6), none⟩,
    ⟨some 58, .move (.tmp 0), none⟩,
    ⟨some 59, .move (.tmp 6), none⟩,
    ⟨some 60, .indexAddr 22 (.tmp 58) (.tmp 59), none⟩,
    ⟨some 61, .fieldAddr 52 (.tmp 60) 3, none⟩,
    ⟨some 62, .load 25 (.tmp 61), none⟩,
    ⟨some 63, .indexAddr 69 (.tmp 56) (.tmp 57), none⟩,
    ⟨none, .store 25 (.tmp 63) (.tmp 62), none⟩] []) (.seq (.reg [⟨some 65, .binOp .eql 3 (.tmp 22) (.const (.int .i64 2)) 3, none⟩,
    ⟨some 64, .assign (.tmp 65), none⟩] [])
  (.cond (.tmp 64) (.reg [⟨some 66, .move (.tmp 5), none⟩,
    ⟨some 67, .move (.tmp 6), none⟩,
    ⟨some 68, .move (.tmp 0), none⟩,
    ⟨some 69, .move (.tmp 6), none⟩,
    ⟨some 70, .indexAddr 22 (.tmp 68) (.tmp 69), none⟩,
    ⟨some 71, .fieldAddr 52 (.tmp 70) 3, none⟩,
    ⟨some 72, .load 25 (.tmp 71), none⟩,
    ⟨some 73, .indexAddr 27 (.tmp 3) (.tmp 72), none⟩,
    ⟨some 74, .load 25 (.tmp 73), none⟩,
    ⟨some 75, .indexAddr 69 (.tmp 66) (.tmp 67), none⟩,
    ⟨none, .store 25 (.tmp 75) (.tmp 74), none⟩] []) (.seq (.reg [⟨some 77, .binOp .eql 3 (.tmp 22) (.const (.int .i64 384)) 3, none⟩,
    ⟨some 76, .assign (.tmp 77), none⟩] [])
  (.cond (.tmp 76) (.reg [⟨some 79, .move (.tmp 5), none⟩,
    ⟨some 80, .move (.tmp 6), none⟩,
    ⟨some 81, .move (.tmp 5), none⟩,
    ⟨some 82, .move (.tmp 0), none⟩,
    ⟨some 83, .move (.tmp 6), none⟩,
    ⟨some 84, .indexAddr 22 (.tmp 82) (.tmp 83), none⟩,
    ⟨some 85, .fieldAddr 52 (.tmp 84) 1, none⟩,
    ⟨some 86, .load 3 (.tmp 85), none⟩,
    ⟨some 87, .indexAddr 69 (.tmp 81) (.tmp 86), none⟩,
    ⟨some 88, .load 25 (.tmp 87), none⟩,
    ⟨some 89, .call { callee := .value (.func 30), args := #[.const (.int .i64 128), .tmp 88, .const (.int .u32 0)], argTypes := #[3, 25, 25] }, none⟩,
    ⟨some 78, .move (.tmp 89), none⟩,
    ⟨some 90, .extract (.tmp 78) 0, none⟩,
    ⟨some 91, .extract (.tmp 78) 1, none⟩,
    ⟨some 92, .indexAddr 69 (.tmp 79) (.tmp 80), none⟩,
    ⟨none, .store 25 (.tmp 92) (.tmp 90), none⟩] []) (.seq (.reg [⟨some 24, .move (.tmp 0), none⟩,
    ⟨some 25, .move (.tmp 6), none⟩,
    ⟨some 26, .indexAddr 22 (.tmp 24) (.tmp 25), none⟩,
    ⟨some 27, .fieldAddr 52 (.tmp 26) 0, none⟩,
    ⟨some 28, .load 3 (.tmp 27), none⟩,
    ⟨some 29, .binOp .sub 3 (.tmp 28) (.const (.int .i64 256)) 3, none⟩,
    ⟨some 30, .move (.tmp 5), none⟩,
    ⟨some 31, .move (.tmp 0), none⟩,
    ⟨some 32, .move (.tmp 6), none⟩,
    ⟨some 33, .indexAddr 22 (.tmp 31) (.tmp 32), none⟩,
    ⟨some 34, .fieldAddr 52 (.tmp 33) 1, none⟩,
    ⟨some 35, .load 3 (.tmp 34), none⟩,
    ⟨some 36, .indexAddr 69 (.tmp 30) (.tmp 35), none⟩,
    ⟨some 37, .load 25 (.tmp 36), none⟩,
    ⟨some 38, .move (.tmp 5), none⟩,
    ⟨some 39, .move (.tmp 0), none⟩,
    ⟨some 40, .move (.tmp 6), none⟩,
    ⟨some 41, .indexAddr 22 (.tmp 39) (.tmp 40), none⟩,
    ⟨some 42, .fieldAddr 52 (.tmp 41) 2, none⟩,
    ⟨some 43, .load 3 (.tmp 42), none⟩,
    ⟨some 44, .indexAddr 69 (.tmp 38) (.tmp 43), none⟩,
    ⟨some 45, .load 25 (.tmp 44), none⟩,
    ⟨some 46, .call { callee := .value (.func 30), args := #[.tmp 29, .tmp 37, .tmp 45], argTypes := #[3, 25, 25] }, none⟩,
    ⟨some 23, .move (.tmp 46), none⟩,
    ⟨some 47, .extract (.tmp 23) 0, none⟩,
    ⟨some 48, .extract (.tmp 23) 1, none⟩,
    ⟨some 7, .assign (.tmp 47), none⟩,
    ⟨some 8, .assign (.tmp 48), none⟩] [])
  (.seq (.reg [⟨some 49, .move (.tmp 8), none⟩] [])
  (.cond (.tmp 49) (.reg [⟨some 50, .move (.tmp 5), none⟩,
    ⟨some 51, .move (.tmp 6), none⟩,
    ⟨some 52, .move (.tmp 7), none⟩,
    ⟨some 53, .indexAddr 69 (.tmp 50) (.tmp 51), none⟩,
    ⟨none, .store 25 (.tmp 53) (.tmp 52), none⟩] []) .skip))))))))))))
  (.reg [⟨some 16, .move (.tmp 6), none⟩,
    ⟨some 17, .binOp .add 3 (.tmp 16) (.const (.int .i64 1)) 3, none⟩,
    ⟨some 6, .assign (.tmp 17), none⟩] [])))
/-- tamis/tamisref11.Values -/
def S38 : SC :=
  (.seq (.reg [⟨some 3, .box 27 (.tmp 1), none⟩,
    ⟨some 4, .assign (.const (.slice none 0 0)), none⟩] [])
  (.seq (.reg [⟨some 9, .move (.tmp 0), none⟩,
    ⟨some 10, .call { callee := .builtin .len, args := #[.tmp 9], argTypes := #[22] }, none⟩,
    ⟨some 11, .makeSlice 69 (.tmp 10) (.tmp 10), none⟩,
    ⟨some 5, .assign (.tmp 11), none⟩] [])
  (.seq (.seq (.reg [⟨some 6, .assign (.const (.int .i64 0)), none⟩] [])
  (.block 0 (.loop S38L1)))
  (.seq (.reg [⟨some 93, .move (.tmp 5), none⟩,
    ⟨some 4, .assign (.tmp 93), none⟩] [])
  .ret))))
theorem S38_eq : slimF Try.prog 38 = some (94, [.tmp 4], S38) := by kernel_rfl

/-- tamis/simp.All -/
def S39 : SC :=
  (.seq (.reg [⟨some 4, .assign (.const (.slice none 0 0)), none⟩,
    ⟨some 5, .assign (.const (.int .i64 0)), none⟩,
    ⟨some 6, .assign (.const (.int .i64 0)), none⟩] [])
  (.seq (.seq (.reg [⟨some 15, .move (.tmp 0), none⟩,
    ⟨some 16, .call { callee := .value (.func 52), args := #[.tmp 15], argTypes := #[22] }, none⟩,
    ⟨some 14, .move (.tmp 16), none⟩,
    ⟨some 17, .extract (.tmp 14) 0, none⟩,
    ⟨some 18, .extract (.tmp 14) 1, none⟩,
    ⟨some 7, .assign (.tmp 17), none⟩,
    ⟨some 8, .assign (.tmp 18), none⟩] [])
  (.seq (.reg [⟨some 19, .move (.tmp 8), none⟩,
    ⟨some 20, .binOp .neq 30 (.tmp 19) (.const (.int .i64 0)) 30, none⟩] [])
  (.cond (.tmp 20) (.seq (.reg [⟨some 4, .assign (.const (.slice none 0 0)), none⟩,
    ⟨some 5, .assign (.const (.int .i64 0)), none⟩,
    ⟨some 6, .assign (.const (.int .i64 3)), none⟩] [])
  .ret) .skip)))
  (.seq (.seq (.reg [⟨some 21, .move (.tmp 1), none⟩,
    ⟨some 22, .binOp .lss 3 (.tmp 21) (.const (.int .i64 0)) 3, none⟩,
    ⟨some 23, .move (.tmp 22), none⟩,
    ⟨some 24, .move (.tmp 1), some (23, false)⟩,
    ⟨some 25, .move (.tmp 0), some (23, false)⟩,
    ⟨some 26, .call { callee := .builtin .len, args := #[.tmp 25], argTypes := #[22] }, some (23, false)⟩,
    ⟨some 27, .binOp .geq 3 (.tmp 24) (.tmp 26) 3, some (23, false)⟩,
    ⟨some 28, .pick (.tmp 23) (.const (.bool true)) (.tmp 27), none⟩] [])
  (.cond (.tmp 28) (.seq (.reg [⟨some 4, .assign (.const (.slice none 0 0)), none⟩,
    ⟨some 5, .assign (.const (.int .i64 0)), none⟩,
    ⟨some 6, .assign (.const (.int .i64 2)), none⟩] [])
  .ret) .skip))
  (.seq (.reg [⟨some 30, .move (.tmp 0), none⟩,
    ⟨some 31, .move (.tmp 1), none⟩,
    ⟨some 32, .binOp .add 3 (.tmp 31) (.const (.int .i64 1)) 3, none⟩,
    ⟨some 33, .slice 22 (.tmp 30) none (some (.tmp 32)) none, none⟩,
    ⟨some 34, .call { callee := .value (.func 70), args := #[.tmp 33], argTypes := #[22] }, none⟩,
    ⟨some 29, .move (.tmp 34), none⟩,
    ⟨some 35, .extract (.tmp 29) 0, none⟩,
    ⟨some 36, .extract (.tmp 29) 1, none⟩,
    ⟨some 9, .assign (.tmp 35), none⟩,
    ⟨some 10, .assign (.tmp 36), none⟩] [])
  (.seq (.reg [⟨some 38, .move (.tmp 9), none⟩,
    ⟨some 39, .call { callee := .value (.func 36), args := #[.tmp 38], argTypes := #[40] }, none⟩,
    ⟨some 40, .move (.tmp 10), none⟩,
    ⟨some 41, .move (.tmp 1), none⟩,
    ⟨some 42, .move (.tmp 1), none⟩,
    ⟨some 43, .binOp .add 3 (.tmp 42) (.const (.int .i64 1)) 3, none⟩,
    ⟨some 44, .slice 37 (.tmp 40) (some (.tmp 41)) (some (.tmp 43)) none, none⟩,
    ⟨some 45, .call { callee := .value (.func 71), args := #[.tmp 39, .tmp 44], argTypes := #[22, 37] }, none⟩,
    ⟨some 37, .move (.tmp 45), none⟩,
    ⟨some 46, .extract (.tmp 37) 0, none⟩,
    ⟨some 47, .extract (.tmp 37) 1, none⟩,
    ⟨some 48, .extract (.tmp 37) 2, none⟩,
    ⟨some 11, .assign (.tmp 46), none⟩,
    ⟨some 12, .assign (.tmp 47), none⟩,
    ⟨some 13, .assign (.tmp 48), none⟩] [])
  (.seq (.seq (.reg [⟨some 49, .move (.tmp 13), none⟩,
    ⟨some 50, .binOp .neq 30 (.tmp 49) (.const (.int .i64 0)) 30, none⟩] [])
  (.cond (.tmp 50) (.seq (.reg [⟨some 51, .move (.tmp 13), none⟩,
    ⟨some 4, .assign (.const (.slice none 0 0)), none⟩,
    ⟨some 5, .assign (.const (.int .i64 0)), none⟩,
    ⟨some 6, .assign (.tmp 51), none⟩] [])
  .ret) .skip))
  (.seq (.reg [⟨some 52, .move (.tmp 11), none⟩,
    ⟨some 53, .move (.tmp 12), none⟩,
    ⟨some 54, .indexAddr 37 (.tmp 53) (.const (.int .i64 0)), none⟩,
    ⟨some 55, .load 3 (.tmp 54), none⟩,
    ⟨some 4, .assign (.tmp 52), none⟩,
    ⟨some 5, .assign (.tmp 55), none⟩,
    ⟨some 6, .assign (.const (.int .i64 0)), none⟩] [])
  .ret)))))))
theorem S39_eq : slimF Try.prog 39 = some (56, [.tmp 4, .tmp 5, .tmp 6], S39) := by kernel_rfl

def S40L1 : SC :=
  (.seq (.reg [⟨some 28, .binOp .lss 3 (.tmp 27) (.tmp 26) 3, none⟩] [])
  (.seq (.cond (.tmp 28) .skip (.exit 0))
  (.seq (.block 1 (.seq (.reg [⟨some 29, .move (.tmp 27), none⟩,
    ⟨some 30, .indexAddr 22 (.tmp 25) (.tmp 27), none⟩,
    ⟨some 31, .load 52 (.tmp 30), none⟩,
    ⟨some 9, .alloc 52, none⟩,
    ⟨some 8, .assign (.tmp 29), none⟩,
    ⟨none, .store 52 (.tmp 9) (.tmp 31), none⟩] [])
  (.seq (.seq (.reg [⟨some 32, .fieldAddr 52 (.tmp 9) 0, none⟩,
    ⟨some 33, .load 3 (.tmp 32), none⟩,
    ⟨some 34, .binOp .neq 3 (.tmp 33) (.const (.int .i64 1)) 3, none⟩,
    ⟨some 35, .move (.tmp 34), none⟩,
    ⟨some 36, .fieldAddr 52 (.tmp 9) 0, some (35, true)⟩,
    ⟨some 37, .load 3 (.tmp 36), some (35, true)⟩,
    ⟨some 38, .binOp .neq 3 (.tmp 37) (.const (.int .i64 2)) 3, some (35, true)⟩,
    ⟨some 39, .pick (.tmp 35) (.tmp 38) (.const (.bool false)), none⟩] [])
  (.cond (.tmp 39) (.seq (.reg [⟨some 40, .move (.tmp 7), none⟩,
    ⟨some 41, .fieldAddr 52 (.tmp 9) 1, none⟩,
    ⟨some 42, .load 3 (.tmp 41), none⟩,
    ⟨some 43, .indexAddr 37 (.tmp 40) (.tmp 42), none⟩,
    ⟨some 44, .load 3 (.tmp 43), none⟩,
    ⟨some 45, .fieldAddr 52 (.tmp 9) 1, none⟩,
    ⟨none, .store 3 (.tmp 45) (.tmp 44), none⟩] [])
  (.seq (.reg [⟨some 46, .fieldAddr 52 (.tmp 9) 0, none⟩,
    ⟨some 47, .load 3 (.tmp 46), none⟩,
    ⟨some 48, .binOp .neq 3 (.tmp 47) (.const (.int .i64 384)) 3, none⟩] [])
  (.cond (.tmp 48) (.reg [⟨some 49, .move (.tmp 7), none⟩,
    ⟨some 50, .fieldAddr 52 (.tmp 9) 2, none⟩,
    ⟨some 51, .load 3 (.tmp 50), none⟩,
    ⟨some 52, .indexAddr 37 (.tmp 49) (.tmp 51), none⟩,
    ⟨some 53, .load 3 (.tmp 52), none⟩,
    ⟨some 54, .fieldAddr 52 (.tmp 9) 2, none⟩,
    ⟨none, .store 3 (.tmp 54) (.tmp 53), none⟩] []) .skip))) .skip))
  (.seq (.reg [⟨some 56, .move (.tmp 7), none⟩,
    ⟨some 57, .move (.tmp 8), none⟩,
    ⟨some 58, .move (.tmp 5), none⟩,
    ⟨some 59, .load 52 (.tmp 9), none⟩,
    ⟨some 60, .call { callee := .value (.func 57), args := #[.tmp 58, .tmp 59], argTypes := #[40, 52] }, none⟩,
    ⟨some 55, .move (.tmp 60), none⟩,
    ⟨some 61, .extract (.tmp 55) 0, none⟩,
    ⟨some 62, .extract (.tmp 55) 1, none⟩,
    ⟨some 63, .indexAddr 37 (.tmp 56) (.tmp 57), none⟩,
    ⟨none, .store 3 (.tmp 63) (.tmp 61), none⟩] [])
  (.seq (.reg [⟨some 64, .move (.tmp 7), none⟩,
    ⟨some 65, .move (.tmp 8), none⟩,
    ⟨some 66, .indexAddr 37 (.tmp 64) (.tmp 65), none⟩,
    ⟨some 67, .load 3 (.tmp 66), none⟩,
    ⟨some 68, .move (.tmp 6), none⟩,
    ⟨some 69, .move (.tmp 8), none⟩,
    ⟨some 70, .indexAddr 37 (.tmp 68) (.tmp 69), none⟩,
    ⟨some 71, .load 3 (.tmp 70), none⟩,
    ⟨some 72, .binOp .neq 3 (.tmp 67) (.tmp 71) 3, none⟩] [])
  (.cond (.tmp 72) (.seq (.reg [⟨some 2, .assign (.const (.bool false)), none⟩] [])
  .ret) .skip))))))
  (.reg [⟨some 73, .binOp .add 3 (.tmp 27) (.const (.int .i64 1)) 3, none⟩,
    ⟨some 27, .move (.tmp 73), none⟩] []))))
/-- tamis/simp.Normal -/
def S40 : SC :=
  (.seq (.reg [⟨some 2, .assign (.const (.bool false)), none⟩] [])
  (.seq (.seq (.reg [⟨some 11, .move (.tmp 0), none⟩,
    ⟨some 12, .call { callee := .value (.func 52), args := #[.tmp 11], argTypes := #[22] }, none⟩,
    ⟨some 10, .move (.tmp 12), none⟩,
    ⟨some 13, .extract (.tmp 10) 0, none⟩,
    ⟨some 14, .extract (.tmp 10) 1, none⟩,
    ⟨some 3, .assign (.tmp 13), none⟩,
    ⟨some 4, .assign (.tmp 14), none⟩] [])
  (.seq (.reg [⟨some 15, .move (.tmp 4), none⟩,
    ⟨some 16, .binOp .neq 30 (.tmp 15) (.const (.int .i64 0)) 30, none⟩] [])
  (.cond (.tmp 16) (.seq (.reg [⟨some 2, .assign (.const (.bool false)), none⟩] [])
  .ret) .skip)))
  (.seq (.reg [⟨some 18, .move (.tmp 0), none⟩,
    ⟨some 19, .call { callee := .value (.func 70), args := #[.tmp 18], argTypes := #[22] }, none⟩,
    ⟨some 17, .move (.tmp 19), none⟩,
    ⟨some 20, .extract (.tmp 17) 0, none⟩,
    ⟨some 21, .extract (.tmp 17) 1, none⟩,
    ⟨some 5, .assign (.tmp 20), none⟩,
    ⟨some 6, .assign (.tmp 21), none⟩] [])
  (.seq (.reg [⟨some 22, .move (.tmp 0), none⟩,
    ⟨some 23, .call { callee := .builtin .len, args := #[.tmp 22], argTypes := #[22] }, none⟩,
    ⟨some 24, .makeSlice 37 (.tmp 23) (.tmp 23), none⟩,
    ⟨some 7, .assign (.tmp 24), none⟩] [])
  (.seq (.seq (.reg [⟨some 25, .move (.tmp 0), none⟩,
    ⟨some 26, .call { callee := .builtin .len, args := #[.tmp 25], argTypes := #[22] }, none⟩,
    ⟨some 27, .move (.const (.int .i64 0)), none⟩] [])
  (.block 0 (.loop S40L1)))
  (.seq (.reg [⟨some 2, .assign (.const (.bool true)), none⟩] [])
  .ret))))))
theorem S40_eq : slimF Try.prog 40 = some (74, [.tmp 2], S40) := by kernel_rfl

def S41L1 : SC :=
  (.seq (.seq (.reg [⟨some 22, .move (.tmp 7), none⟩,
    ⟨some 23, .move (.tmp 0), none⟩,
    ⟨some 24, .call { callee := .builtin .len, args := #[.tmp 23], argTypes := #[22] }, none⟩,
    ⟨some 25, .binOp .lss 3 (.tmp 22) (.tmp 24) 3, none⟩] [])
  (.cond (.tmp 25) .skip (.exit 0)))
  (.seq (.block 1 (.seq (.reg [⟨some 28, .move (.tmp 4), none⟩,
    ⟨some 29, .move (.tmp 7), none⟩,
    ⟨some 30, .indexAddr 37 (.tmp 28) (.tmp 29), none⟩,
    ⟨some 31, .load 3 (.tmp 30), none⟩,
    ⟨some 32, .move (.tmp 6), none⟩,
    ⟨some 33, .move (.tmp 7), none⟩,
    ⟨some 34, .indexAddr 37 (.tmp 32) (.tmp 33), none⟩,
    ⟨some 35, .load 3 (.tmp 34), none⟩,
    ⟨some 36, .binOp .neq 3 (.tmp 31) (.tmp 35) 3, none⟩] [])
  (.cond (.tmp 36) (.seq (.reg [⟨some 2, .assign (.const (.bool false)), none⟩] [])
  .ret) .skip)))
  (.reg [⟨some 26, .move (.tmp 7), none⟩,
    ⟨some 27, .binOp .add 3 (.tmp 26) (.const (.int .i64 1)) 3, none⟩,
    ⟨some 7, .assign (.tmp 27), none⟩] [])))
/-- tamis/tamisref12.Normal -/
def S41 : SC :=
  (.seq (.reg [⟨some 2, .assign (.const (.bool false)), none⟩] [])
  (.seq (.seq (.reg [⟨some 8, .move (.tmp 0), none⟩,
    ⟨some 9, .call { callee := .value (.func 23), args := #[.tmp 8], argTypes := #[22] }, none⟩,
    ⟨some 10, .unOp .not 4 (.tmp 9), none⟩] [])
  (.cond (.tmp 10) (.seq (.reg [⟨some 2, .assign (.const (.bool false)), none⟩] [])
  .ret) .skip))
  (.seq (.reg [⟨some 12, .move (.tmp 0), none⟩,
    ⟨some 13, .call { callee := .value (.func 43), args := #[.tmp 12], argTypes := #[22] }, none⟩,
    ⟨some 11, .move (.tmp 13), none⟩,
    ⟨some 14, .extract (.tmp 11) 0, none⟩,
    ⟨some 15, .extract (.tmp 11) 1, none⟩,
    ⟨some 3, .assign (.tmp 14), none⟩,
    ⟨some 4, .assign (.tmp 15), none⟩] [])
  (.seq (.reg [⟨some 17, .move (.tmp 3), none⟩,
    ⟨some 18, .move (.tmp 0), none⟩,
    ⟨some 19, .call { callee := .value (.func 24), args := #[.tmp 17, .tmp 18], argTypes := #[22, 22] }, none⟩,
    ⟨some 16, .move (.tmp 19), none⟩,
    ⟨some 20, .extract (.tmp 16) 0, none⟩,
    ⟨some 21, .extract (.tmp 16) 1, none⟩,
    ⟨some 5, .assign (.tmp 20), none⟩,
    ⟨some 6, .assign (.tmp 21), none⟩] [])
  (.seq (.seq (.reg [⟨some 7, .assign (.const (.int .i64 0)), none⟩] [])
  (.block 0 (.loop S41L1)))
  (.seq (.reg [⟨some 2, .assign (.const (.bool true)), none⟩] [])
  .ret))))))
theorem S41_eq : slimF Try.prog 41 = some (37, [.tmp 2], S41) := by kernel_rfl

def S42L2 : SC :=
  (.seq (.seq (.reg [⟨some 32, .move (.tmp 8), none⟩,
    ⟨some 33, .move (.tmp 7), none⟩,
    ⟨some 34, .call { callee := .builtin .len, args := #[.tmp 33], argTypes := #[37] }, none⟩,
    ⟨some 35, .binOp .lss 3 (.tmp 32) (.tmp 34) 3, none⟩] [])
  (.cond (.tmp 35) .skip (.exit 2)))
  (.seq (.block 3 (.reg [⟨some 38, .move (.tmp 5), none⟩,
    ⟨some 39, .move (.tmp 7), none⟩,
    ⟨some 40, .move (.tmp 8), none⟩,
    ⟨some 41, .indexAddr 37 (.tmp 39) (.tmp 40), none⟩,
    ⟨some 42, .load 3 (.tmp 41), none⟩,
    ⟨some 43, .indexAddr 74 (.tmp 38) (.tmp 42), none⟩,
    ⟨none, .store 4 (.tmp 43) (.const (.bool true)), none⟩] []))
  (.reg [⟨some 36, .move (.tmp 8), none⟩,
    ⟨some 37, .binOp .add 3 (.tmp 36) (.const (.int .i64 1)) 3, none⟩,
    ⟨some 8, .assign (.tmp 37), none⟩] [])))
def S42L1 : SC :=
  (.seq (.seq (.reg [⟨some 18, .move (.tmp 6), none⟩,
    ⟨some 19, .binOp .geq 3 (.tmp 18) (.const (.int .i64 0)) 3, none⟩] [])
  (.cond (.tmp 19) .skip (.exit 0)))
  (.seq (.block 1 (.seq (.seq (.reg [⟨some 22, .move (.tmp 5), none⟩,
    ⟨some 23, .move (.tmp 6), none⟩,
    ⟨some 24, .indexAddr 74 (.tmp 22) (.tmp 23), none⟩,
    ⟨some 25, .load 4 (.tmp 24), none⟩,
    ⟨some 26, .unOp .not 4 (.tmp 25), none⟩] [])
  (.cond (.tmp 26) (.exit 1) .skip))
  (.seq (.reg [⟨some 27, .move (.tmp 0), none⟩,
    ⟨some 28, .move (.tmp 6), none⟩,
    ⟨some 29, .indexAddr 22 (.tmp 27) (.tmp 28), none⟩,
    ⟨some 30, .load 52 (.tmp 29), none⟩,
    ⟨some 31, .call { callee := .value (.func 72), args := #[.tmp 30], argTypes := #[52] }, none⟩,
    ⟨some 7, .assign (.tmp 31), none⟩] [])
  (.seq (.reg [⟨some 8, .assign (.const (.int .i64 0)), none⟩] [])
  (.block 2 (.loop S42L2))))))
  (.reg [⟨some 20, .move (.tmp 6), none⟩,
    ⟨some 21, .binOp .sub 3 (.tmp 20) (.const (.int .i64 1)) 3, none⟩,
    ⟨some 6, .assign (.tmp 21), none⟩] [])))
/-- tamis/tamisref11.In -/
def S42 : SC :=
  (.seq (.reg [⟨some 4, .assign (.const (.slice none 0 0)), none⟩] [])
  (.seq (.reg [⟨some 9, .move (.tmp 0), none⟩,
    ⟨some 10, .call { callee := .builtin .len, args := #[.tmp 9], argTypes := #[22] }, none⟩,
    ⟨some 11, .makeSlice 74 (.tmp 10) (.tmp 10), none⟩,
    ⟨some 5, .assign (.tmp 11), none⟩] [])
  (.seq (.reg [⟨some 12, .move (.tmp 5), none⟩,
    ⟨some 13, .move (.tmp 1), none⟩,
    ⟨some 14, .indexAddr 74 (.tmp 12) (.tmp 13), none⟩,
    ⟨none, .store 4 (.tmp 14) (.const (.bool true)), none⟩] [])
  (.seq (.seq (.reg [⟨some 15, .move (.tmp 0), none⟩,
    ⟨some 16, .call { callee := .builtin .len, args := #[.tmp 15], argTypes := #[22] }, none⟩,
    ⟨some 17, .binOp .sub 3 (.tmp 16) (.const (.int .i64 1)) 3, none⟩,
    ⟨some 6, .assign (.tmp 17), none⟩] [])
  (.block 0 (.loop S42L1)))
  (.seq (.reg [⟨some 44, .move (.tmp 5), none⟩,
    ⟨some 4, .assign (.tmp 44), none⟩] [])
  .ret)))))
theorem S42_eq : slimF Try.prog 42 = some (45, [.tmp 4], S42) := by kernel_rfl

def S43L1 : SC :=
  (.seq (.seq (.reg [⟨some 12, .move (.tmp 6), none⟩,
    ⟨some 13, .move (.tmp 0), none⟩,
    ⟨some 14, .call { callee := .builtin .len, args := #[.tmp 13], argTypes := #[22] }, none⟩,
    ⟨some 15, .binOp .lss 3 (.tmp 12) (.tmp 14) 3, none⟩] [])
  (.cond (.tmp 15) .skip (.exit 0)))
  (.seq (.block 1 (.seq (.reg [⟨some 18, .move (.tmp 0), none⟩,
    ⟨some 19, .move (.tmp 6), none⟩,
    ⟨some 20, .indexAddr 22 (.tmp 18) (.tmp 19), none⟩,
    ⟨some 21, .load 52 (.tmp 20), none⟩,
    ⟨some 7, .alloc 52, none⟩,
    ⟨none, .store 52 (.tmp 7) (.tmp 21), none⟩] [])
  (.seq (.seq (.reg [⟨some 22, .fieldAddr 52 (.tmp 7) 0, none⟩,
    ⟨some 23, .load 3 (.tmp 22), none⟩,
    ⟨some 24, .binOp .leq 3 (.tmp 23) (.const (.int .i64 2)) 3, none⟩] [])
  (.cond (.tmp 24) (.seq (.reg [⟨some 26, .move (.tmp 5), none⟩,
    ⟨some 27, .move (.tmp 6), none⟩,
    ⟨some 28, .move (.tmp 4), none⟩,
    ⟨some 29, .load 52 (.tmp 7), none⟩,
    ⟨some 30, .call { callee := .value (.func 56), args := #[.tmp 28, .tmp 29], argTypes := #[22, 52] }, none⟩,
    ⟨some 25, .move (.tmp 30), none⟩,
    ⟨some 31, .extract (.tmp 25) 0, none⟩,
    ⟨some 32, .extract (.tmp 25) 1, none⟩,
    ⟨some 4, .assign (.tmp 31), none⟩,
    ⟨some 33, .indexAddr 37 (.tmp 26) (.tmp 27), none⟩,
    ⟨none, .store 3 (.tmp 33) (.tmp 32), none⟩] [])
  (.exit 1)) .skip))
  (.seq (.reg [⟨some 8, .assign (.const (.int .i64 0)), none⟩] [])
  (.seq (.seq (.reg [⟨some 34, .fieldAddr 52 (.tmp 7) 0, none⟩,
    ⟨some 35, .load 3 (.tmp 34), none⟩,
    ⟨some 36, .binOp .neq 3 (.tmp 35) (.const (.int .i64 384)) 3, none⟩] [])
  (.cond (.tmp 36) (.reg [⟨some 37, .move (.tmp 5), none⟩,
    ⟨some 38, .fieldAddr 52 (.tmp 7) 2, none⟩,
    ⟨some 39, .load 3 (.tmp 38), none⟩,
    ⟨some 40, .indexAddr 37 (.tmp 37) (.tmp 39), none⟩,
    ⟨some 41, .load 3 (.tmp 40), none⟩,
    ⟨some 8, .assign (.tmp 41), none⟩] []) .skip))
  (.reg [⟨some 43, .move (.tmp 5), none⟩,
    ⟨some 44, .move (.tmp 6), none⟩,
    ⟨some 45, .move (.tmp 4), none⟩,
    ⟨some 46, .fieldAddr 52 (.tmp 7) 0, none⟩,
    ⟨some 47, .load 3 (.tmp 46), none⟩,
    ⟨some 48, .binOp .sub 3 (.tmp 47) (.const (.int .i64 256)) 3, none⟩,
    ⟨some 49, .move (.tmp 5), none⟩,
    ⟨some 50, .fieldAddr 52 (.tmp 7) 1, none⟩,
    ⟨some 51, .load 3 (.tmp 50), none⟩,
    ⟨some 52, .indexAddr 37 (.tmp 49) (.tmp 51), none⟩,
    ⟨some 53, .load 3 (.tmp 52), none⟩,
    ⟨some 54, .move (.tmp 8), none⟩,
    ⟨some 55, .call { callee := .value (.func 35), args := #[.tmp 45, .tmp 48, .tmp 53, .tmp 54], argTypes := #[22, 3, 3, 3] }, none⟩,
    ⟨some 42, .move (.tmp 55), none⟩,
    ⟨some 56, .extract (.tmp 42) 0, none⟩,
    ⟨some 57, .extract (.tmp 42) 1, none⟩,
    ⟨some 4, .assign (.tmp 56), none⟩,
    ⟨some 58, .indexAddr 37 (.tmp 43) (.tmp 44), none⟩,
    ⟨none, .store 3 (.tmp 58) (.tmp 57), none⟩] []))))))
  (.reg [⟨some 16, .move (.tmp 6), none⟩,
    ⟨some 17, .binOp .add 3 (.tmp 16) (.const (.int .i64 1)) 3, none⟩,
    ⟨some 6, .assign (.tmp 17), none⟩] [])))
/-- tamis/tamisref12.All -/
def S43 : SC :=
  (.seq (.reg [⟨some 2, .assign (.const (.slice none 0 0)), none⟩,
    ⟨some 3, .assign (.const (.slice none 0 0)), none⟩] [])
  (.seq (.reg [⟨some 4, .assign (.const (.slice none 0 0)), none⟩] [])
  (.seq (.reg [⟨some 9, .move (.tmp 0), none⟩,
    ⟨some 10, .call { callee := .builtin .len, args := #[.tmp 9], argTypes := #[22] }, none⟩,
    ⟨some 11, .makeSlice 37 (.tmp 10) (.tmp 10), none⟩,
    ⟨some 5, .assign (.tmp 11), none⟩] [])
  (.seq (.seq (.reg [⟨some 6, .assign (.const (.int .i64 0)), none⟩] [])
  (.block 0 (.loop S43L1)))
  (.seq (.reg [⟨some 59, .move (.tmp 4), none⟩,
    ⟨some 60, .move (.tmp 5), none⟩,
    ⟨some 2, .assign (.tmp 59), none⟩,
    ⟨some 3, .assign (.tmp 60), none⟩] [])
  .ret)))))
theorem S43_eq : slimF Try.prog 43 = some (61, [.tmp 2, .tmp 3], S43) := by kernel_rfl

def S44L1 : SC :=
  (.seq (.seq (.reg [⟨some 11, .move (.tmp 7), none⟩,
    ⟨some 12, .move (.tmp 0), none⟩,
    ⟨some 13, .call { callee := .builtin .len, args := #[.tmp 12], argTypes := #[22] }, none⟩,
    ⟨some 14, .binOp .lss 3 (.tmp 11) (.tmp 13) 3, none⟩] [])
  (.cond (.tmp 14) .skip (.exit 0)))
  (.seq (.block 1 (.seq (.reg [⟨some 17, .move (.tmp 6), none⟩,
    ⟨some 18, .move (.tmp 7), none⟩,
    ⟨some 19, .indexAddr 74 (.tmp 17) (.tmp 18), none⟩,
    ⟨some 20, .load 4 (.tmp 19), none⟩,
    ⟨some 21, .move (.tmp 20), none⟩,
    ⟨some 22, .move (.tmp 0), some (21, true)⟩,
    ⟨some 23, .move (.tmp 7), some (21, true)⟩,
    ⟨some 24, .indexAddr 22 (.tmp 22) (.tmp 23), some (21, true)⟩,
    ⟨some 25, .fieldAddr 52 (.tmp 24) 0, some (21, true)⟩,
    ⟨some 26, .load 3 (.tmp 25), some (21, true)⟩,
    ⟨some 27, .binOp .eql 3 (.tmp 26) (.const (.int .i64 2)) 3, some (21, true)⟩,
    ⟨some 28, .pick (.tmp 21) (.tmp 27) (.const (.bool false)), none⟩] [])
  (.cond (.tmp 28) (.reg [⟨some 29, .move (.tmp 5), none⟩,
    ⟨some 30, .move (.tmp 0), none⟩,
    ⟨some 31, .move (.tmp 7), none⟩,
    ⟨some 32, .indexAddr 22 (.tmp 30) (.tmp 31), none⟩,
    ⟨some 33, .fieldAddr 52 (.tmp 32) 3, none⟩,
    ⟨some 34, .load 25 (.tmp 33), none⟩,
    ⟨some 35, .binOp .shl 78 (.const (.int .u16 1)) (.tmp 34) 25, none⟩,
    ⟨some 36, .binOp .or 78 (.tmp 29) (.tmp 35) 78, none⟩,
    ⟨some 5, .assign (.tmp 36), none⟩] []) .skip)))
  (.reg [⟨some 15, .move (.tmp 7), none⟩,
    ⟨some 16, .binOp .add 3 (.tmp 15) (.const (.int .i64 1)) 3, none⟩,
    ⟨some 7, .assign (.tmp 16), none⟩] [])))
/-- tamis/tamisref11.Uses -/
def S44 : SC :=
  (.seq (.reg [⟨some 4, .assign (.const (.int .u16 0)), none⟩] [])
  (.seq (.reg [⟨some 5, .assign (.const (.int .u16 0)), none⟩] [])
  (.seq (.reg [⟨some 8, .move (.tmp 0), none⟩,
    ⟨some 9, .move (.tmp 1), none⟩,
    ⟨some 10, .call { callee := .value (.func 42), args := #[.tmp 8, .tmp 9], argTypes := #[22, 3] }, none⟩,
    ⟨some 6, .assign (.tmp 10), none⟩] [])
  (.seq (.seq (.reg [⟨some 7, .assign (.const (.int .i64 0)), none⟩] [])
  (.block 0 (.loop S44L1)))
  (.seq (.reg [⟨some 37, .move (.tmp 5), none⟩,
    ⟨some 4, .assign (.tmp 37), none⟩] [])
  .ret)))))
theorem S44_eq : slimF Try.prog 44 = some (38, [.tmp 4], S44) := by kernel_rfl

def S45L2 : SC :=
  (.seq (.seq (.reg [⟨some 22, .move (.tmp 7), none⟩,
    ⟨some 23, .move (.tmp 6), none⟩,
    ⟨some 24, .call { callee := .builtin .len, args := #[.tmp 23], argTypes := #[37] }, none⟩,
    ⟨some 25, .binOp .lss 3 (.tmp 22) (.tmp 24) 3, none⟩] [])
  (.cond (.tmp 25) .skip (.exit 2)))
  (.seq (.block 3 (.reg [⟨some 28, .move (.tmp 5), none⟩,
    ⟨some 29, .move (.tmp 3), none⟩,
    ⟨some 30, .move (.tmp 6), none⟩,
    ⟨some 31, .move (.tmp 7), none⟩,
    ⟨some 32, .indexAddr 37 (.tmp 30) (.tmp 31), none⟩,
    ⟨some 33, .load 3 (.tmp 32), none⟩,
    ⟨some 34, .indexAddr 80 (.tmp 29) (.tmp 33), none⟩,
    ⟨some 35, .load 82 (.tmp 34), none⟩,
    ⟨some 36, .binOp .add 82 (.tmp 28) (.tmp 35) 82, none⟩,
    ⟨some 5, .assign (.tmp 36), none⟩] []))
  (.reg [⟨some 26, .move (.tmp 7), none⟩,
    ⟨some 27, .binOp .add 3 (.tmp 26) (.const (.int .i64 1)) 3, none⟩,
    ⟨some 7, .assign (.tmp 27), none⟩] [])))
def S45L1 : SC :=
  (.seq (.seq (.reg [⟨some 11, .move (.tmp 4), none⟩,
    ⟨some 12, .move (.tmp 0), none⟩,
    ⟨some 13, .call { callee := .builtin .len, args := #[.tmp 12], argTypes := #[22] }, none⟩,
    ⟨some 14, .binOp .lss 3 (.tmp 11) (.tmp 13) 3, none⟩] [])
  (.cond (.tmp 14) .skip (.exit 0)))
  (.seq (.block 1 (.seq (.reg [⟨some 5, .assign (.const (.int .u64 1)), none⟩] [])
  (.seq (.reg [⟨some 17, .move (.tmp 0), none⟩,
    ⟨some 18, .move (.tmp 4), none⟩,
    ⟨some 19, .indexAddr 22 (.tmp 17) (.tmp 18), none⟩,
    ⟨some 20, .load 52 (.tmp 19), none⟩,
    ⟨some 21, .call { callee := .value (.func 72), args := #[.tmp 20], argTypes := #[52] }, none⟩,
    ⟨some 6, .assign (.tmp 21), none⟩] [])
  (.seq (.seq (.reg [⟨some 7, .assign (.const (.int .i64 0)), none⟩] [])
  (.block 2 (.loop S45L2)))
  (.reg [⟨some 37, .move (.tmp 3), none⟩,
    ⟨some 38, .move (.tmp 4), none⟩,
    ⟨some 39, .move (.tmp 5), none⟩,
    ⟨some 40, .call { callee := .builtin .min, args := #[.tmp 39, .const (.int .u64 1125899906842624)], argTypes := #[82, 82] }, none⟩,
    ⟨some 41, .indexAddr 80 (.tmp 37) (.tmp 38), none⟩,
    ⟨none, .store 82 (.tmp 41) (.tmp 40), none⟩] [])))))
  (.reg [⟨some 15, .move (.tmp 4), none⟩,
    ⟨some 16, .binOp .add 3 (.tmp 15) (.const (.int .i64 1)) 3, none⟩,
    ⟨some 4, .assign (.tmp 16), none⟩] [])))
/-- tamis/tamisref11.Sizes -/
def S45 : SC :=
  (.seq (.reg [⟨some 2, .assign (.const (.slice none 0 0)), none⟩] [])
  (.seq (.reg [⟨some 8, .move (.tmp 0), none⟩,
    ⟨some 9, .call { callee := .builtin .len, args := #[.tmp 8], argTypes := #[22] }, none⟩,
    ⟨some 10, .makeSlice 80 (.tmp 9) (.tmp 9), none⟩,
    ⟨some 3, .assign (.tmp 10), none⟩] [])
  (.seq (.seq (.reg [⟨some 4, .assign (.const (.int .i64 0)), none⟩] [])
  (.block 0 (.loop S45L1)))
  (.seq (.reg [⟨some 42, .move (.tmp 3), none⟩,
    ⟨some 2, .assign (.tmp 42), none⟩] [])
  .ret))))
theorem S45_eq : slimF Try.prog 45 = some (43, [.tmp 2], S45) := by kernel_rfl

/-- tamis/simp.Number -/
def S46 : SC :=
  (.seq (.reg [⟨some 4, .assign (.const (.int .i64 0)), none⟩,
    ⟨some 5, .assign (.const (.int .i64 0)), none⟩] [])
  (.seq (.reg [⟨some 7, .move (.tmp 0), none⟩,
    ⟨some 8, .build 110 #[(0, .tmp 7)], none⟩,
    ⟨some 9, .box 110 (.tmp 8), none⟩,
    ⟨some 6, .assign (.tmp 9), none⟩] [])
  (.seq (.reg [⟨some 10, .move (.tmp 6), none⟩,
    ⟨some 11, .move (.tmp 6), none⟩,
    ⟨some 12, .move (.tmp 1), none⟩,
    ⟨some 13, .call { callee := .value (.func 73), args := #[.tmp 11, .tmp 12], argTypes := #[108, 25] }, none⟩,
    ⟨some 14, .call { callee := .value (.func 64), args := #[.tmp 10, .tmp 13], argTypes := #[108, 3] }, none⟩,
    ⟨some 15, .extract (.tmp 14) 0, none⟩,
    ⟨some 16, .extract (.tmp 14) 1, none⟩,
    ⟨some 4, .assign (.tmp 15), none⟩,
    ⟨some 5, .assign (.tmp 16), none⟩] [])
  .ret)))
theorem S46_eq : slimF Try.prog 46 = some (17, [.tmp 4, .tmp 5], S46) := by kernel_rfl

/-- tamis/term.New -/
def S47 : SC :=
  (.seq (.reg [⟨some 0, .assign (.const (.pointer none)), none⟩] [])
  (.seq (.reg [⟨some 1, .makeMap 116 none, none⟩,
    ⟨some 2, .build 118 #[(1, .tmp 1)], none⟩,
    ⟨some 3, .box 118 (.tmp 2), none⟩,
    ⟨some 0, .assign (.tmp 3), none⟩] [])
  .ret))
theorem S47_eq : slimF Try.prog 47 = some (4, [.tmp 0], S47) := by kernel_rfl

/-- tamis/simp.Word -/
def S48 : SC :=
  (.seq (.reg [⟨some 4, .assign (.const (.int .i64 0)), none⟩,
    ⟨some 5, .assign (.const (.int .i64 0)), none⟩] [])
  (.seq (.seq (.reg [⟨some 6, .move (.tmp 0), none⟩,
    ⟨some 7, .binOp .neq 40 (.tmp 6) (.const (.pointer none)) 40, none⟩,
    ⟨some 8, .move (.tmp 7), none⟩,
    ⟨some 9, .move (.tmp 1), some (8, true)⟩,
    ⟨some 10, .binOp .lss 3 (.tmp 9) (.const (.int .i64 0)) 3, some (8, true)⟩,
    ⟨some 11, .move (.tmp 10), some (8, true)⟩,
    ⟨some 12, .move (.tmp 1), some (11, false)⟩,
    ⟨some 13, .binOp .geq 3 (.tmp 12) (.const (.int .i64 16)) 3, some (11, false)⟩,
    ⟨some 14, .pick (.tmp 11) (.const (.bool true)) (.tmp 13), some (8, true)⟩,
    ⟨some 15, .pick (.tmp 8) (.tmp 14) (.const (.bool false)), none⟩] [])
  (.cond (.tmp 15) (.seq (.reg [⟨some 4, .assign (.const (.int .i64 0)), none⟩,
    ⟨some 5, .assign (.const (.int .i64 1)), none⟩] [])
  .ret) .skip))
  (.seq (.reg [⟨some 16, .move (.tmp 0), none⟩,
    ⟨some 17, .move (.tmp 1), none⟩,
    ⟨some 18, .convert 3 25 (.tmp 17), none⟩,
    ⟨some 19, .build 52 #[(0, .const (.int .i64 2)), (3, .tmp 18)], none⟩,
    ⟨some 20, .call { callee := .value (.func 57), args := #[.tmp 16, .tmp 19], argTypes := #[40, 52] }, none⟩,
    ⟨some 21, .extract (.tmp 20) 0, none⟩,
    ⟨some 22, .extract (.tmp 20) 1, none⟩,
    ⟨some 4, .assign (.tmp 21), none⟩,
    ⟨some 5, .assign (.tmp 22), none⟩] [])
  .ret)))
theorem S48_eq : slimF Try.prog 48 = some (23, [.tmp 4, .tmp 5], S48) := by kernel_rfl

/-- (*tamis/term.Pool).At -/
def S49 : SC :=
  (.seq (.reg [⟨some 4, .alloc 52, none⟩,
    ⟨some 5, .assign (.const (.bool false)), none⟩] [])
  (.seq (.seq (.reg [⟨some 6, .move (.tmp 0), none⟩,
    ⟨some 7, .binOp .eql 40 (.tmp 6) (.const (.pointer none)) 40, none⟩,
    ⟨some 8, .move (.tmp 7), none⟩,
    ⟨some 9, .move (.tmp 1), some (8, false)⟩,
    ⟨some 10, .binOp .lss 3 (.tmp 9) (.const (.int .i64 0)) 3, some (8, false)⟩,
    ⟨some 11, .pick (.tmp 8) (.const (.bool true)) (.tmp 10), none⟩,
    ⟨some 12, .move (.tmp 11), none⟩,
    ⟨some 13, .move (.tmp 1), some (12, false)⟩,
    ⟨some 14, .move (.tmp 0), some (12, false)⟩,
    ⟨some 15, .nilCheck (.tmp 14), some (12, false)⟩,
    ⟨some 16, .fieldAddr 118 (.tmp 15) 0, some (12, false)⟩,
    ⟨some 17, .load 22 (.tmp 16), some (12, false)⟩,
    ⟨some 18, .call { callee := .builtin .len, args := #[.tmp 17], argTypes := #[22] }, some (12, false)⟩,
    ⟨some 19, .binOp .geq 3 (.tmp 13) (.tmp 18) 3, some (12, false)⟩,
    ⟨some 20, .pick (.tmp 12) (.const (.bool true)) (.tmp 19), none⟩] [])
  (.cond (.tmp 20) (.seq (.reg [⟨some 21, .build 52 #[], none⟩,
    ⟨none, .store 52 (.tmp 4) (.tmp 21), none⟩,
    ⟨some 5, .assign (.const (.bool false)), none⟩] [])
  .ret) .skip))
  (.seq (.reg [⟨some 22, .move (.tmp 0), none⟩,
    ⟨some 23, .nilCheck (.tmp 22), none⟩,
    ⟨some 24, .fieldAddr 118 (.tmp 23) 0, none⟩,
    ⟨some 25, .load 22 (.tmp 24), none⟩,
    ⟨some 26, .move (.tmp 1), none⟩,
    ⟨some 27, .indexAddr 22 (.tmp 25) (.tmp 26), none⟩,
    ⟨some 28, .load 52 (.tmp 27), none⟩,
    ⟨none, .store 52 (.tmp 4) (.tmp 28), none⟩,
    ⟨some 5, .assign (.const (.bool true)), none⟩] [])
  .ret)))
theorem S49_eq : slimF Try.prog 49 = some (29, [.cell 4 52, .tmp 5], S49) := by kernel_rfl

def S50L1 : SC :=
  (.seq (.reg [⟨some 21, .binOp .lss 3 (.tmp 20) (.tmp 19) 3, none⟩] [])
  (.seq (.cond (.tmp 21) .skip (.exit 0))
  (.seq (.block 1 (.seq (.reg [⟨some 22, .move (.tmp 20), none⟩,
    ⟨some 23, .indexAddr 22 (.tmp 18) (.tmp 20), none⟩,
    ⟨some 24, .load 52 (.tmp 23), none⟩,
    ⟨some 9, .alloc 52, none⟩,
    ⟨some 8, .assign (.tmp 22), none⟩,
    ⟨none, .store 52 (.tmp 9) (.tmp 24), none⟩] [])
  (.reg [⟨some 25, .move (.tmp 7), none⟩,
    ⟨some 26, .move (.tmp 8), none⟩,
    ⟨some 27, .load 52 (.tmp 9), none⟩,
    ⟨some 28, .move (.tmp 7), none⟩,
    ⟨some 29, .call { callee := .value (.func 75), args := #[.tmp 27, .tmp 28, .tmp 3], argTypes := #[52, 69, 127] }, none⟩,
    ⟨some 30, .indexAddr 69 (.tmp 25) (.tmp 26), none⟩,
    ⟨none, .store 25 (.tmp 30) (.tmp 29), none⟩] [])))
  (.reg [⟨some 31, .binOp .add 3 (.tmp 20) (.const (.int .i64 1)) 3, none⟩,
    ⟨some 20, .move (.tmp 31), none⟩] []))))
/-- tamis/term.Values -/
def S50 : SC :=
  (.seq (.reg [⟨some 3, .box 27 (.tmp 1), none⟩,
    ⟨some 4, .assign (.const (.slice none 0 0)), none⟩,
    ⟨some 5, .assign (.const (.int .i64 0)), none⟩] [])
  (.seq (.seq (.reg [⟨some 10, .move (.tmp 0), none⟩,
    ⟨some 11, .call { callee := .value (.func 74), args := #[.tmp 10, .const (.slice none 0 0)], argTypes := #[22, 37] }, none⟩,
    ⟨some 6, .assign (.tmp 11), none⟩] [])
  (.seq (.reg [⟨some 12, .move (.tmp 6), none⟩,
    ⟨some 13, .binOp .neq 30 (.tmp 12) (.const (.int .i64 0)) 30, none⟩] [])
  (.cond (.tmp 13) (.seq (.reg [⟨some 14, .move (.tmp 6), none⟩,
    ⟨some 4, .assign (.const (.slice none 0 0)), none⟩,
    ⟨some 5, .assign (.tmp 14), none⟩] [])
  .ret) .skip)))
  (.seq (.reg [⟨some 15, .move (.tmp 0), none⟩,
    ⟨some 16, .call { callee := .builtin .len, args := #[.tmp 15], argTypes := #[22] }, none⟩,
    ⟨some 17, .makeSlice 69 (.tmp 16) (.tmp 16), none⟩,
    ⟨some 7, .assign (.tmp 17), none⟩] [])
  (.seq (.seq (.reg [⟨some 18, .move (.tmp 0), none⟩,
    ⟨some 19, .call { callee := .builtin .len, args := #[.tmp 18], argTypes := #[22] }, none⟩,
    ⟨some 20, .move (.const (.int .i64 0)), none⟩] [])
  (.block 0 (.loop S50L1)))
  (.seq (.reg [⟨some 32, .move (.tmp 7), none⟩,
    ⟨some 4, .assign (.tmp 32), none⟩,
    ⟨some 5, .assign (.const (.int .i64 0)), none⟩] [])
  .ret)))))
theorem S50_eq : slimF Try.prog 50 = some (33, [.tmp 4, .tmp 5], S50) := by kernel_rfl

/-- tamis/word.Ask -/
def S51 : SC :=
  (.seq (.reg [⟨some 6, .assign (.const (.bool false)), none⟩] [])
  (.seq (.seq (.reg [⟨some 7, .move (.tmp 0), none⟩] [])
  (.block 0 (.seq (.reg [⟨some 9, .binOp .eql 3 (.tmp 7) (.const (.int .i64 16)) 3, none⟩,
    ⟨some 8, .assign (.tmp 9), none⟩] [])
  (.cond (.tmp 8) (.seq (.reg [⟨some 10, .move (.tmp 1), none⟩,
    ⟨some 11, .move (.tmp 2), none⟩,
    ⟨some 12, .binOp .eql 25 (.tmp 10) (.tmp 11) 25, none⟩,
    ⟨some 6, .assign (.tmp 12), none⟩] [])
  .ret) (.seq (.reg [⟨some 14, .binOp .eql 3 (.tmp 7) (.const (.int .i64 32)) 3, none⟩,
    ⟨some 13, .assign (.tmp 14), none⟩] [])
  (.cond (.tmp 13) (.seq (.reg [⟨some 15, .move (.tmp 1), none⟩,
    ⟨some 16, .move (.tmp 2), none⟩,
    ⟨some 17, .binOp .gtr 25 (.tmp 15) (.tmp 16) 25, none⟩,
    ⟨some 6, .assign (.tmp 17), none⟩] [])
  .ret) (.seq (.reg [⟨some 19, .binOp .eql 3 (.tmp 7) (.const (.int .i64 48)) 3, none⟩,
    ⟨some 18, .assign (.tmp 19), none⟩] [])
  (.cond (.tmp 18) (.seq (.reg [⟨some 20, .move (.tmp 1), none⟩,
    ⟨some 21, .move (.tmp 2), none⟩,
    ⟨some 22, .binOp .geq 25 (.tmp 20) (.tmp 21) 25, none⟩,
    ⟨some 6, .assign (.tmp 22), none⟩] [])
  .ret) (.seq (.reg [⟨some 24, .binOp .eql 3 (.tmp 7) (.const (.int .i64 64)) 3, none⟩,
    ⟨some 23, .assign (.tmp 24), none⟩] [])
  (.cond (.tmp 23) (.seq (.reg [⟨some 25, .move (.tmp 1), none⟩,
    ⟨some 26, .move (.tmp 2), none⟩,
    ⟨some 27, .binOp .and 25 (.tmp 25) (.tmp 26) 25, none⟩,
    ⟨some 28, .binOp .neq 25 (.tmp 27) (.const (.int .u32 0)) 25, none⟩,
    ⟨some 6, .assign (.tmp 28), none⟩] [])
  .ret) .skip))))))))))
  (.seq (.reg [⟨some 6, .assign (.const (.bool false)), none⟩] [])
  .ret)))
theorem S51_eq : slimF Try.prog 51 = some (29, [.tmp 6], S51) := by kernel_rfl

def S52L1 : SC :=
  (.seq (.reg [⟨some 12, .binOp .lss 3 (.tmp 11) (.tmp 10) 3, none⟩] [])
  (.seq (.cond (.tmp 12) .skip (.exit 0))
  (.seq (.block 1 (.seq (.reg [⟨some 13, .move (.tmp 11), none⟩,
    ⟨some 14, .indexAddr 22 (.tmp 9) (.tmp 11), none⟩,
    ⟨some 15, .load 52 (.tmp 14), none⟩,
    ⟨some 5, .alloc 52, none⟩,
    ⟨some 4, .assign (.tmp 13), none⟩,
    ⟨none, .store 52 (.tmp 5) (.tmp 15), none⟩] [])
  (.seq (.reg [⟨some 16, .load 52 (.tmp 5), none⟩,
    ⟨some 17, .move (.tmp 4), none⟩,
    ⟨some 18, .call { callee := .value (.func 76), args := #[.tmp 16, .tmp 17], argTypes := #[52, 3] }, none⟩,
    ⟨some 19, .unOp .not 4 (.tmp 18), none⟩] [])
  (.cond (.tmp 19) (.seq (.reg [⟨some 20, .move (.tmp 4), none⟩,
    ⟨some 2, .assign (.tmp 20), none⟩,
    ⟨some 3, .assign (.const (.int .i64 3)), none⟩] [])
  .ret) .skip))))
  (.reg [⟨some 21, .binOp .add 3 (.tmp 11) (.const (.int .i64 1)) 3, none⟩,
    ⟨some 11, .move (.tmp 21), none⟩] []))))
/-- tamis/term.Check -/
def S52 : SC :=
  (.seq (.reg [⟨some 2, .assign (.const (.int .i64 0)), none⟩,
    ⟨some 3, .assign (.const (.int .i64 0)), none⟩] [])
  (.seq (.seq (.reg [⟨some 6, .move (.tmp 0), none⟩,
    ⟨some 7, .call { callee := .builtin .len, args := #[.tmp 6], argTypes := #[22] }, none⟩,
    ⟨some 8, .binOp .gtr 3 (.tmp 7) (.const (.int .i64 65536)) 3, none⟩] [])
  (.cond (.tmp 8) (.seq (.reg [⟨some 2, .assign (.const (.int .i64 0)), none⟩,
    ⟨some 3, .assign (.const (.int .i64 5)), none⟩] [])
  .ret) .skip))
  (.seq (.seq (.reg [⟨some 9, .move (.tmp 0), none⟩,
    ⟨some 10, .call { callee := .builtin .len, args := #[.tmp 9], argTypes := #[22] }, none⟩,
    ⟨some 11, .move (.const (.int .i64 0)), none⟩] [])
  (.block 0 (.loop S52L1)))
  (.seq (.reg [⟨some 2, .assign (.const (.int .i64 0)), none⟩,
    ⟨some 3, .assign (.const (.int .i64 0)), none⟩] [])
  .ret))))
theorem S52_eq : slimF Try.prog 52 = some (22, [.tmp 2, .tmp 3], S52) := by kernel_rfl

/-- tamis/atom.known -/
def S53 : SC :=
  (.seq (.reg [⟨some 2, .assign (.const (.bool false)), none⟩] [])
  (.seq (.reg [⟨some 3, .move (.tmp 0), none⟩,
    ⟨some 4, .binOp .eql 3 (.tmp 3) (.const (.int .i64 16)) 3, none⟩,
    ⟨some 5, .move (.tmp 4), none⟩,
    ⟨some 6, .move (.tmp 0), some (5, false)⟩,
    ⟨some 7, .binOp .eql 3 (.tmp 6) (.const (.int .i64 32)) 3, some (5, false)⟩,
    ⟨some 8, .pick (.tmp 5) (.const (.bool true)) (.tmp 7), none⟩,
    ⟨some 9, .move (.tmp 8), none⟩,
    ⟨some 10, .move (.tmp 0), some (9, false)⟩,
    ⟨some 11, .binOp .eql 3 (.tmp 10) (.const (.int .i64 48)) 3, some (9, false)⟩,
    ⟨some 12, .pick (.tmp 9) (.const (.bool true)) (.tmp 11), none⟩,
    ⟨some 13, .move (.tmp 12), none⟩,
    ⟨some 14, .move (.tmp 0), some (13, false)⟩,
    ⟨some 15, .binOp .eql 3 (.tmp 14) (.const (.int .i64 64)) 3, some (13, false)⟩,
    ⟨some 16, .pick (.tmp 13) (.const (.bool true)) (.tmp 15), none⟩,
    ⟨some 2, .assign (.tmp 16), none⟩] [])
  .ret))
theorem S53_eq : slimF Try.prog 53 = some (17, [.tmp 2], S53) := by kernel_rfl

/-- tamis/tamisref01.Ask -/
def S54 : SC :=
  (.seq (.reg [⟨some 6, .assign (.const (.bool false)), none⟩] [])
  (.seq (.seq (.reg [⟨some 7, .move (.tmp 0), none⟩] [])
  (.block 0 (.seq (.reg [⟨some 9, .binOp .eql 3 (.tmp 7) (.const (.int .i64 16)) 3, none⟩,
    ⟨some 8, .assign (.tmp 9), none⟩] [])
  (.cond (.tmp 8) (.seq (.reg [⟨some 10, .move (.tmp 1), none⟩,
    ⟨some 11, .move (.tmp 2), none⟩,
    ⟨some 12, .binOp .eql 25 (.tmp 10) (.tmp 11) 25, none⟩,
    ⟨some 6, .assign (.tmp 12), none⟩] [])
  .ret) (.seq (.reg [⟨some 14, .binOp .eql 3 (.tmp 7) (.const (.int .i64 32)) 3, none⟩,
    ⟨some 13, .assign (.tmp 14), none⟩] [])
  (.cond (.tmp 13) (.seq (.reg [⟨some 15, .move (.tmp 1), none⟩,
    ⟨some 16, .move (.tmp 2), none⟩,
    ⟨some 17, .binOp .gtr 25 (.tmp 15) (.tmp 16) 25, none⟩,
    ⟨some 6, .assign (.tmp 17), none⟩] [])
  .ret) (.seq (.reg [⟨some 19, .binOp .eql 3 (.tmp 7) (.const (.int .i64 48)) 3, none⟩,
    ⟨some 18, .assign (.tmp 19), none⟩] [])
  (.cond (.tmp 18) (.seq (.reg [⟨some 20, .move (.tmp 1), none⟩,
    ⟨some 21, .move (.tmp 2), none⟩,
    ⟨some 22, .binOp .geq 25 (.tmp 20) (.tmp 21) 25, none⟩,
    ⟨some 6, .assign (.tmp 22), none⟩] [])
  .ret) (.seq (.reg [⟨some 24, .binOp .eql 3 (.tmp 7) (.const (.int .i64 64)) 3, none⟩,
    ⟨some 23, .assign (.tmp 24), none⟩] [])
  (.cond (.tmp 23) (.seq (.reg [⟨some 25, .move (.tmp 1), none⟩,
    ⟨some 26, .move (.tmp 2), none⟩,
    ⟨some 27, .call { callee := .value (.func 62), args := #[.tmp 25, .tmp 26, .const (.int .i64 0), .const (.int .i64 0), .const (.int .i64 1)], argTypes := #[25, 25, 3, 3, 3] }, none⟩,
    ⟨some 28, .binOp .gtr 25 (.tmp 27) (.const (.int .u32 0)) 25, none⟩,
    ⟨some 6, .assign (.tmp 28), none⟩] [])
  .ret) .skip))))))))))
  (.seq (.reg [⟨some 6, .assign (.const (.bool false)), none⟩] [])
  .ret)))
theorem S54_eq : slimF Try.prog 54 = some (29, [.tmp 6], S54) := by kernel_rfl

def S55L1 : SC :=
  (.seq (.seq (.reg [⟨some 8, .move (.tmp 4), none⟩,
    ⟨some 9, .move (.tmp 0), none⟩,
    ⟨some 10, .call { callee := .builtin .len, args := #[.tmp 9], argTypes := #[22] }, none⟩,
    ⟨some 11, .binOp .lss 3 (.tmp 8) (.tmp 10) 3, none⟩] [])
  (.cond (.tmp 11) .skip (.exit 0)))
  (.seq (.block 1 (.seq (.reg [⟨some 14, .move (.tmp 0), none⟩,
    ⟨some 15, .move (.tmp 4), none⟩,
    ⟨some 16, .indexAddr 22 (.tmp 14) (.tmp 15), none⟩,
    ⟨some 17, .load 52 (.tmp 16), none⟩,
    ⟨some 18, .move (.tmp 4), none⟩,
    ⟨some 19, .call { callee := .value (.func 77), args := #[.tmp 17, .tmp 18], argTypes := #[52, 3] }, none⟩,
    ⟨some 20, .unOp .not 4 (.tmp 19), none⟩] [])
  (.cond (.tmp 20) (.seq (.reg [⟨some 21, .move (.tmp 4), none⟩,
    ⟨some 2, .assign (.tmp 21), none⟩,
    ⟨some 3, .assign (.const (.int .i64 3)), none⟩] [])
  .ret) .skip)))
  (.reg [⟨some 12, .move (.tmp 4), none⟩,
    ⟨some 13, .binOp .add 3 (.tmp 12) (.const (.int .i64 1)) 3, none⟩,
    ⟨some 4, .assign (.tmp 13), none⟩] [])))
/-- tamis/tamisref11.Check -/
def S55 : SC :=
  (.seq (.reg [⟨some 2, .assign (.const (.int .i64 0)), none⟩,
    ⟨some 3, .assign (.const (.int .i64 0)), none⟩] [])
  (.seq (.seq (.reg [⟨some 5, .move (.tmp 0), none⟩,
    ⟨some 6, .call { callee := .builtin .len, args := #[.tmp 5], argTypes := #[22] }, none⟩,
    ⟨some 7, .binOp .gtr 3 (.tmp 6) (.const (.int .i64 65536)) 3, none⟩] [])
  (.cond (.tmp 7) (.seq (.reg [⟨some 2, .assign (.const (.int .i64 0)), none⟩,
    ⟨some 3, .assign (.const (.int .i64 5)), none⟩] [])
  .ret) .skip))
  (.seq (.seq (.reg [⟨some 4, .assign (.const (.int .i64 0)), none⟩] [])
  (.block 0 (.loop S55L1)))
  (.seq (.reg [⟨some 2, .assign (.const (.int .i64 0)), none⟩,
    ⟨some 3, .assign (.const (.int .i64 0)), none⟩] [])
  .ret))))
theorem S55_eq : slimF Try.prog 55 = some (22, [.tmp 2, .tmp 3], S55) := by kernel_rfl

def S56L1 : SC :=
  (.seq (.seq (.reg [⟨some 7, .move (.tmp 6), none⟩,
    ⟨some 8, .move (.tmp 0), none⟩,
    ⟨some 9, .call { callee := .builtin .len, args := #[.tmp 8], argTypes := #[22] }, none⟩,
    ⟨some 10, .binOp .lss 3 (.tmp 7) (.tmp 9) 3, none⟩] [])
  (.cond (.tmp 10) .skip (.exit 0)))
  (.seq (.block 1 (.seq (.reg [⟨some 13, .move (.tmp 0), none⟩,
    ⟨some 14, .move (.tmp 6), none⟩,
    ⟨some 15, .indexAddr 22 (.tmp 13) (.tmp 14), none⟩,
    ⟨some 16, .load 52 (.tmp 15), none⟩,
    ⟨some 17, .load 52 (.tmp 3), none⟩,
    ⟨some 18, .binOp .eql 52 (.tmp 16) (.tmp 17) 52, none⟩] [])
  (.cond (.tmp 18) (.seq (.reg [⟨some 19, .move (.tmp 0), none⟩,
    ⟨some 20, .move (.tmp 6), none⟩,
    ⟨some 4, .assign (.tmp 19), none⟩,
    ⟨some 5, .assign (.tmp 20), none⟩] [])
  .ret) .skip)))
  (.reg [⟨some 11, .move (.tmp 6), none⟩,
    ⟨some 12, .binOp .add 3 (.tmp 11) (.const (.int .i64 1)) 3, none⟩,
    ⟨some 6, .assign (.tmp 12), none⟩] [])))
/-- tamis/tamisref11.Put -/
def S56 : SC :=
  (.seq (.reg [⟨some 3, .box 52 (.tmp 1), none⟩,
    ⟨some 4, .assign (.const (.slice none 0 0)), none⟩,
    ⟨some 5, .assign (.const (.int .i64 0)), none⟩] [])
  (.seq (.seq (.reg [⟨some 6, .assign (.const (.int .i64 0)), none⟩] [])
  (.block 0 (.loop S56L1)))
  (.seq (.reg [⟨some 21, .move (.tmp 0), none⟩,
    ⟨some 22, .load 52 (.tmp 3), none⟩,
    ⟨some 23, .buildSlice 22 1 #[(0, .tmp 22)], none⟩,
    ⟨some 24, .call { callee := .builtin .append, args := #[.tmp 21, .tmp 23], argTypes := #[22, 22] }, none⟩,
    ⟨some 25, .move (.tmp 0), none⟩,
    ⟨some 26, .call { callee := .builtin .len, args := #[.tmp 25], argTypes := #[22] }, none⟩,
    ⟨some 4, .assign (.tmp 24), none⟩,
    ⟨some 5, .assign (.tmp 26), none⟩] [])
  .ret)))
theorem S56_eq : slimF Try.prog 56 = some (27, [.tmp 4, .tmp 5], S56) := by kernel_rfl

/-- (*tamis/term.Pool).Put -/
def S57 : SC :=
  (.seq (.reg [⟨some 3, .box 52 (.tmp 1), none⟩,
    ⟨some 4, .assign (.const (.int .i64 0)), none⟩,
    ⟨some 5, .assign (.const (.int .i64 0)), none⟩] [])
  (.seq (.seq (.reg [⟨some 8, .move (.tmp 0), none⟩,
    ⟨some 9, .binOp .eql 40 (.tmp 8) (.const (.pointer none)) 40, none⟩] [])
  (.cond (.tmp 9) (.seq (.reg [⟨some 4, .assign (.const (.int .i64 0)), none⟩,
    ⟨some 5, .assign (.const (.int .i64 16)), none⟩] [])
  .ret) .skip))
  (.seq (.seq (.reg [⟨some 10, .load 52 (.tmp 3), none⟩,
    ⟨some 11, .move (.tmp 0), none⟩,
    ⟨some 12, .nilCheck (.tmp 11), none⟩,
    ⟨some 13, .fieldAddr 118 (.tmp 12) 0, none⟩,
    ⟨some 14, .load 22 (.tmp 13), none⟩,
    ⟨some 15, .call { callee := .builtin .len, args := #[.tmp 14], argTypes := #[22] }, none⟩,
    ⟨some 16, .call { callee := .value (.func 76), args := #[.tmp 10, .tmp 15], argTypes := #[52, 3] }, none⟩,
    ⟨some 17, .unOp .not 4 (.tmp 16), none⟩] [])
  (.cond (.tmp 17) (.seq (.reg [⟨some 4, .assign (.const (.int .i64 0)), none⟩,
    ⟨some 5, .assign (.const (.int .i64 3)), none⟩] [])
  .ret) .skip))
  (.seq (.seq (.reg [⟨some 18, .move (.tmp 0), none⟩,
    ⟨some 19, .nilCheck (.tmp 18), none⟩,
    ⟨some 20, .fieldAddr 118 (.tmp 19) 1, none⟩,
    ⟨some 21, .load 116 (.tmp 20), none⟩,
    ⟨some 22, .binOp .eql 116 (.tmp 21) (.const (.map none)) 116, none⟩] [])
  (.cond (.tmp 22) (.reg [⟨some 23, .move (.tmp 0), none⟩,
    ⟨some 24, .makeMap 116 none, none⟩,
    ⟨some 25, .nilCheck (.tmp 23), none⟩,
    ⟨some 26, .fieldAddr 118 (.tmp 25) 1, none⟩,
    ⟨none, .store 116 (.tmp 26) (.tmp 24), none⟩] []) .skip))
  (.seq (.seq (.reg [⟨some 28, .move (.tmp 0), none⟩,
    ⟨some 29, .nilCheck (.tmp 28), none⟩,
    ⟨some 30, .fieldAddr 118 (.tmp 29) 1, none⟩,
    ⟨some 31, .load 116 (.tmp 30), none⟩,
    ⟨some 32, .load 52 (.tmp 3), none⟩,
    ⟨some 33, .lookup 116 (.tmp 31) (.tmp 32) true, none⟩,
    ⟨some 27, .move (.tmp 33), none⟩,
    ⟨some 34, .extract (.tmp 27) 0, none⟩,
    ⟨some 35, .extract (.tmp 27) 1, none⟩,
    ⟨some 6, .assign (.tmp 34), none⟩,
    ⟨some 7, .assign (.tmp 35), none⟩] [])
  (.seq (.reg [⟨some 36, .move (.tmp 7), none⟩] [])
  (.cond (.tmp 36) (.seq (.reg [⟨some 37, .move (.tmp 6), none⟩,
    ⟨some 4, .assign (.tmp 37), none⟩,
    ⟨some 5, .assign (.const (.int .i64 0)), none⟩] [])
  .ret) .skip)))
  (.seq (.seq (.reg [⟨some 38, .move (.tmp 0), none⟩,
    ⟨some 39, .nilCheck (.tmp 38), none⟩,
    ⟨some 40, .fieldAddr 118 (.tmp 39) 0, none⟩,
    ⟨some 41, .load 22 (.tmp 40), none⟩,
    ⟨some 42, .call { callee := .builtin .len, args := #[.tmp 41], argTypes := #[22] }, none⟩,
    ⟨some 43, .binOp .geq 3 (.tmp 42) (.const (.int .i64 65536)) 3, none⟩] [])
  (.cond (.tmp 43) (.seq (.reg [⟨some 4, .assign (.const (.int .i64 0)), none⟩,
    ⟨some 5, .assign (.const (.int .i64 5)), none⟩] [])
  .ret) .skip))
  (.seq (.reg [⟨some 44, .move (.tmp 0), none⟩,
    ⟨some 45, .load 52 (.tmp 3), none⟩,
    ⟨some 46, .call { callee := .value (.func 78), args := #[.tmp 44, .tmp 45], argTypes := #[40, 52] }, none⟩,
    ⟨some 4, .assign (.tmp 46), none⟩,
    ⟨some 5, .assign (.const (.int .i64 0)), none⟩] [])
  .ret)))))))
theorem S57_eq : slimF Try.prog 57 = some (47, [.tmp 4, .tmp 5], S57) := by kernel_rfl

/-- (*tamis/atom.maker).next -/
def S58 : SC :=
  (.seq (.reg [⟨some 3, .box 101 (.tmp 1), none⟩,
    ⟨some 4, .alloc 101, none⟩,
    ⟨some 5, .assign (.const (.int .i64 0)), none⟩] [])
  (.seq (.reg [⟨some 11, .move (.tmp 0), none⟩,
    ⟨some 12, .fieldAddr 101 (.tmp 3) 1, none⟩,
    ⟨some 13, .load 3 (.tmp 12), none⟩,
    ⟨some 14, .call { callee := .value (.func 79), args := #[.tmp 11, .tmp 13], argTypes := #[97, 3] }, none⟩,
    ⟨some 10, .move (.tmp 14), none⟩,
    ⟨some 15, .extract (.tmp 10) 0, none⟩,
    ⟨some 16, .extract (.tmp 10) 1, none⟩,
    ⟨some 6, .assign (.tmp 15), none⟩,
    ⟨some 7, .assign (.tmp 16), none⟩] [])
  (.seq (.reg [⟨some 18, .move (.tmp 0), none⟩,
    ⟨some 19, .fieldAddr 101 (.tmp 3) 2, none⟩,
    ⟨some 20, .load 3 (.tmp 19), none⟩,
    ⟨some 21, .call { callee := .value (.func 79), args := #[.tmp 18, .tmp 20], argTypes := #[97, 3] }, none⟩,
    ⟨some 17, .move (.tmp 21), none⟩,
    ⟨some 22, .extract (.tmp 17) 0, none⟩,
    ⟨some 23, .extract (.tmp 17) 1, none⟩,
    ⟨some 8, .assign (.tmp 22), none⟩,
    ⟨some 9, .assign (.tmp 23), none⟩] [])
  (.seq (.block 0 (.seq (.reg [⟨some 25, .move (.tmp 7), none⟩,
    ⟨some 26, .move (.tmp 25), none⟩,
    ⟨some 27, .move (.tmp 9), some (26, true)⟩,
    ⟨some 28, .pick (.tmp 26) (.tmp 27) (.const (.bool false)), none⟩,
    ⟨some 24, .assign (.tmp 28), none⟩] [])
  (.cond (.tmp 24) (.seq (.reg [⟨some 29, .load 101 (.tmp 3), none⟩,
    ⟨some 30, .fieldAddr 101 (.tmp 3) 0, none⟩,
    ⟨some 31, .load 3 (.tmp 30), none⟩,
    ⟨some 32, .move (.tmp 6), none⟩,
    ⟨some 33, .move (.tmp 8), none⟩,
    ⟨some 34, .call { callee := .value (.func 51), args := #[.tmp 31, .tmp 32, .tmp 33], argTypes := #[3, 25, 25] }, none⟩,
    ⟨some 35, .fieldAddr 101 (.tmp 3) 3, none⟩,
    ⟨some 36, .load 4 (.tmp 35), none⟩,
    ⟨some 37, .call { callee := .value (.func 80), args := #[.tmp 34, .tmp 36], argTypes := #[4, 4] }, none⟩,
    ⟨none, .store 101 (.tmp 4) (.tmp 29), none⟩,
    ⟨some 5, .assign (.tmp 37), none⟩] [(0, 5), (0, 8), (7, 5)])
  .ret) (.seq (.reg [⟨some 39, .move (.tmp 7), none⟩,
    ⟨some 38, .assign (.tmp 39), none⟩] [])
  (.cond (.tmp 38) (.seq (.reg [⟨some 40, .load 101 (.tmp 3), none⟩,
    ⟨some 41, .call { callee := .value (.func 81), args := #[.tmp 40], argTypes := #[101] }, none⟩,
    ⟨none, .store 101 (.tmp 4) (.tmp 41), none⟩,
    ⟨some 5, .assign (.const (.int .i64 0)), none⟩] [])
  .ret) (.seq (.reg [⟨some 43, .move (.tmp 9), none⟩,
    ⟨some 42, .assign (.tmp 43), none⟩] [])
  (.cond (.tmp 42) (.seq (.reg [⟨some 44, .move (.tmp 0), none⟩,
    ⟨some 45, .load 101 (.tmp 3), none⟩,
    ⟨some 46, .move (.tmp 8), none⟩,
    ⟨some 47, .call { callee := .value (.func 82), args := #[.tmp 44, .tmp 45, .tmp 46], argTypes := #[97, 101, 25] }, none⟩,
    ⟨some 48, .extract (.tmp 47) 0, none⟩,
    ⟨some 49, .extract (.tmp 47) 1, none⟩,
    ⟨none, .store 101 (.tmp 4) (.tmp 48), none⟩,
    ⟨some 5, .assign (.tmp 49), none⟩] [])
  .ret) (.seq (.reg [⟨some 51, .fieldAddr 101 (.tmp 3) 1, none⟩,
    ⟨some 52, .load 3 (.tmp 51), none⟩,
    ⟨some 53, .fieldAddr 101 (.tmp 3) 2, none⟩,
    ⟨some 54, .load 3 (.tmp 53), none⟩,
    ⟨some 55, .binOp .eql 3 (.tmp 52) (.tmp 54) 3, none⟩,
    ⟨some 56, .move (.tmp 55), none⟩,
    ⟨some 57, .fieldAddr 101 (.tmp 3) 0, some (56, true)⟩,
    ⟨some 58, .load 3 (.tmp 57), some (56, true)⟩,
    ⟨some 59, .binOp .eql 3 (.tmp 58) (.const (.int .i64 64)) 3, some (56, true)⟩,
    ⟨some 60, .pick (.tmp 56) (.tmp 59) (.const (.bool false)), none⟩,
    ⟨some 50, .assign (.tmp 60), none⟩] [])
  (.cond (.tmp 50) (.seq (.reg [⟨some 61, .move (.tmp 0), none⟩,
    ⟨some 62, .load 101 (.tmp 3), none⟩,
    ⟨some 63, .call { callee := .value (.func 83), args := #[.tmp 61, .tmp 62], argTypes := #[97, 101] }, none⟩,
    ⟨none, .store 101 (.tmp 4) (.tmp 63), none⟩,
    ⟨some 5, .assign (.const (.int .i64 0)), none⟩] [])
  .ret) (.seq (.reg [⟨some 65, .fieldAddr 101 (.tmp 3) 1, none⟩,
    ⟨some 66, .load 3 (.tmp 65), none⟩,
    ⟨some 67, .fieldAddr 101 (.tmp 3) 2, none⟩,
    ⟨some 68, .load 3 (.tmp 67), none⟩,
    ⟨some 69, .binOp .eql 3 (.tmp 66) (.tmp 68) 3, none⟩,
    ⟨some 64, .assign (.tmp 69), none⟩] [])
  (.cond (.tmp 64) (.seq (.reg [⟨some 70, .load 101 (.tmp 3), none⟩,
    ⟨some 71, .fieldAddr 101 (.tmp 3) 0, none⟩,
    ⟨some 72, .load 3 (.tmp 71), none⟩,
    ⟨some 73, .binOp .neq 3 (.tmp 72) (.const (.int .i64 32)) 3, none⟩,
    ⟨some 74, .fieldAddr 101 (.tmp 3) 3, none⟩,
    ⟨some 75, .load 4 (.tmp 74), none⟩,
    ⟨some 76, .call { callee := .value (.func 80), args := #[.tmp 73, .tmp 75], argTypes := #[4, 4] }, none⟩,
    ⟨none, .store 101 (.tmp 4) (.tmp 70), none⟩,
    ⟨some 5, .assign (.tmp 76), none⟩] [(0, 6)])
  .ret) .skip)))))))))))
  (.seq (.reg [⟨some 77, .load 101 (.tmp 3), none⟩,
    ⟨none, .store 101 (.tmp 4) (.tmp 77), none⟩,
    ⟨some 5, .assign (.const (.int .i64 1)), none⟩] [])
  .ret)))))
theorem S58_eq : slimF Try.prog 58 = some (78, [.cell 4 101, .tmp 5], S58) := by kernel_rfl

/-- tamis/tamisref13.known -/
def S59 : SC :=
  (.seq (.reg [⟨some 4, .assign (.const (.int .i64 0)), none⟩] [])
  (.seq (.seq (.reg [⟨some 5, .move (.tmp 0), none⟩,
    ⟨some 6, .move (.tmp 1), none⟩,
    ⟨some 7, .binOp .neq 4 (.tmp 5) (.tmp 6) 4, none⟩] [])
  (.cond (.tmp 7) (.seq (.reg [⟨some 4, .assign (.const (.int .i64 2)), none⟩] [])
  .ret) .skip))
  (.seq (.reg [⟨some 4, .assign (.const (.int .i64 3)), none⟩] [])
  .ret)))
theorem S59_eq : slimF Try.prog 59 = some (8, [.tmp 4], S59) := by kernel_rfl

/-- tamis/tamisref13.number -/
def S60 : SC :=
  (.seq (.reg [⟨some 10, .assign (.const (.slice none 0 0)), none⟩,
    ⟨some 11, .alloc 24, none⟩,
    ⟨some 12, .assign (.const (.int .i64 0)), none⟩] [])
  (.seq (.reg [⟨some 13, .assign (.const (.int .u32 4294967295)), none⟩] [])
  (.seq (.seq (.reg [⟨some 26, .move (.tmp 1), none⟩,
    ⟨some 27, .binOp .eql 3 (.tmp 26) (.const (.int .i64 32)) 3, none⟩,
    ⟨some 28, .move (.tmp 27), none⟩,
    ⟨some 29, .move (.tmp 3), some (28, true)⟩,
    ⟨some 30, .move (.tmp 13), some (28, true)⟩,
    ⟨some 31, .binOp .eql 25 (.tmp 29) (.tmp 30) 25, some (28, true)⟩,
    ⟨some 32, .pick (.tmp 28) (.tmp 31) (.const (.bool false)), none⟩,
    ⟨some 33, .move (.tmp 32), none⟩,
    ⟨some 34, .move (.tmp 1), some (33, false)⟩,
    ⟨some 35, .binOp .eql 3 (.tmp 34) (.const (.int .i64 64)) 3, some (33, false)⟩,
    ⟨some 36, .move (.tmp 35), some (33, false)⟩,
    ⟨some 37, .move (.tmp 3), some (36, true)⟩,
    ⟨some 38, .binOp .eql 25 (.tmp 37) (.const (.int .u32 0)) 25, some (36, true)⟩,
    ⟨some 39, .pick (.tmp 36) (.tmp 38) (.const (.bool false)), some (33, false)⟩,
    ⟨some 40, .pick (.tmp 33) (.const (.bool true)) (.tmp 39), none⟩] [])
  (.cond (.tmp 40) (.seq (.reg [⟨some 41, .move (.tmp 0), none⟩,
    ⟨some 42, .build 24 #[], none⟩,
    ⟨some 43, .move (.tmp 4), none⟩,
    ⟨some 44, .call { callee := .value (.func 59), args := #[.const (.bool false), .tmp 43], argTypes := #[4, 4] }, none⟩,
    ⟨some 10, .assign (.tmp 41), none⟩,
    ⟨none, .store 24 (.tmp 11) (.tmp 42), none⟩,
    ⟨some 12, .assign (.tmp 44), none⟩] [])
  .ret) .skip))
  (.seq (.seq (.reg [⟨some 45, .move (.tmp 1), none⟩,
    ⟨some 46, .binOp .eql 3 (.tmp 45) (.const (.int .i64 48)) 3, none⟩,
    ⟨some 47, .move (.tmp 46), none⟩,
    ⟨some 48, .move (.tmp 3), some (47, true)⟩,
    ⟨some 49, .binOp .eql 25 (.tmp 48) (.const (.int .u32 0)) 25, some (47, true)⟩,
    ⟨some 50, .pick (.tmp 47) (.tmp 49) (.const (.bool false)), none⟩] [])
  (.cond (.tmp 50) (.seq (.reg [⟨some 51, .move (.tmp 0), none⟩,
    ⟨some 52, .build 24 #[], none⟩,
    ⟨some 53, .move (.tmp 4), none⟩,
    ⟨some 54, .call { callee := .value (.func 59), args := #[.const (.bool true), .tmp 53], argTypes := #[4, 4] }, none⟩,
    ⟨some 10, .assign (.tmp 51), none⟩,
    ⟨none, .store 24 (.tmp 11) (.tmp 52), none⟩,
    ⟨some 12, .assign (.tmp 54), none⟩] [])
  .ret) .skip))
  (.seq (.seq (.reg [⟨some 55, .move (.tmp 1), none⟩,
    ⟨some 56, .binOp .eql 3 (.tmp 55) (.const (.int .i64 32)) 3, none⟩,
    ⟨some 57, .move (.tmp 56), none⟩,
    ⟨some 58, .move (.tmp 3), some (57, true)⟩,
    ⟨some 59, .binOp .eql 25 (.tmp 58) (.const (.int .u32 0)) 25, some (57, true)⟩,
    ⟨some 60, .pick (.tmp 57) (.tmp 59) (.const (.bool false)), none⟩,
    ⟨some 61, .move (.tmp 60), none⟩,
    ⟨some 62, .move (.tmp 1), some (61, false)⟩,
    ⟨some 63, .binOp .eql 3 (.tmp 62) (.const (.int .i64 64)) 3, some (61, false)⟩,
    ⟨some 64, .move (.tmp 63), some (61, false)⟩,
    ⟨some 65, .move (.tmp 3), some (64, true)⟩,
    ⟨some 66, .move (.tmp 13), some (64, true)⟩,
    ⟨some 67, .binOp .eql 25 (.tmp 65) (.tmp 66) 25, some (64, true)⟩,
    ⟨some 68, .pick (.tmp 64) (.tmp 67) (.const (.bool false)), some (61, false)⟩,
    ⟨some 69, .pick (.tmp 61) (.const (.bool true)) (.tmp 68), none⟩] [])
  (.cond (.tmp 69) (.seq (.reg [⟨some 71, .move (.tmp 0), none⟩,
    ⟨some 72, .call { callee := .value (.func 61), args := #[.tmp 71, .const (.int .u32 0)], argTypes := #[22, 25] }, none⟩,
    ⟨some 70, .move (.tmp 72), none⟩,
    ⟨some 73, .extract (.tmp 70) 0, none⟩,
    ⟨some 74, .extract (.tmp 70) 1, none⟩,
    ⟨some 14, .assign (.tmp 73), none⟩,
    ⟨some 15, .assign (.tmp 74), none⟩] [])
  (.seq (.reg [⟨some 75, .move (.tmp 14), none⟩,
    ⟨some 76, .move (.tmp 2), none⟩,
    ⟨some 77, .move (.tmp 15), none⟩,
    ⟨some 78, .move (.tmp 4), none⟩,
    ⟨some 79, .unOp .not 4 (.tmp 78), none⟩,
    ⟨some 80, .call { callee := .value (.func 28), args := #[.tmp 75, .const (.int .i64 16), .tmp 76, .tmp 77, .tmp 79], argTypes := #[22, 3, 3, 3, 4] }, none⟩,
    ⟨some 81, .extract (.tmp 80) 0, none⟩,
    ⟨some 82, .extract (.tmp 80) 1, none⟩,
    ⟨some 83, .extract (.tmp 80) 2, none⟩,
    ⟨some 10, .assign (.tmp 81), none⟩,
    ⟨none, .store 24 (.tmp 11) (.tmp 82), none⟩,
    ⟨some 12, .assign (.tmp 83), none⟩] [])
  .ret)) .skip))
  (.seq (.seq (.reg [⟨some 84, .move (.tmp 1), none⟩,
    ⟨some 85, .binOp .eql 3 (.tmp 84) (.const (.int .i64 48)) 3, none⟩] [])
  (.cond (.tmp 85) (.seq (.reg [⟨some 87, .move (.tmp 0), none⟩,
    ⟨some 88, .move (.tmp 3), none⟩,
    ⟨some 89, .binOp .sub 25 (.tmp 88) (.const (.int .u32 1)) 25, none⟩,
    ⟨some 90, .call { callee := .value (.func 61), args := #[.tmp 87, .tmp 89], argTypes := #[22, 25] }, none⟩,
    ⟨some 86, .move (.tmp 90), none⟩,
    ⟨some 91, .extract (.tmp 86) 0, none⟩,
    ⟨some 92, .extract (.tmp 86) 1, none⟩,
    ⟨some 16, .assign (.tmp 91), none⟩,
    ⟨some 17, .assign (.tmp 92), none⟩] [])
  (.seq (.reg [⟨some 93, .move (.tmp 16), none⟩,
    ⟨some 94, .move (.tmp 2), none⟩,
    ⟨some 95, .move (.tmp 17), none⟩,
    ⟨some 96, .move (.tmp 4), none⟩,
    ⟨some 97, .call { callee := .value (.func 28), args := #[.tmp 93, .const (.int .i64 32), .tmp 94, .tmp 95, .tmp 96], argTypes := #[22, 3, 3, 3, 4] }, none⟩,
    ⟨some 98, .extract (.tmp 97) 0, none⟩,
    ⟨some 99, .extract (.tmp 97) 1, none⟩,
    ⟨some 100, .extract (.tmp 97) 2, none⟩,
    ⟨some 10, .assign (.tmp 98), none⟩,
    ⟨none, .store 24 (.tmp 11) (.tmp 99), none⟩,
    ⟨some 12, .assign (.tmp 100), none⟩] [])
  .ret)) .skip))
  (.seq (.reg [⟨some 101, .move (.tmp 0), none⟩,
    ⟨some 102, .move (.tmp 2), none⟩,
    ⟨some 103, .indexAddr 22 (.tmp 101) (.tmp 102), none⟩,
    ⟨some 104, .load 52 (.tmp 103), none⟩,
    ⟨some 18, .alloc 52, none⟩,
    ⟨none, .store 52 (.tmp 18) (.tmp 104), none⟩] [])
  (.seq (.seq (.reg [⟨some 105, .fieldAddr 52 (.tmp 18) 0, none⟩,
    ⟨some 106, .load 3 (.tmp 105), none⟩,
    ⟨some 107, .binOp .eql 3 (.tmp 106) (.const (.int .i64 336)) 3, none⟩,
    ⟨some 108, .move (.tmp 107), none⟩,
    ⟨some 109, .move (.tmp 0), some (108, true)⟩,
    ⟨some 110, .fieldAddr 52 (.tmp 18) 2, some (108, true)⟩,
    ⟨some 111, .load 3 (.tmp 110), some (108, true)⟩,
    ⟨some 112, .indexAddr 22 (.tmp 109) (.tmp 111), some (108, true)⟩,
    ⟨some 113, .fieldAddr 52 (.tmp 112) 0, some (108, true)⟩,
    ⟨some 114, .load 3 (.tmp 113), some (108, true)⟩,
    ⟨some 115, .binOp .eql 3 (.tmp 114) (.const (.int .i64 1)) 3, some (108, true)⟩,
    ⟨some 116, .pick (.tmp 108) (.tmp 115) (.const (.bool false)), none⟩] [])
  (.cond (.tmp 116) (.seq (.reg [⟨some 117, .move (.tmp 0), none⟩,
    ⟨some 118, .fieldAddr 52 (.tmp 18) 2, none⟩,
    ⟨some 119, .load 3 (.tmp 118), none⟩,
    ⟨some 120, .indexAddr 22 (.tmp 117) (.tmp 119), none⟩,
    ⟨some 121, .fieldAddr 52 (.tmp 120) 3, none⟩,
    ⟨some 122, .load 25 (.tmp 121), none⟩,
    ⟨some 19, .assign (.tmp 122), none⟩] [])
  (.seq (.reg [⟨some 124, .move (.tmp 19), none⟩,
    ⟨some 125, .move (.tmp 3), none⟩,
    ⟨some 126, .call { callee := .value (.func 30), args := #[.const (.int .i64 80), .tmp 124, .tmp 125], argTypes := #[3, 25, 25] }, none⟩,
    ⟨some 123, .move (.tmp 126), none⟩,
    ⟨some 127, .extract (.tmp 123) 0, none⟩,
    ⟨some 128, .extract (.tmp 123) 1, none⟩,
    ⟨some 20, .assign (.tmp 127), none⟩,
    ⟨some 21, .assign (.tmp 128), none⟩] [])
  (.seq (.seq (.reg [⟨some 129, .move (.tmp 1), none⟩,
    ⟨some 130, .binOp .eql 3 (.tmp 129) (.const (.int .i64 64)) 3, none⟩] [])
  (.cond (.tmp 130) (.seq (.reg [⟨some 132, .move (.tmp 0), none⟩,
    ⟨some 133, .move (.tmp 20), none⟩,
    ⟨some 134, .call { callee := .value (.func 61), args := #[.tmp 132, .tmp 133], argTypes := #[22, 25] }, none⟩,
    ⟨some 131, .move (.tmp 134), none⟩,
    ⟨some 135, .extract (.tmp 131) 0, none⟩,
    ⟨some 136, .extract (.tmp 131) 1, none⟩,
    ⟨some 22, .assign (.tmp 135), none⟩,
    ⟨some 23, .assign (.tmp 136), none⟩] [])
  (.seq (.reg [⟨some 137, .move (.tmp 22), none⟩,
    ⟨some 138, .fieldAddr 52 (.tmp 18) 1, none⟩,
    ⟨some 139, .load 3 (.tmp 138), none⟩,
    ⟨some 140, .move (.tmp 23), none⟩,
    ⟨some 141, .move (.tmp 4), none⟩,
    ⟨some 142, .call { callee := .value (.func 28), args := #[.tmp 137, .const (.int .i64 64), .tmp 139, .tmp 140, .tmp 141], argTypes := #[22, 3, 3, 3, 4] }, none⟩,
    ⟨some 143, .extract (.tmp 142) 0, none⟩,
    ⟨some 144, .extract (.tmp 142) 1, none⟩,
    ⟨some 145, .extract (.tmp 142) 2, none⟩,
    ⟨some 10, .assign (.tmp 143), none⟩,
    ⟨none, .store 24 (.tmp 11) (.tmp 144), none⟩,
    ⟨some 12, .assign (.tmp 145), none⟩] [])
  .ret)) .skip))
  (.seq (.seq (.reg [⟨some 146, .move (.tmp 1), none⟩,
    ⟨some 147, .binOp .eql 3 (.tmp 146) (.const (.int .i64 16)) 3, none⟩,
    ⟨some 148, .move (.tmp 147), none⟩,
    ⟨some 149, .move (.tmp 20), some (148, true)⟩,
    ⟨some 150, .move (.tmp 3), some (148, true)⟩,
    ⟨some 151, .binOp .neq 25 (.tmp 149) (.tmp 150) 25, some (148, true)⟩,
    ⟨some 152, .pick (.tmp 148) (.tmp 151) (.const (.bool false)), none⟩] [])
  (.cond (.tmp 152) (.seq (.reg [⟨some 153, .move (.tmp 0), none⟩,
    ⟨some 154, .build 24 #[], none⟩,
    ⟨some 155, .move (.tmp 4), none⟩,
    ⟨some 156, .call { callee := .value (.func 59), args := #[.const (.bool false), .tmp 155], argTypes := #[4, 4] }, none⟩,
    ⟨some 10, .assign (.tmp 153), none⟩,
    ⟨none, .store 24 (.tmp 11) (.tmp 154), none⟩,
    ⟨some 12, .assign (.tmp 156), none⟩] [])
  .ret) .skip))
  (.seq (.reg [⟨some 157, .move (.tmp 1), none⟩,
    ⟨some 158, .binOp .eql 3 (.tmp 157) (.const (.int .i64 16)) 3, none⟩,
    ⟨some 159, .move (.tmp 158), none⟩,
    ⟨some 160, .move (.tmp 3), some (159, true)⟩,
    ⟨some 161, .binOp .eql 25 (.tmp 160) (.const (.int .u32 0)) 25, some (159, true)⟩,
    ⟨some 162, .pick (.tmp 159) (.tmp 161) (.const (.bool false)), none⟩] [])
  (.cond (.tmp 162) (.seq (.reg [⟨some 163, .move (.tmp 0), none⟩,
    ⟨some 164, .fieldAddr 52 (.tmp 18) 1, none⟩,
    ⟨some 165, .load 3 (.tmp 164), none⟩,
    ⟨some 166, .fieldAddr 52 (.tmp 18) 2, none⟩,
    ⟨some 167, .load 3 (.tmp 166), none⟩,
    ⟨some 168, .move (.tmp 4), none⟩,
    ⟨some 169, .unOp .not 4 (.tmp 168), none⟩,
    ⟨some 170, .call { callee := .value (.func 28), args := #[.tmp 163, .const (.int .i64 64), .tmp 165, .tmp 167, .tmp 169], argTypes := #[22, 3, 3, 3, 4] }, none⟩,
    ⟨some 171, .extract (.tmp 170) 0, none⟩,
    ⟨some 172, .extract (.tmp 170) 1, none⟩,
    ⟨some 173, .extract (.tmp 170) 2, none⟩,
    ⟨some 10, .assign (.tmp 171), none⟩,
    ⟨none, .store 24 (.tmp 11) (.tmp 172), none⟩,
    ⟨some 12, .assign (.tmp 173), none⟩] [])
  .ret) .skip)))))) .skip))
  (.seq (.reg [⟨some 175, .move (.tmp 0), none⟩,
    ⟨some 176, .move (.tmp 3), none⟩,
    ⟨some 177, .call { callee := .value (.func 61), args := #[.tmp 175, .tmp 176], argTypes := #[22, 25] }, none⟩,
    ⟨some 174, .move (.tmp 177), none⟩,
    ⟨some 178, .extract (.tmp 174) 0, none⟩,
    ⟨some 179, .extract (.tmp 174) 1, none⟩,
    ⟨some 24, .assign (.tmp 178), none⟩,
    ⟨some 25, .assign (.tmp 179), none⟩] [])
  (.seq (.reg [⟨some 180, .move (.tmp 24), none⟩,
    ⟨some 181, .move (.tmp 1), none⟩,
    ⟨some 182, .move (.tmp 2), none⟩,
    ⟨some 183, .move (.tmp 25), none⟩,
    ⟨some 184, .move (.tmp 4), none⟩,
    ⟨some 185, .build 24 #[(0, .tmp 181), (1, .tmp 182), (2, .tmp 183), (3, .tmp 184)], none⟩,
    ⟨some 10, .assign (.tmp 180), none⟩,
    ⟨none, .store 24 (.tmp 11) (.tmp 185), none⟩,
    ⟨some 12, .assign (.const (.int .i64 1)), none⟩] [])
  .ret))))))))))
theorem S60_eq : slimF Try.prog 60 = some (186, [.tmp 10, .cell 11 24, .tmp 12], S60) := by kernel_rfl

/-- tamis/tamisref12.Number -/
def S61 : SC :=
  (.seq (.reg [⟨some 4, .assign (.const (.slice none 0 0)), none⟩,
    ⟨some 5, .assign (.const (.int .i64 0)), none⟩] [])
  (.seq (.reg [⟨some 6, .move (.tmp 0), none⟩,
    ⟨some 7, .move (.tmp 1), none⟩,
    ⟨some 8, .build 52 #[(0, .const (.int .i64 1)), (3, .tmp 7)], none⟩,
    ⟨some 9, .call { callee := .value (.func 56), args := #[.tmp 6, .tmp 8], argTypes := #[22, 52] }, none⟩,
    ⟨some 10, .extract (.tmp 9) 0, none⟩,
    ⟨some 11, .extract (.tmp 9) 1, none⟩,
    ⟨some 4, .assign (.tmp 10), none⟩,
    ⟨some 5, .assign (.tmp 11), none⟩] [])
  .ret))
theorem S61_eq : slimF Try.prog 61 = some (12, [.tmp 4, .tmp 5], S61) := by kernel_rfl

def S62L1 : SC :=
  (.seq (.seq (.reg [⟨some 22, .move (.tmp 14), none⟩,
    ⟨some 23, .binOp .lss 3 (.tmp 22) (.const (.int .i64 32)) 3, none⟩] [])
  (.cond (.tmp 23) .skip (.exit 0)))
  (.seq (.block 1 (.seq (.reg [⟨some 26, .move (.tmp 11), none⟩,
    ⟨some 27, .move (.tmp 14), none⟩,
    ⟨some 28, .indexAddr 37 (.tmp 26) (.tmp 27), none⟩,
    ⟨some 29, .load 3 (.tmp 28), none⟩,
    ⟨some 30, .move (.tmp 12), none⟩,
    ⟨some 31, .move (.tmp 14), none⟩,
    ⟨some 32, .indexAddr 37 (.tmp 30) (.tmp 31), none⟩,
    ⟨some 33, .load 3 (.tmp 32), none⟩,
    ⟨some 34, .binOp .add 3 (.tmp 29) (.tmp 33) 3, none⟩] [])
  (.block 2 (.seq (.reg [⟨some 40, .binOp .eql 3 (.tmp 34) (.const (.int .i64 0)) 3, none⟩,
    ⟨some 39, .assign (.tmp 40), none⟩] [])
  (.cond (.tmp 39) (.reg [⟨some 41, .move (.tmp 13), none⟩,
    ⟨some 42, .move (.tmp 14), none⟩,
    ⟨some 43, .move (.tmp 2), none⟩,
    ⟨some 44, .indexAddr 37 (.tmp 41) (.tmp 42), none⟩,
    ⟨none, .store 3 (.tmp 44) (.tmp 43), none⟩] []) (.seq (.reg [⟨some 46, .binOp .eql 3 (.tmp 34) (.const (.int .i64 1)) 3, none⟩,
    ⟨some 45, .assign (.tmp 46), none⟩] [])
  (.cond (.tmp 45) (.reg [⟨some 47, .move (.tmp 13), none⟩,
    ⟨some 48, .move (.tmp 14), none⟩,
    ⟨some 49, .move (.tmp 3), none⟩,
    ⟨some 50, .indexAddr 37 (.tmp 47) (.tmp 48), none⟩,
    ⟨none, .store 3 (.tmp 50) (.tmp 49), none⟩] []) (.reg [⟨some 35, .move (.tmp 13), none⟩,
    ⟨some 36, .move (.tmp 14), none⟩,
    ⟨some 37, .move (.tmp 4), none⟩,
    ⟨some 38, .indexAddr 37 (.tmp 35) (.tmp 36), none⟩,
    ⟨none, .store 3 (.tmp 38) (.tmp 37), none⟩] []))))))))
  (.reg [⟨some 24, .move (.tmp 14), none⟩,
    ⟨some 25, .binOp .add 3 (.tmp 24) (.const (.int .i64 1)) 3, none⟩,
    ⟨some 14, .assign (.tmp 25), none⟩] [])))
/-- tamis/tamisref01.both -/
def S62 : SC :=
  (.seq (.reg [⟨some 10, .assign (.const (.int .u32 0)), none⟩] [])
  (.seq (.reg [⟨some 15, .move (.tmp 0), none⟩,
    ⟨some 16, .convert 25 82 (.tmp 15), none⟩,
    ⟨some 17, .call { callee := .value (.func 84), args := #[.tmp 16], argTypes := #[82] }, none⟩,
    ⟨some 18, .move (.tmp 1), none⟩,
    ⟨some 19, .convert 25 82 (.tmp 18), none⟩,
    ⟨some 20, .call { callee := .value (.func 84), args := #[.tmp 19], argTypes := #[82] }, none⟩,
    ⟨some 11, .assign (.tmp 17), none⟩,
    ⟨some 12, .assign (.tmp 20), none⟩] [])
  (.seq (.reg [⟨some 21, .makeSlice 37 (.const (.int .i64 32)) (.const (.int .i64 32)), none⟩,
    ⟨some 13, .assign (.tmp 21), none⟩] [])
  (.seq (.seq (.reg [⟨some 14, .assign (.const (.int .i64 0)), none⟩] [])
  (.block 0 (.loop S62L1)))
  (.seq (.reg [⟨some 51, .move (.tmp 13), none⟩,
    ⟨some 52, .call { callee := .value (.func 85), args := #[.tmp 51], argTypes := #[37] }, none⟩,
    ⟨some 10, .assign (.tmp 52), none⟩] [])
  .ret)))))
theorem S62_eq : slimF Try.prog 62 = some (53, [.tmp 10], S62) := by kernel_rfl

/-- tamis/simp.known -/
def S63 : SC :=
  (.seq (.reg [⟨some 2, .assign (.const (.bool false)), none⟩] [])
  (.seq (.seq (.reg [⟨some 3, .move (.tmp 0), none⟩] [])
  (.block 0 (.seq (.seq (.reg [⟨some 5, .binOp .eql 3 (.tmp 3) (.const (.int .i64 0)) 3, none⟩,
    ⟨some 4, .assign (.tmp 5), none⟩] [])
  (.cond (.tmp 4) .skip (.seq (.reg [⟨some 6, .binOp .eql 3 (.tmp 3) (.const (.int .i64 16)) 3, none⟩,
    ⟨some 4, .assign (.tmp 6), none⟩] [])
  (.cond (.tmp 4) .skip (.seq (.reg [⟨some 7, .binOp .eql 3 (.tmp 3) (.const (.int .i64 32)) 3, none⟩,
    ⟨some 4, .assign (.tmp 7), none⟩] [])
  (.cond (.tmp 4) .skip (.seq (.reg [⟨some 8, .binOp .eql 3 (.tmp 3) (.const (.int .i64 48)) 3, none⟩,
    ⟨some 4, .assign (.tmp 8), none⟩] [])
  (.cond (.tmp 4) .skip (.seq (.reg [⟨some 9, .binOp .eql 3 (.tmp 3) (.const (.int .i64 64)) 3, none⟩,
    ⟨some 4, .assign (.tmp 9), none⟩] [])
  (.cond (.tmp 4) .skip (.seq (.reg [⟨some 10, .binOp .eql 3 (.tmp 3) (.const (.int .i64 80)) 3, none⟩,
    ⟨some 4, .assign (.tmp 10), none⟩] [])
  (.cond (.tmp 4) .skip (.seq (.reg [⟨some 11, .binOp .eql 3 (.tmp 3) (.const (.int .i64 96)) 3, none⟩,
    ⟨some 4, .assign (.tmp 11), none⟩] [])
  (.cond (.tmp 4) .skip (.seq (.reg [⟨some 12, .binOp .eql 3 (.tmp 3) (.const (.int .i64 112)) 3, none⟩,
    ⟨some 4, .assign (.tmp 12), none⟩] [])
  (.cond (.tmp 4) .skip (.seq (.reg [⟨some 13, .binOp .eql 3 (.tmp 3) (.const (.int .i64 128)) 3, none⟩,
    ⟨some 4, .assign (.tmp 13), none⟩] [])
  (.cond (.tmp 4) .skip (.reg [⟨some 14, .binOp .eql 3 (.tmp 3) (.const (.int .i64 160)) 3, none⟩,
    ⟨some 4, .assign (.tmp 14), none⟩] [])))))))))))))))))))
  (.cond (.tmp 4) (.seq (.reg [⟨some 2, .assign (.const (.bool true)), none⟩] [])
  .ret) .skip))))
  (.seq (.reg [⟨some 2, .assign (.const (.bool false)), none⟩] [])
  .ret)))
theorem S63_eq : slimF Try.prog 63 = some (15, [.tmp 2], S63) := by kernel_rfl

/-- (*tamis/simp.maker).told -/
def S64 : SC :=
  (.seq (.reg [⟨some 4, .assign (.const (.int .i64 0)), none⟩,
    ⟨some 5, .assign (.const (.int .i64 0)), none⟩] [])
  (.seq (.seq (.reg [⟨some 6, .move (.tmp 0), none⟩,
    ⟨some 7, .nilCheck (.tmp 6), none⟩,
    ⟨some 8, .fieldAddr 110 (.tmp 7) 1, none⟩,
    ⟨some 9, .load 30 (.tmp 8), none⟩,
    ⟨some 10, .binOp .neq 30 (.tmp 9) (.const (.int .i64 0)) 30, none⟩] [])
  (.cond (.tmp 10) (.seq (.reg [⟨some 11, .move (.tmp 0), none⟩,
    ⟨some 12, .nilCheck (.tmp 11), none⟩,
    ⟨some 13, .fieldAddr 110 (.tmp 12) 1, none⟩,
    ⟨some 14, .load 30 (.tmp 13), none⟩,
    ⟨some 4, .assign (.const (.int .i64 0)), none⟩,
    ⟨some 5, .assign (.tmp 14), none⟩] [])
  .ret) .skip))
  (.seq (.reg [⟨some 15, .move (.tmp 1), none⟩,
    ⟨some 4, .assign (.tmp 15), none⟩,
    ⟨some 5, .assign (.const (.int .i64 0)), none⟩] [])
  .ret)))
theorem S64_eq : slimF Try.prog 64 = some (16, [.tmp 4, .tmp 5], S64) := by kernel_rfl

/-- (*tamis/simp.maker).make -/
def S65 : SC :=
  (.seq (.reg [⟨some 8, .assign (.const (.int .i64 0)), none⟩] [])
  (.seq (.seq (.reg [⟨some 13, .move (.tmp 1), none⟩,
    ⟨some 14, .binOp .eql 3 (.tmp 13) (.const (.int .i64 128)) 3, none⟩] [])
  (.cond (.tmp 14) (.seq (.reg [⟨some 15, .move (.tmp 0), none⟩,
    ⟨some 16, .move (.tmp 2), none⟩,
    ⟨some 17, .call { callee := .value (.func 86), args := #[.tmp 15, .tmp 16], argTypes := #[108, 3] }, none⟩,
    ⟨some 8, .assign (.tmp 17), none⟩] [])
  .ret) .skip))
  (.seq (.reg [⟨some 19, .move (.tmp 0), none⟩,
    ⟨some 20, .move (.tmp 2), none⟩,
    ⟨some 21, .call { callee := .value (.func 87), args := #[.tmp 19, .tmp 20], argTypes := #[108, 3] }, none⟩,
    ⟨some 18, .move (.tmp 21), none⟩,
    ⟨some 22, .extract (.tmp 18) 0, none⟩,
    ⟨some 23, .extract (.tmp 18) 1, none⟩,
    ⟨some 9, .assign (.tmp 22), none⟩,
    ⟨some 10, .assign (.tmp 23), none⟩] [])
  (.seq (.reg [⟨some 25, .move (.tmp 0), none⟩,
    ⟨some 26, .move (.tmp 3), none⟩,
    ⟨some 27, .call { callee := .value (.func 87), args := #[.tmp 25, .tmp 26], argTypes := #[108, 3] }, none⟩,
    ⟨some 24, .move (.tmp 27), none⟩,
    ⟨some 28, .extract (.tmp 24) 0, none⟩,
    ⟨some 29, .extract (.tmp 24) 1, none⟩,
    ⟨some 11, .assign (.tmp 28), none⟩,
    ⟨some 12, .assign (.tmp 29), none⟩] [])
  (.seq (.block 0 (.seq (.reg [⟨some 31, .move (.tmp 10), none⟩,
    ⟨some 32, .move (.tmp 31), none⟩,
    ⟨some 33, .move (.tmp 12), some (32, true)⟩,
    ⟨some 34, .pick (.tmp 32) (.tmp 33) (.const (.bool false)), none⟩,
    ⟨some 30, .assign (.tmp 34), none⟩] [])
  (.cond (.tmp 30) (.seq (.reg [⟨some 35, .move (.tmp 0), none⟩,
    ⟨some 36, .move (.tmp 1), none⟩,
    ⟨some 37, .move (.tmp 9), none⟩,
    ⟨some 38, .move (.tmp 11), none⟩,
    ⟨some 39, .call { callee := .value (.func 88), args := #[.tmp 36, .tmp 37, .tmp 38], argTypes := #[3, 25, 25] }, none⟩,
    ⟨some 40, .call { callee := .value (.func 73), args := #[.tmp 35, .tmp 39], argTypes := #[108, 25] }, none⟩,
    ⟨some 8, .assign (.tmp 40), none⟩] [])
  .ret) (.seq (.reg [⟨some 42, .move (.tmp 10), none⟩,
    ⟨some 43, .move (.tmp 42), none⟩,
    ⟨some 44, .move (.tmp 1), some (43, true)⟩,
    ⟨some 45, .call { callee := .value (.func 89), args := #[.tmp 44], argTypes := #[3] }, some (43, true)⟩,
    ⟨some 46, .pick (.tmp 43) (.tmp 45) (.const (.bool false)), none⟩,
    ⟨some 41, .assign (.tmp 46), none⟩] [])
  (.cond (.tmp 41) (.seq (.reg [⟨some 47, .move (.tmp 0), none⟩,
    ⟨some 48, .move (.tmp 1), none⟩,
    ⟨some 49, .move (.tmp 3), none⟩,
    ⟨some 50, .move (.tmp 9), none⟩,
    ⟨some 51, .call { callee := .value (.func 90), args := #[.tmp 47, .tmp 48, .tmp 49, .tmp 50], argTypes := #[108, 3, 3, 25] }, none⟩,
    ⟨some 8, .assign (.tmp 51), none⟩] [])
  .ret) (.seq (.reg [⟨some 53, .move (.tmp 12), none⟩,
    ⟨some 52, .assign (.tmp 53), none⟩] [])
  (.cond (.tmp 52) (.seq (.reg [⟨some 54, .move (.tmp 0), none⟩,
    ⟨some 55, .move (.tmp 1), none⟩,
    ⟨some 56, .move (.tmp 2), none⟩,
    ⟨some 57, .move (.tmp 11), none⟩,
    ⟨some 58, .call { callee := .value (.func 90), args := #[.tmp 54, .tmp 55, .tmp 56, .tmp 57], argTypes := #[108, 3, 3, 25] }, none⟩,
    ⟨some 8, .assign (.tmp 58), none⟩] [])
  .ret) (.seq (.reg [⟨some 60, .move (.tmp 2), none⟩,
    ⟨some 61, .move (.tmp 3), none⟩,
    ⟨some 62, .binOp .eql 3 (.tmp 60) (.tmp 61) 3, none⟩,
    ⟨some 63, .move (.tmp 62), none⟩,
    ⟨some 64, .move (.tmp 1), some (63, true)⟩,
    ⟨some 65, .binOp .eql 3 (.tmp 64) (.const (.int .i64 16)) 3, some (63, true)⟩,
    ⟨some 66, .move (.tmp 65), some (63, true)⟩,
    ⟨some 67, .move (.tmp 1), some (66, false)⟩,
    ⟨some 68, .binOp .eql 3 (.tmp 67) (.const (.int .i64 160)) 3, some (66, false)⟩,
    ⟨some 69, .pick (.tmp 66) (.const (.bool true)) (.tmp 68), some (63, true)⟩,
    ⟨some 70, .pick (.tmp 63) (.tmp 69) (.const (.bool false)), none⟩,
    ⟨some 59, .assign (.tmp 70), none⟩] [])
  (.cond (.tmp 59) (.seq (.reg [⟨some 71, .move (.tmp 0), none⟩,
    ⟨some 72, .call { callee := .value (.func 73), args := #[.tmp 71, .const (.int .u32 0)], argTypes := #[108, 25] }, none⟩,
    ⟨some 8, .assign (.tmp 72), none⟩] [])
  .ret) (.seq (.reg [⟨some 74, .move (.tmp 2), none⟩,
    ⟨some 75, .move (.tmp 3), none⟩,
    ⟨some 76, .binOp .eql 3 (.tmp 74) (.tmp 75) 3, none⟩,
    ⟨some 77, .move (.tmp 76), none⟩,
    ⟨some 78, .move (.tmp 1), some (77, true)⟩,
    ⟨some 79, .binOp .eql 3 (.tmp 78) (.const (.int .i64 64)) 3, some (77, true)⟩,
    ⟨some 80, .move (.tmp 79), some (77, true)⟩,
    ⟨some 81, .move (.tmp 1), some (80, false)⟩,
    ⟨some 82, .binOp .eql 3 (.tmp 81) (.const (.int .i64 80)) 3, some (80, false)⟩,
    ⟨some 83, .pick (.tmp 80) (.const (.bool true)) (.tmp 82), some (77, true)⟩,
    ⟨some 84, .pick (.tmp 77) (.tmp 83) (.const (.bool false)), none⟩,
    ⟨some 73, .assign (.tmp 84), none⟩] [])
  (.cond (.tmp 73) (.seq (.reg [⟨some 85, .move (.tmp 2), none⟩,
    ⟨some 8, .assign (.tmp 85), none⟩] [])
  .ret) .skip)))))))))))
  (.seq (.reg [⟨some 86, .move (.tmp 0), none⟩,
    ⟨some 87, .move (.tmp 1), none⟩,
    ⟨some 88, .binOp .or 3 (.const (.int .i64 256)) (.tmp 87) 3, none⟩,
    ⟨some 89, .move (.tmp 2), none⟩,
    ⟨some 90, .move (.tmp 3), none⟩,
    ⟨some 91, .build 52 #[(0, .tmp 88), (1, .tmp 89), (2, .tmp 90)], none⟩,
    ⟨some 92, .call { callee := .value (.func 91), args := #[.tmp 86, .tmp 91], argTypes := #[108, 52] }, none⟩,
    ⟨some 8, .assign (.tmp 92), none⟩] [])
  .ret))))))
theorem S65_eq : slimF Try.prog 65 = some (93, [.tmp 8], S65) := by kernel_rfl

/-- tamis/tamisref12.sum -/
def S66 : SC :=
  (.seq (.reg [⟨some 6, .assign (.const (.int .u32 0)), none⟩] [])
  (.seq (.reg [⟨some 10, .move (.tmp 0), none⟩,
    ⟨some 11, .move (.tmp 1), none⟩,
    ⟨some 12, .move (.tmp 2), none⟩,
    ⟨some 13, .call { callee := .value (.func 30), args := #[.tmp 10, .tmp 11, .tmp 12], argTypes := #[3, 25, 25] }, none⟩,
    ⟨some 9, .move (.tmp 13), none⟩,
    ⟨some 14, .extract (.tmp 9) 0, none⟩,
    ⟨some 15, .extract (.tmp 9) 1, none⟩,
    ⟨some 7, .assign (.tmp 14), none⟩,
    ⟨some 8, .assign (.tmp 15), none⟩] [])
  (.seq (.seq (.reg [⟨some 16, .move (.tmp 8), none⟩,
    ⟨some 17, .unOp .not 4 (.tmp 16), none⟩] [])
  (.cond (.tmp 17) (.seq (.reg [⟨some 6, .assign (.const (.int .u32 0)), none⟩] [])
  .ret) .skip))
  (.seq (.reg [⟨some 18, .move (.tmp 7), none⟩,
    ⟨some 6, .assign (.tmp 18), none⟩] [])
  .ret))))
theorem S66_eq : slimF Try.prog 66 = some (19, [.tmp 6], S66) := by kernel_rfl

/-- tamis/tamisref12.turns -/
def S67 : SC :=
  (.seq (.reg [⟨some 2, .assign (.const (.bool false)), none⟩] [])
  (.seq (.reg [⟨some 3, .move (.tmp 0), none⟩,
    ⟨some 4, .binOp .eql 3 (.tmp 3) (.const (.int .i64 0)) 3, none⟩,
    ⟨some 5, .move (.tmp 4), none⟩,
    ⟨some 6, .move (.tmp 0), some (5, false)⟩,
    ⟨some 7, .binOp .eql 3 (.tmp 6) (.const (.int .i64 32)) 3, some (5, false)⟩,
    ⟨some 8, .pick (.tmp 5) (.const (.bool true)) (.tmp 7), none⟩,
    ⟨some 9, .move (.tmp 8), none⟩,
    ⟨some 10, .move (.tmp 0), some (9, false)⟩,
    ⟨some 11, .binOp .eql 3 (.tmp 10) (.const (.int .i64 64)) 3, some (9, false)⟩,
    ⟨some 12, .pick (.tmp 9) (.const (.bool true)) (.tmp 11), none⟩,
    ⟨some 13, .move (.tmp 12), none⟩,
    ⟨some 14, .move (.tmp 0), some (13, false)⟩,
    ⟨some 15, .binOp .eql 3 (.tmp 14) (.const (.int .i64 80)) 3, some (13, false)⟩,
    ⟨some 16, .pick (.tmp 13) (.const (.bool true)) (.tmp 15), none⟩,
    ⟨some 17, .move (.tmp 16), none⟩,
    ⟨some 18, .move (.tmp 0), some (17, false)⟩,
    ⟨some 19, .binOp .eql 3 (.tmp 18) (.const (.int .i64 160)) 3, some (17, false)⟩,
    ⟨some 20, .pick (.tmp 17) (.const (.bool true)) (.tmp 19), none⟩,
    ⟨some 2, .assign (.tmp 20), none⟩] [])
  .ret))
theorem S67_eq : slimF Try.prog 67 = some (21, [.tmp 2], S67) := by kernel_rfl

/-- tamis/tamisref12.right -/
def S68 : SC :=
  (.seq (.reg [⟨some 8, .assign (.const (.slice none 0 0)), none⟩,
    ⟨some 9, .assign (.const (.int .i64 0)), none⟩] [])
  (.seq (.seq (.reg [⟨some 16, .move (.tmp 1), none⟩,
    ⟨some 17, .binOp .eql 3 (.tmp 16) (.const (.int .i64 96)) 3, none⟩,
    ⟨some 18, .move (.tmp 17), none⟩,
    ⟨some 19, .move (.tmp 1), some (18, false)⟩,
    ⟨some 20, .binOp .eql 3 (.tmp 19) (.const (.int .i64 112)) 3, some (18, false)⟩,
    ⟨some 21, .pick (.tmp 18) (.const (.bool true)) (.tmp 20), none⟩] [])
  (.cond (.tmp 21) (.reg [⟨some 22, .move (.tmp 3), none⟩,
    ⟨some 23, .binOp .rem 25 (.tmp 22) (.const (.int .u32 32)) 25, none⟩,
    ⟨some 3, .assign (.tmp 23), none⟩] []) .skip))
  (.seq (.reg [⟨some 10, .assign (.const (.int .u32 4294967295)), none⟩] [])
  (.seq (.seq (.reg [⟨some 24, .move (.tmp 3), none⟩,
    ⟨some 25, .binOp .eql 25 (.tmp 24) (.const (.int .u32 0)) 25, none⟩,
    ⟨some 26, .move (.tmp 25), none⟩,
    ⟨some 27, .move (.tmp 1), some (26, true)⟩,
    ⟨some 28, .binOp .eql 3 (.tmp 27) (.const (.int .i64 0)) 3, some (26, true)⟩,
    ⟨some 29, .move (.tmp 28), some (26, true)⟩,
    ⟨some 30, .move (.tmp 1), some (29, false)⟩,
    ⟨some 31, .binOp .eql 3 (.tmp 30) (.const (.int .i64 16)) 3, some (29, false)⟩,
    ⟨some 32, .pick (.tmp 29) (.const (.bool true)) (.tmp 31), some (26, true)⟩,
    ⟨some 33, .move (.tmp 32), some (26, true)⟩,
    ⟨some 34, .move (.tmp 1), some (33, false)⟩,
    ⟨some 35, .binOp .eql 3 (.tmp 34) (.const (.int .i64 64)) 3, some (33, false)⟩,
    ⟨some 36, .pick (.tmp 33) (.const (.bool true)) (.tmp 35), some (26, true)⟩,
    ⟨some 37, .move (.tmp 36), some (26, true)⟩,
    ⟨some 38, .move (.tmp 1), some (37, false)⟩,
    ⟨some 39, .binOp .eql 3 (.tmp 38) (.const (.int .i64 160)) 3, some (37, false)⟩,
    ⟨some 40, .pick (.tmp 37) (.const (.bool true)) (.tmp 39), some (26, true)⟩,
    ⟨some 41, .move (.tmp 40), some (26, true)⟩,
    ⟨some 42, .move (.tmp 1), some (41, false)⟩,
    ⟨some 43, .binOp .eql 3 (.tmp 42) (.const (.int .i64 96)) 3, some (41, false)⟩,
    ⟨some 44, .pick (.tmp 41) (.const (.bool true)) (.tmp 43), some (26, true)⟩,
    ⟨some 45, .move (.tmp 44), some (26, true)⟩,
    ⟨some 46, .move (.tmp 1), some (45, false)⟩,
    ⟨some 47, .binOp .eql 3 (.tmp 46) (.const (.int .i64 112)) 3, some (45, false)⟩,
    ⟨some 48, .pick (.tmp 45) (.const (.bool true)) (.tmp 47), some (26, true)⟩,
    ⟨some 49, .pick (.tmp 26) (.tmp 48) (.const (.bool false)), none⟩,
    ⟨some 50, .move (.tmp 49), none⟩,
    ⟨some 51, .move (.tmp 3), some (50, false)⟩,
    ⟨some 52, .binOp .eql 25 (.tmp 51) (.const (.int .u32 1)) 25, some (50, false)⟩,
    ⟨some 53, .move (.tmp 52), some (50, false)⟩,
    ⟨some 54, .move (.tmp 1), some (53, true)⟩,
    ⟨some 55, .binOp .eql 3 (.tmp 54) (.const (.int .i64 32)) 3, some (53, true)⟩,
    ⟨some 56, .move (.tmp 55), some (53, true)⟩,
    ⟨some 57, .move (.tmp 1), some (56, false)⟩,
    ⟨some 58, .binOp .eql 3 (.tmp 57) (.const (.int .i64 48)) 3, some (56, false)⟩,
    ⟨some 59, .pick (.tmp 56) (.const (.bool true)) (.tmp 58), some (53, true)⟩,
    ⟨some 60, .pick (.tmp 53) (.tmp 59) (.const (.bool false)), some (50, false)⟩,
    ⟨some 61, .pick (.tmp 50) (.const (.bool true)) (.tmp 60), none⟩,
    ⟨some 62, .move (.tmp 61), none⟩,
    ⟨some 63, .move (.tmp 3), some (62, false)⟩,
    ⟨some 64, .move (.tmp 10), some (62, false)⟩,
    ⟨some 65, .binOp .eql 25 (.tmp 63) (.tmp 64) 25, some (62, false)⟩,
    ⟨some 66, .move (.tmp 65), some (62, false)⟩,
    ⟨some 67, .move (.tmp 1), some (66, true)⟩,
    ⟨some 68, .binOp .eql 3 (.tmp 67) (.const (.int .i64 80)) 3, some (66, true)⟩,
    ⟨some 69, .pick (.tmp 66) (.tmp 68) (.const (.bool false)), some (62, false)⟩,
    ⟨some 70, .pick (.tmp 62) (.const (.bool true)) (.tmp 69), none⟩] [])
  (.cond (.tmp 70) (.seq (.reg [⟨some 71, .move (.tmp 0), none⟩,
    ⟨some 72, .move (.tmp 2), none⟩,
    ⟨some 8, .assign (.tmp 71), none⟩,
    ⟨some 9, .assign (.tmp 72), none⟩] [])
  .ret) .skip))
  (.seq (.seq (.reg [⟨some 73, .move (.tmp 3), none⟩,
    ⟨some 74, .binOp .eql 25 (.tmp 73) (.const (.int .u32 0)) 25, none⟩,
    ⟨some 75, .move (.tmp 74), none⟩,
    ⟨some 76, .move (.tmp 1), some (75, true)⟩,
    ⟨some 77, .binOp .eql 3 (.tmp 76) (.const (.int .i64 32)) 3, some (75, true)⟩,
    ⟨some 78, .move (.tmp 77), some (75, true)⟩,
    ⟨some 79, .move (.tmp 1), some (78, false)⟩,
    ⟨some 80, .binOp .eql 3 (.tmp 79) (.const (.int .i64 80)) 3, some (78, false)⟩,
    ⟨some 81, .pick (.tmp 78) (.const (.bool true)) (.tmp 80), some (75, true)⟩,
    ⟨some 82, .move (.tmp 81), some (75, true)⟩,
    ⟨some 83, .move (.tmp 1), some (82, false)⟩,
    ⟨some 84, .binOp .eql 3 (.tmp 83) (.const (.int .i64 48)) 3, some (82, false)⟩,
    ⟨some 85, .pick (.tmp 82) (.const (.bool true)) (.tmp 84), some (75, true)⟩,
    ⟨some 86, .pick (.tmp 75) (.tmp 85) (.const (.bool false)), none⟩] [])
  (.cond (.tmp 86) (.seq (.reg [⟨some 87, .move (.tmp 0), none⟩,
    ⟨some 88, .call { callee := .value (.func 61), args := #[.tmp 87, .const (.int .u32 0)], argTypes := #[22, 25] }, none⟩,
    ⟨some 89, .extract (.tmp 88) 0, none⟩,
    ⟨some 90, .extract (.tmp 88) 1, none⟩,
    ⟨some 8, .assign (.tmp 89), none⟩,
    ⟨some 9, .assign (.tmp 90), none⟩] [])
  .ret) .skip))
  (.seq (.seq (.reg [⟨some 91, .move (.tmp 3), none⟩,
    ⟨some 92, .move (.tmp 10), none⟩,
    ⟨some 93, .binOp .eql 25 (.tmp 91) (.tmp 92) 25, none⟩,
    ⟨some 94, .move (.tmp 93), none⟩,
    ⟨some 95, .move (.tmp 1), some (94, true)⟩,
    ⟨some 96, .binOp .eql 3 (.tmp 95) (.const (.int .i64 64)) 3, some (94, true)⟩,
    ⟨some 97, .pick (.tmp 94) (.tmp 96) (.const (.bool false)), none⟩] [])
  (.cond (.tmp 97) (.seq (.reg [⟨some 98, .move (.tmp 0), none⟩,
    ⟨some 99, .move (.tmp 10), none⟩,
    ⟨some 100, .call { callee := .value (.func 61), args := #[.tmp 98, .tmp 99], argTypes := #[22, 25] }, none⟩,
    ⟨some 101, .extract (.tmp 100) 0, none⟩,
    ⟨some 102, .extract (.tmp 100) 1, none⟩,
    ⟨some 8, .assign (.tmp 101), none⟩,
    ⟨some 9, .assign (.tmp 102), none⟩] [])
  .ret) .skip))
  (.seq (.reg [⟨some 103, .move (.tmp 0), none⟩,
    ⟨some 104, .move (.tmp 2), none⟩,
    ⟨some 105, .indexAddr 22 (.tmp 103) (.tmp 104), none⟩,
    ⟨some 106, .load 52 (.tmp 105), none⟩,
    ⟨some 11, .alloc 52, none⟩,
    ⟨none, .store 52 (.tmp 11) (.tmp 106), none⟩] [])
  (.seq (.seq (.reg [⟨some 107, .move (.tmp 1), none⟩,
    ⟨some 108, .call { callee := .value (.func 67), args := #[.tmp 107], argTypes := #[3] }, none⟩,
    ⟨some 109, .move (.tmp 108), none⟩,
    ⟨some 110, .fieldAddr 52 (.tmp 11) 0, some (109, true)⟩,
    ⟨some 111, .load 3 (.tmp 110), some (109, true)⟩,
    ⟨some 112, .move (.tmp 1), some (109, true)⟩,
    ⟨some 113, .binOp .add 3 (.const (.int .i64 256)) (.tmp 112) 3, some (109, true)⟩,
    ⟨some 114, .binOp .eql 3 (.tmp 111) (.tmp 113) 3, some (109, true)⟩,
    ⟨some 115, .pick (.tmp 109) (.tmp 114) (.const (.bool false)), none⟩,
    ⟨some 116, .move (.tmp 115), none⟩,
    ⟨some 117, .move (.tmp 0), some (116, true)⟩,
    ⟨some 118, .fieldAddr 52 (.tmp 11) 2, some (116, true)⟩,
    ⟨some 119, .load 3 (.tmp 118), some (116, true)⟩,
    ⟨some 120, .indexAddr 22 (.tmp 117) (.tmp 119), some (116, true)⟩,
    ⟨some 121, .fieldAddr 52 (.tmp 120) 0, some (116, true)⟩,
    ⟨some 122, .load 3 (.tmp 121), some (116, true)⟩,
    ⟨some 123, .binOp .eql 3 (.tmp 122) (.const (.int .i64 1)) 3, some (116, true)⟩,
    ⟨some 124, .pick (.tmp 116) (.tmp 123) (.const (.bool false)), none⟩] [])
  (.cond (.tmp 124) (.seq (.reg [⟨some 126, .move (.tmp 0), none⟩,
    ⟨some 127, .move (.tmp 1), none⟩,
    ⟨some 128, .move (.tmp 0), none⟩,
    ⟨some 129, .fieldAddr 52 (.tmp 11) 2, none⟩,
    ⟨some 130, .load 3 (.tmp 129), none⟩,
    ⟨some 131, .indexAddr 22 (.tmp 128) (.tmp 130), none⟩,
    ⟨some 132, .fieldAddr 52 (.tmp 131) 3, none⟩,
    ⟨some 133, .load 25 (.tmp 132), none⟩,
    ⟨some 134, .move (.tmp 3), none⟩,
    ⟨some 135, .call { callee := .value (.func 66), args := #[.tmp 127, .tmp 133, .tmp 134], argTypes := #[3, 25, 25] }, none⟩,
    ⟨some 136, .call { callee := .value (.func 61), args := #[.tmp 126, .tmp 135], argTypes := #[22, 25] }, none⟩,
    ⟨some 125, .move (.tmp 136), none⟩,
    ⟨some 137, .extract (.tmp 125) 0, none⟩,
    ⟨some 138, .extract (.tmp 125) 1, none⟩,
    ⟨some 12, .assign (.tmp 137), none⟩,
    ⟨some 13, .assign (.tmp 138), none⟩] [])
  (.seq (.reg [⟨some 139, .move (.tmp 12), none⟩,
    ⟨some 140, .move (.tmp 1), none⟩,
    ⟨some 141, .fieldAddr 52 (.tmp 11) 1, none⟩,
    ⟨some 142, .load 3 (.tmp 141), none⟩,
    ⟨some 143, .move (.tmp 13), none⟩,
    ⟨some 144, .call { callee := .value (.func 35), args := #[.tmp 139, .tmp 140, .tmp 142, .tmp 143], argTypes := #[22, 3, 3, 3] }, none⟩,
    ⟨some 145, .extract (.tmp 144) 0, none⟩,
    ⟨some 146, .extract (.tmp 144) 1, none⟩,
    ⟨some 8, .assign (.tmp 145), none⟩,
    ⟨some 9, .assign (.tmp 146), none⟩] [])
  .ret)) .skip))
  (.seq (.reg [⟨some 148, .move (.tmp 0), none⟩,
    ⟨some 149, .move (.tmp 3), none⟩,
    ⟨some 150, .call { callee := .value (.func 61), args := #[.tmp 148, .tmp 149], argTypes := #[22, 25] }, none⟩,
    ⟨some 147, .move (.tmp 150), none⟩,
    ⟨some 151, .extract (.tmp 147) 0, none⟩,
    ⟨some 152, .extract (.tmp 147) 1, none⟩,
    ⟨some 14, .assign (.tmp 151), none⟩,
    ⟨some 15, .assign (.tmp 152), none⟩] [])
  (.seq (.reg [⟨some 153, .move (.tmp 14), none⟩,
    ⟨some 154, .move (.tmp 1), none⟩,
    ⟨some 155, .binOp .add 3 (.const (.int .i64 256)) (.tmp 154) 3, none⟩,
    ⟨some 156, .move (.tmp 2), none⟩,
    ⟨some 157, .move (.tmp 15), none⟩,
    ⟨some 158, .build 52 #[(0, .tmp 155), (1, .tmp 156), (2, .tmp 157)], none⟩,
    ⟨some 159, .call { callee := .value (.func 56), args := #[.tmp 153, .tmp 158], argTypes := #[22, 52] }, none⟩,
    ⟨some 160, .extract (.tmp 159) 0, none⟩,
    ⟨some 161, .extract (.tmp 159) 1, none⟩,
    ⟨some 8, .assign (.tmp 160), none⟩,
    ⟨some 9, .assign (.tmp 161), none⟩] [])
  .ret))))))))))
theorem S68_eq : slimF Try.prog 68 = some (162, [.tmp 8, .tmp 9], S68) := by kernel_rfl

/-- slices.Clone[[]tamis/api.Node,tamis/api.Node] -/
def S69 : SC :=
  (.seq (.reg [⟨some 2, .assign (.const (.slice none 0 0)), none⟩] [])
  (.seq (.seq (.reg [⟨some 3, .move (.tmp 0), none⟩,
    ⟨some 4, .binOp .eql 22 (.tmp 3) (.const (.slice none 0 0)) 22, none⟩] [])
  (.cond (.tmp 4) (.seq (.reg [⟨some 2, .assign (.const (.slice none 0 0)), none⟩] [])
  .ret) .skip))
  (.seq (.reg [⟨some 5, .buildSlice 22 0 #[], none⟩,
    ⟨some 6, .move (.tmp 0), none⟩,
    ⟨some 7, .call { callee := .builtin .append, args := #[.tmp 5, .tmp 6], argTypes := #[22, 22] }, none⟩,
    ⟨some 2, .assign (.tmp 7), none⟩] [])
  .ret)))
theorem S69_eq : slimF Try.prog 69 = some (8, [.tmp 2], S69) := by kernel_rfl

def S70L1 : SC :=
  (.seq (.reg [⟨some 17, .binOp .lss 3 (.tmp 16) (.tmp 15) 3, none⟩] [])
  (.seq (.cond (.tmp 17) .skip (.exit 0))
  (.seq (.block 1 (.seq (.reg [⟨some 18, .move (.tmp 16), none⟩,
    ⟨some 19, .indexAddr 22 (.tmp 14) (.tmp 16), none⟩,
    ⟨some 20, .load 52 (.tmp 19), none⟩,
    ⟨some 7, .alloc 52, none⟩,
    ⟨some 6, .assign (.tmp 18), none⟩,
    ⟨none, .store 52 (.tmp 7) (.tmp 20), none⟩] [])
  (.seq (.reg [⟨some 21, .fieldAddr 52 (.tmp 7) 0, none⟩,
    ⟨some 22, .load 3 (.tmp 21), none⟩] [])
  (.block 2 (.seq (.seq (.reg [⟨some 42, .binOp .eql 3 (.tmp 22) (.const (.int .i64 1)) 3, none⟩,
    ⟨some 41, .assign (.tmp 42), none⟩] [])
  (.cond (.tmp 41) .skip (.reg [⟨some 43, .binOp .eql 3 (.tmp 22) (.const (.int .i64 2)) 3, none⟩,
    ⟨some 41, .assign (.tmp 43), none⟩] [])))
  (.cond (.tmp 41) (.reg [⟨some 44, .move (.tmp 5), none⟩,
    ⟨some 45, .move (.tmp 6), none⟩,
    ⟨some 46, .move (.tmp 4), none⟩,
    ⟨some 47, .load 52 (.tmp 7), none⟩,
    ⟨some 48, .call { callee := .value (.func 91), args := #[.tmp 46, .tmp 47], argTypes := #[108, 52] }, none⟩,
    ⟨some 49, .indexAddr 37 (.tmp 44) (.tmp 45), none⟩,
    ⟨none, .store 3 (.tmp 49) (.tmp 48), none⟩] []) (.reg [⟨some 23, .move (.tmp 5), none⟩,
    ⟨some 24, .move (.tmp 6), none⟩,
    ⟨some 25, .move (.tmp 4), none⟩,
    ⟨some 26, .fieldAddr 52 (.tmp 7) 0, none⟩,
    ⟨some 27, .load 3 (.tmp 26), none⟩,
    ⟨some 28, .binOp .sub 3 (.tmp 27) (.const (.int .i64 256)) 3, none⟩,
    ⟨some 29, .move (.tmp 5), none⟩,
    ⟨some 30, .fieldAddr 52 (.tmp 7) 1, none⟩,
    ⟨some 31, .load 3 (.tmp 30), none⟩,
    ⟨some 32, .indexAddr 37 (.tmp 29) (.tmp 31), none⟩,
    ⟨some 33, .load 3 (.tmp 32), none⟩,
    ⟨some 34, .move (.tmp 5), none⟩,
    ⟨some 35, .fieldAddr 52 (.tmp 7) 2, none⟩,
    ⟨some 36, .load 3 (.tmp 35), none⟩,
    ⟨some 37, .indexAddr 37 (.tmp 34) (.tmp 36), none⟩,
    ⟨some 38, .load 3 (.tmp 37), none⟩,
    ⟨some 39, .call { callee := .value (.func 65), args := #[.tmp 25, .tmp 28, .tmp 33, .tmp 38], argTypes := #[108, 3, 3, 3] }, none⟩,
    ⟨some 40, .indexAddr 37 (.tmp 23) (.tmp 24), none⟩,
    ⟨none, .store 3 (.tmp 40) (.tmp 39), none⟩] [])))))))
  (.reg [⟨some 50, .binOp .add 3 (.tmp 16) (.const (.int .i64 1)) 3, none⟩,
    ⟨some 16, .move (.tmp 50), none⟩] []))))
/-- tamis/simp.anew -/
def S70 : SC :=
  (.seq (.reg [⟨some 2, .assign (.const (.pointer none)), none⟩,
    ⟨some 3, .assign (.const (.slice none 0 0)), none⟩] [])
  (.seq (.reg [⟨some 8, .call { callee := .value (.func 47), args := #[], argTypes := #[] }, none⟩,
    ⟨some 9, .build 110 #[(0, .tmp 8)], none⟩,
    ⟨some 10, .box 110 (.tmp 9), none⟩,
    ⟨some 4, .assign (.tmp 10), none⟩] [])
  (.seq (.reg [⟨some 11, .move (.tmp 0), none⟩,
    ⟨some 12, .call { callee := .builtin .len, args := #[.tmp 11], argTypes := #[22] }, none⟩,
    ⟨some 13, .makeSlice 37 (.tmp 12) (.tmp 12), none⟩,
    ⟨some 5, .assign (.tmp 13), none⟩] [])
  (.seq (.seq (.reg [⟨some 14, .move (.tmp 0), none⟩,
    ⟨some 15, .call { callee := .builtin .len, args := #[.tmp 14], argTypes := #[22] }, none⟩,
    ⟨some 16, .move (.const (.int .i64 0)), none⟩] [])
  (.block 0 (.loop S70L1)))
  (.seq (.reg [⟨some 51, .move (.tmp 4), none⟩,
    ⟨some 52, .nilCheck (.tmp 51), none⟩,
    ⟨some 53, .fieldAddr 110 (.tmp 52) 0, none⟩,
    ⟨some 54, .load 40 (.tmp 53), none⟩,
    ⟨some 55, .move (.tmp 5), none⟩,
    ⟨some 2, .assign (.tmp 54), none⟩,
    ⟨some 3, .assign (.tmp 55), none⟩] [])
  .ret)))))
theorem S70_eq : slimF Try.prog 70 = some (56, [.tmp 2, .tmp 3], S70) := by kernel_rfl

def S71L1 : SC :=
  (.seq (.reg [⟨some 27, .binOp .lss 3 (.tmp 26) (.tmp 25) 3, none⟩] [])
  (.seq (.cond (.tmp 27) .skip (.exit 0))
  (.seq (.block 1 (.seq (.reg [⟨some 28, .move (.tmp 26), none⟩,
    ⟨some 29, .indexAddr 74 (.tmp 24) (.tmp 26), none⟩,
    ⟨some 30, .load 4 (.tmp 29), none⟩,
    ⟨some 9, .assign (.tmp 28), none⟩,
    ⟨some 10, .assign (.tmp 30), none⟩] [])
  (.seq (.reg [⟨some 31, .move (.tmp 10), none⟩] [])
  (.cond (.tmp 31) (.seq (.reg [⟨some 32, .move (.tmp 8), none⟩,
    ⟨some 33, .move (.tmp 9), none⟩,
    ⟨some 34, .move (.tmp 4), none⟩,
    ⟨some 35, .call { callee := .builtin .len, args := #[.tmp 34], argTypes := #[22] }, none⟩,
    ⟨some 36, .indexAddr 37 (.tmp 32) (.tmp 33), none⟩,
    ⟨none, .store 3 (.tmp 36) (.tmp 35), none⟩] [])
  (.reg [⟨some 37, .move (.tmp 4), none⟩,
    ⟨some 38, .move (.tmp 0), none⟩,
    ⟨some 39, .move (.tmp 9), none⟩,
    ⟨some 40, .indexAddr 22 (.tmp 38) (.tmp 39), none⟩,
    ⟨some 41, .load 52 (.tmp 40), none⟩,
    ⟨some 42, .move (.tmp 8), none⟩,
    ⟨some 43, .call { callee := .value (.func 93), args := #[.tmp 41, .tmp 42], argTypes := #[52, 37] }, none⟩,
    ⟨some 44, .buildSlice 22 1 #[(0, .tmp 43)], none⟩,
    ⟨some 45, .call { callee := .builtin .append, args := #[.tmp 37, .tmp 44], argTypes := #[22, 22] }, none⟩,
    ⟨some 4, .assign (.tmp 45), none⟩] [])) .skip))))
  (.reg [⟨some 46, .binOp .add 3 (.tmp 26) (.const (.int .i64 1)) 3, none⟩,
    ⟨some 26, .move (.tmp 46), none⟩] []))))
def S71L2 : SC :=
  (.seq (.reg [⟨some 50, .binOp .lss 3 (.tmp 49) (.tmp 48) 3, none⟩] [])
  (.seq (.cond (.tmp 50) .skip (.exit 2))
  (.seq (.block 3 (.seq (.reg [⟨some 51, .indexAddr 37 (.tmp 47) (.tmp 49), none⟩,
    ⟨some 52, .load 3 (.tmp 51), none⟩,
    ⟨some 12, .assign (.tmp 52), none⟩] [])
  (.reg [⟨some 53, .move (.tmp 5), none⟩,
    ⟨some 54, .move (.tmp 8), none⟩,
    ⟨some 55, .move (.tmp 12), none⟩,
    ⟨some 56, .indexAddr 37 (.tmp 54) (.tmp 55), none⟩,
    ⟨some 57, .load 3 (.tmp 56), none⟩,
    ⟨some 58, .buildSlice 37 1 #[(0, .tmp 57)], none⟩,
    ⟨some 59, .call { callee := .builtin .append, args := #[.tmp 53, .tmp 58], argTypes := #[37, 37] }, none⟩,
    ⟨some 5, .assign (.tmp 59), none⟩] [])))
  (.reg [⟨some 60, .binOp .add 3 (.tmp 49) (.const (.int .i64 1)) 3, none⟩,
    ⟨some 49, .move (.tmp 60), none⟩] []))))
/-- tamis/term.Only -/
def S71 : SC :=
  (.seq (.reg [⟨some 4, .assign (.const (.slice none 0 0)), none⟩,
    ⟨some 5, .assign (.const (.slice none 0 0)), none⟩,
    ⟨some 6, .assign (.const (.int .i64 0)), none⟩] [])
  (.seq (.seq (.reg [⟨some 13, .move (.tmp 0), none⟩,
    ⟨some 14, .move (.tmp 1), none⟩,
    ⟨some 15, .call { callee := .value (.func 74), args := #[.tmp 13, .tmp 14], argTypes := #[22, 37] }, none⟩,
    ⟨some 7, .assign (.tmp 15), none⟩] [])
  (.seq (.reg [⟨some 16, .move (.tmp 7), none⟩,
    ⟨some 17, .binOp .neq 30 (.tmp 16) (.const (.int .i64 0)) 30, none⟩] [])
  (.cond (.tmp 17) (.seq (.reg [⟨some 18, .move (.tmp 7), none⟩,
    ⟨some 4, .assign (.const (.slice none 0 0)), none⟩,
    ⟨some 5, .assign (.const (.slice none 0 0)), none⟩,
    ⟨some 6, .assign (.tmp 18), none⟩] [])
  .ret) .skip)))
  (.seq (.reg [⟨some 19, .move (.tmp 0), none⟩,
    ⟨some 20, .call { callee := .builtin .len, args := #[.tmp 19], argTypes := #[22] }, none⟩,
    ⟨some 21, .makeSlice 37 (.tmp 20) (.tmp 20), none⟩,
    ⟨some 8, .assign (.tmp 21), none⟩] [])
  (.seq (.seq (.reg [⟨some 22, .move (.tmp 0), none⟩,
    ⟨some 23, .move (.tmp 1), none⟩,
    ⟨some 24, .call { callee := .value (.func 92), args := #[.tmp 22, .tmp 23], argTypes := #[22, 37] }, none⟩,
    ⟨some 25, .call { callee := .builtin .len, args := #[.tmp 24], argTypes := #[74] }, none⟩,
    ⟨some 26, .move (.const (.int .i64 0)), none⟩] [])
  (.block 0 (.loop S71L1)))
  (.seq (.seq (.reg [⟨some 47, .move (.tmp 1), none⟩,
    ⟨some 48, .call { callee := .builtin .len, args := #[.tmp 47], argTypes := #[37] }, none⟩,
    ⟨some 49, .move (.const (.int .i64 0)), none⟩] [])
  (.block 2 (.loop S71L2)))
  (.seq (.reg [⟨some 61, .move (.tmp 4), none⟩,
    ⟨some 62, .move (.tmp 5), none⟩,
    ⟨some 4, .assign (.tmp 61), none⟩,
    ⟨some 5, .assign (.tmp 62), none⟩,
    ⟨some 6, .assign (.const (.int .i64 0)), none⟩] [])
  .ret))))))
theorem S71_eq : slimF Try.prog 71 = some (63, [.tmp 4, .tmp 5, .tmp 6], S71) := by kernel_rfl

/-- tamis/tamisref11.Parts -/
def S72 : SC :=
  (.seq (.reg [⟨some 1, .box 52 (.tmp 0), none⟩,
    ⟨some 2, .assign (.const (.slice none 0 0)), none⟩] [])
  (.seq (.seq (.reg [⟨some 3, .fieldAddr 52 (.tmp 1) 0, none⟩,
    ⟨some 4, .load 3 (.tmp 3), none⟩,
    ⟨some 5, .binOp .leq 3 (.tmp 4) (.const (.int .i64 2)) 3, none⟩] [])
  (.cond (.tmp 5) (.seq (.reg [⟨some 2, .assign (.const (.slice none 0 0)), none⟩] [])
  .ret) .skip))
  (.seq (.seq (.reg [⟨some 6, .fieldAddr 52 (.tmp 1) 0, none⟩,
    ⟨some 7, .load 3 (.tmp 6), none⟩,
    ⟨some 8, .binOp .eql 3 (.tmp 7) (.const (.int .i64 384)) 3, none⟩] [])
  (.cond (.tmp 8) (.seq (.reg [⟨some 9, .fieldAddr 52 (.tmp 1) 1, none⟩,
    ⟨some 10, .load 3 (.tmp 9), none⟩,
    ⟨some 11, .buildSlice 37 1 #[(0, .tmp 10)], none⟩,
    ⟨some 2, .assign (.tmp 11), none⟩] [])
  .ret) .skip))
  (.seq (.reg [⟨some 12, .fieldAddr 52 (.tmp 1) 1, none⟩,
    ⟨some 13, .load 3 (.tmp 12), none⟩,
    ⟨some 14, .fieldAddr 52 (.tmp 1) 2, none⟩,
    ⟨some 15, .load 3 (.tmp 14), none⟩,
    ⟨some 16, .buildSlice 37 2 #[(0, .tmp 13), (1, .tmp 15)], none⟩,
    ⟨some 2, .assign (.tmp 16), none⟩] [])
  .ret))))
theorem S72_eq : slimF Try.prog 72 = some (17, [.tmp 2], S72) := by kernel_rfl

/-- (*tamis/simp.maker).number -/
def S73 : SC :=
  (.seq (.reg [⟨some 4, .assign (.const (.int .i64 0)), none⟩] [])
  (.seq (.reg [⟨some 5, .move (.tmp 0), none⟩,
    ⟨some 6, .move (.tmp 1), none⟩,
    ⟨some 7, .build 52 #[(0, .const (.int .i64 1)), (3, .tmp 6)], none⟩,
    ⟨some 8, .call { callee := .value (.func 91), args := #[.tmp 5, .tmp 7], argTypes := #[108, 52] }, none⟩,
    ⟨some 4, .assign (.tmp 8), none⟩] [])
  .ret))
theorem S73_eq : slimF Try.prog 73 = some (9, [.tmp 4], S73) := by kernel_rfl

def S74L1 : SC :=
  (.seq (.reg [⟨some 19, .binOp .lss 3 (.tmp 18) (.tmp 17) 3, none⟩] [])
  (.seq (.cond (.tmp 19) .skip (.exit 0))
  (.seq (.block 1 (.seq (.reg [⟨some 20, .indexAddr 37 (.tmp 16) (.tmp 18), none⟩,
    ⟨some 21, .load 3 (.tmp 20), none⟩,
    ⟨some 8, .assign (.tmp 21), none⟩] [])
  (.seq (.reg [⟨some 22, .move (.tmp 8), none⟩,
    ⟨some 23, .binOp .lss 3 (.tmp 22) (.const (.int .i64 0)) 3, none⟩,
    ⟨some 24, .move (.tmp 23), none⟩,
    ⟨some 25, .move (.tmp 8), some (24, false)⟩,
    ⟨some 26, .move (.tmp 0), some (24, false)⟩,
    ⟨some 27, .call { callee := .builtin .len, args := #[.tmp 26], argTypes := #[22] }, some (24, false)⟩,
    ⟨some 28, .binOp .geq 3 (.tmp 25) (.tmp 27) 3, some (24, false)⟩,
    ⟨some 29, .pick (.tmp 24) (.const (.bool true)) (.tmp 28), none⟩] [])
  (.cond (.tmp 29) (.seq (.reg [⟨some 4, .assign (.const (.int .i64 2)), none⟩] [])
  .ret) .skip))))
  (.reg [⟨some 30, .binOp .add 3 (.tmp 18) (.const (.int .i64 1)) 3, none⟩,
    ⟨some 18, .move (.tmp 30), none⟩] []))))
/-- tamis/term.asked -/
def S74 : SC :=
  (.seq (.reg [⟨some 4, .assign (.const (.int .i64 0)), none⟩] [])
  (.seq (.seq (.reg [⟨some 10, .move (.tmp 0), none⟩,
    ⟨some 11, .call { callee := .value (.func 52), args := #[.tmp 10], argTypes := #[22] }, none⟩,
    ⟨some 9, .move (.tmp 11), none⟩,
    ⟨some 12, .extract (.tmp 9) 0, none⟩,
    ⟨some 13, .extract (.tmp 9) 1, none⟩,
    ⟨some 5, .assign (.tmp 12), none⟩,
    ⟨some 6, .assign (.tmp 13), none⟩] [])
  (.seq (.reg [⟨some 14, .move (.tmp 6), none⟩,
    ⟨some 15, .binOp .neq 30 (.tmp 14) (.const (.int .i64 0)) 30, none⟩] [])
  (.cond (.tmp 15) (.seq (.reg [⟨some 4, .assign (.const (.int .i64 3)), none⟩] [])
  .ret) .skip)))
  (.seq (.seq (.reg [⟨some 16, .move (.tmp 1), none⟩,
    ⟨some 17, .call { callee := .builtin .len, args := #[.tmp 16], argTypes := #[37] }, none⟩,
    ⟨some 18, .move (.const (.int .i64 0)), none⟩] [])
  (.block 0 (.loop S74L1)))
  (.seq (.reg [⟨some 4, .assign (.const (.int .i64 0)), none⟩] [])
  .ret))))
theorem S74_eq : slimF Try.prog 74 = some (31, [.tmp 4], S74) := by kernel_rfl

/-- tamis/term.value -/
def S75 : SC :=
  (.seq (.reg [⟨some 3, .box 52 (.tmp 0), none⟩,
    ⟨some 6, .assign (.const (.int .u32 0)), none⟩] [])
  (.seq (.seq (.reg [⟨some 9, .fieldAddr 52 (.tmp 3) 0, none⟩,
    ⟨some 10, .load 3 (.tmp 9), none⟩] [])
  (.block 0 (.seq (.reg [⟨some 12, .binOp .eql 3 (.tmp 10) (.const (.int .i64 1)) 3, none⟩,
    ⟨some 11, .assign (.tmp 12), none⟩] [])
  (.cond (.tmp 11) (.seq (.reg [⟨some 13, .fieldAddr 52 (.tmp 3) 3, none⟩,
    ⟨some 14, .load 25 (.tmp 13), none⟩,
    ⟨some 6, .assign (.tmp 14), none⟩] [])
  .ret) (.seq (.reg [⟨some 16, .binOp .eql 3 (.tmp 10) (.const (.int .i64 2)) 3, none⟩,
    ⟨some 15, .assign (.tmp 16), none⟩] [])
  (.cond (.tmp 15) (.seq (.reg [⟨some 17, .move (.tmp 2), none⟩,
    ⟨some 18, .fieldAddr 52 (.tmp 3) 3, none⟩,
    ⟨some 19, .load 25 (.tmp 18), none⟩,
    ⟨some 20, .nilCheck (.tmp 17), none⟩,
    ⟨some 21, .indexAddr 27 (.tmp 20) (.tmp 19), none⟩,
    ⟨some 22, .load 25 (.tmp 21), none⟩,
    ⟨some 6, .assign (.tmp 22), none⟩] [])
  .ret) .skip))))))
  (.seq (.reg [⟨some 24, .fieldAddr 52 (.tmp 3) 0, none⟩,
    ⟨some 25, .load 3 (.tmp 24), none⟩,
    ⟨some 26, .binOp .sub 3 (.tmp 25) (.const (.int .i64 256)) 3, none⟩,
    ⟨some 27, .move (.tmp 1), none⟩,
    ⟨some 28, .fieldAddr 52 (.tmp 3) 1, none⟩,
    ⟨some 29, .load 3 (.tmp 28), none⟩,
    ⟨some 30, .indexAddr 69 (.tmp 27) (.tmp 29), none⟩,
    ⟨some 31, .load 25 (.tmp 30), none⟩,
    ⟨some 32, .move (.tmp 1), none⟩,
    ⟨some 33, .fieldAddr 52 (.tmp 3) 2, none⟩,
    ⟨some 34, .load 3 (.tmp 33), none⟩,
    ⟨some 35, .indexAddr 69 (.tmp 32) (.tmp 34), none⟩,
    ⟨some 36, .load 25 (.tmp 35), none⟩,
    ⟨some 37, .call { callee := .value (.func 94), args := #[.tmp 26, .tmp 31, .tmp 36], argTypes := #[3, 25, 25] }, none⟩,
    ⟨some 23, .move (.tmp 37), none⟩,
    ⟨some 38, .extract (.tmp 23) 0, none⟩,
    ⟨some 39, .extract (.tmp 23) 1, none⟩,
    ⟨some 7, .assign (.tmp 38), none⟩,
    ⟨some 8, .assign (.tmp 39), none⟩] [])
  (.seq (.reg [⟨some 40, .move (.tmp 7), none⟩,
    ⟨some 6, .assign (.tmp 40), none⟩] [])
  .ret))))
theorem S75_eq : slimF Try.prog 75 = some (41, [.tmp 6], S75) := by kernel_rfl

/-- tamis/term.may -/
def S76 : SC :=
  (.seq (.reg [⟨some 2, .box 52 (.tmp 0), none⟩,
    ⟨some 4, .assign (.const (.bool false)), none⟩] [])
  (.seq (.block 0 (.seq (.reg [⟨some 6, .fieldAddr 52 (.tmp 2) 0, none⟩,
    ⟨some 7, .load 3 (.tmp 6), none⟩,
    ⟨some 8, .binOp .eql 3 (.tmp 7) (.const (.int .i64 1)) 3, none⟩,
    ⟨some 5, .assign (.tmp 8), none⟩] [])
  (.cond (.tmp 5) (.seq (.reg [⟨some 9, .fieldAddr 52 (.tmp 2) 1, none⟩,
    ⟨some 10, .load 3 (.tmp 9), none⟩,
    ⟨some 11, .binOp .eql 3 (.tmp 10) (.const (.int .i64 0)) 3, none⟩,
    ⟨some 12, .move (.tmp 11), none⟩,
    ⟨some 13, .fieldAddr 52 (.tmp 2) 2, some (12, true)⟩,
    ⟨some 14, .load 3 (.tmp 13), some (12, true)⟩,
    ⟨some 15, .binOp .eql 3 (.tmp 14) (.const (.int .i64 0)) 3, some (12, true)⟩,
    ⟨some 16, .pick (.tmp 12) (.tmp 15) (.const (.bool false)), none⟩,
    ⟨some 4, .assign (.tmp 16), none⟩] [])
  .ret) (.seq (.reg [⟨some 18, .fieldAddr 52 (.tmp 2) 0, none⟩,
    ⟨some 19, .load 3 (.tmp 18), none⟩,
    ⟨some 20, .binOp .eql 3 (.tmp 19) (.const (.int .i64 2)) 3, none⟩,
    ⟨some 17, .assign (.tmp 20), none⟩] [])
  (.cond (.tmp 17) (.seq (.reg [⟨some 21, .fieldAddr 52 (.tmp 2) 1, none⟩,
    ⟨some 22, .load 3 (.tmp 21), none⟩,
    ⟨some 23, .binOp .eql 3 (.tmp 22) (.const (.int .i64 0)) 3, none⟩,
    ⟨some 24, .move (.tmp 23), none⟩,
    ⟨some 25, .fieldAddr 52 (.tmp 2) 2, some (24, true)⟩,
    ⟨some 26, .load 3 (.tmp 25), some (24, true)⟩,
    ⟨some 27, .binOp .eql 3 (.tmp 26) (.const (.int .i64 0)) 3, some (24, true)⟩,
    ⟨some 28, .pick (.tmp 24) (.tmp 27) (.const (.bool false)), none⟩,
    ⟨some 29, .move (.tmp 28), none⟩,
    ⟨some 30, .fieldAddr 52 (.tmp 2) 3, some (29, true)⟩,
    ⟨some 31, .load 25 (.tmp 30), some (29, true)⟩,
    ⟨some 32, .binOp .lss 25 (.tmp 31) (.const (.int .u32 16)) 25, some (29, true)⟩,
    ⟨some 33, .pick (.tmp 29) (.tmp 32) (.const (.bool false)), none⟩,
    ⟨some 4, .assign (.tmp 33), none⟩] [])
  .ret) (.seq (.reg [⟨some 35, .fieldAddr 52 (.tmp 2) 0, none⟩,
    ⟨some 36, .load 3 (.tmp 35), none⟩,
    ⟨some 37, .call { callee := .value (.func 95), args := #[.tmp 36], argTypes := #[3] }, none⟩,
    ⟨some 38, .unOp .not 4 (.tmp 37), none⟩,
    ⟨some 39, .move (.tmp 38), none⟩,
    ⟨some 40, .fieldAddr 52 (.tmp 2) 3, some (39, false)⟩,
    ⟨some 41, .load 25 (.tmp 40), some (39, false)⟩,
    ⟨some 42, .binOp .neq 25 (.tmp 41) (.const (.int .u32 0)) 25, some (39, false)⟩,
    ⟨some 43, .pick (.tmp 39) (.const (.bool true)) (.tmp 42), none⟩,
    ⟨some 44, .move (.tmp 43), none⟩,
    ⟨some 45, .fieldAddr 52 (.tmp 2) 1, some (44, false)⟩,
    ⟨some 46, .load 3 (.tmp 45), some (44, false)⟩,
    ⟨some 47, .binOp .lss 3 (.tmp 46) (.const (.int .i64 0)) 3, some (44, false)⟩,
    ⟨some 48, .pick (.tmp 44) (.const (.bool true)) (.tmp 47), none⟩,
    ⟨some 49, .move (.tmp 48), none⟩,
    ⟨some 50, .fieldAddr 52 (.tmp 2) 1, some (49, false)⟩,
    ⟨some 51, .load 3 (.tmp 50), some (49, false)⟩,
    ⟨some 52, .move (.tmp 1), some (49, false)⟩,
    ⟨some 53, .binOp .geq 3 (.tmp 51) (.tmp 52) 3, some (49, false)⟩,
    ⟨some 54, .pick (.tmp 49) (.const (.bool true)) (.tmp 53), none⟩,
    ⟨some 34, .assign (.tmp 54), none⟩] [])
  (.cond (.tmp 34) (.seq (.reg [⟨some 4, .assign (.const (.bool false)), none⟩] [])
  .ret) (.seq (.reg [⟨some 56, .fieldAddr 52 (.tmp 2) 0, none⟩,
    ⟨some 57, .load 3 (.tmp 56), none⟩,
    ⟨some 58, .binOp .eql 3 (.tmp 57) (.const (.int .i64 384)) 3, none⟩,
    ⟨some 55, .assign (.tmp 58), none⟩] [])
  (.cond (.tmp 55) (.seq (.reg [⟨some 59, .fieldAddr 52 (.tmp 2) 2, none⟩,
    ⟨some 60, .load 3 (.tmp 59), none⟩,
    ⟨some 61, .binOp .eql 3 (.tmp 60) (.const (.int .i64 0)) 3, none⟩,
    ⟨some 4, .assign (.tmp 61), none⟩] [])
  .ret) .skip)))))))))
  (.seq (.reg [⟨some 62, .fieldAddr 52 (.tmp 2) 2, none⟩,
    ⟨some 63, .load 3 (.tmp 62), none⟩,
    ⟨some 64, .binOp .geq 3 (.tmp 63) (.const (.int .i64 0)) 3, none⟩,
    ⟨some 65, .move (.tmp 64), none⟩,
    ⟨some 66, .fieldAddr 52 (.tmp 2) 2, some (65, true)⟩,
    ⟨some 67, .load 3 (.tmp 66), some (65, true)⟩,
    ⟨some 68, .move (.tmp 1), some (65, true)⟩,
    ⟨some 69, .binOp .lss 3 (.tmp 67) (.tmp 68) 3, some (65, true)⟩,
    ⟨some 70, .pick (.tmp 65) (.tmp 69) (.const (.bool false)), none⟩,
    ⟨some 4, .assign (.tmp 70), none⟩] [])
  .ret)))
theorem S76_eq : slimF Try.prog 76 = some (71, [.tmp 4], S76) := by kernel_rfl

/-- tamis/tamisref11.May -/
def S77 : SC :=
  (.seq (.reg [⟨some 2, .box 52 (.tmp 0), none⟩,
    ⟨some 4, .assign (.const (.bool false)), none⟩] [])
  (.seq (.seq (.reg [⟨some 5, .fieldAddr 52 (.tmp 2) 0, none⟩,
    ⟨some 6, .load 3 (.tmp 5), none⟩,
    ⟨some 7, .binOp .eql 3 (.tmp 6) (.const (.int .i64 1)) 3, none⟩] [])
  (.cond (.tmp 7) (.seq (.reg [⟨some 8, .fieldAddr 52 (.tmp 2) 1, none⟩,
    ⟨some 9, .load 3 (.tmp 8), none⟩,
    ⟨some 10, .binOp .eql 3 (.tmp 9) (.const (.int .i64 0)) 3, none⟩,
    ⟨some 11, .move (.tmp 10), none⟩,
    ⟨some 12, .fieldAddr 52 (.tmp 2) 2, some (11, true)⟩,
    ⟨some 13, .load 3 (.tmp 12), some (11, true)⟩,
    ⟨some 14, .binOp .eql 3 (.tmp 13) (.const (.int .i64 0)) 3, some (11, true)⟩,
    ⟨some 15, .pick (.tmp 11) (.tmp 14) (.const (.bool false)), none⟩,
    ⟨some 4, .assign (.tmp 15), none⟩] [])
  .ret) .skip))
  (.seq (.seq (.reg [⟨some 16, .fieldAddr 52 (.tmp 2) 0, none⟩,
    ⟨some 17, .load 3 (.tmp 16), none⟩,
    ⟨some 18, .binOp .eql 3 (.tmp 17) (.const (.int .i64 2)) 3, none⟩] [])
  (.cond (.tmp 18) (.seq (.reg [⟨some 19, .fieldAddr 52 (.tmp 2) 1, none⟩,
    ⟨some 20, .load 3 (.tmp 19), none⟩,
    ⟨some 21, .binOp .eql 3 (.tmp 20) (.const (.int .i64 0)) 3, none⟩,
    ⟨some 22, .move (.tmp 21), none⟩,
    ⟨some 23, .fieldAddr 52 (.tmp 2) 2, some (22, true)⟩,
    ⟨some 24, .load 3 (.tmp 23), some (22, true)⟩,
    ⟨some 25, .binOp .eql 3 (.tmp 24) (.const (.int .i64 0)) 3, some (22, true)⟩,
    ⟨some 26, .pick (.tmp 22) (.tmp 25) (.const (.bool false)), none⟩,
    ⟨some 27, .move (.tmp 26), none⟩,
    ⟨some 28, .fieldAddr 52 (.tmp 2) 3, some (27, true)⟩,
    ⟨some 29, .load 25 (.tmp 28), some (27, true)⟩,
    ⟨some 30, .binOp .leq 25 (.tmp 29) (.const (.int .u32 15)) 25, some (27, true)⟩,
    ⟨some 31, .pick (.tmp 27) (.tmp 30) (.const (.bool false)), none⟩,
    ⟨some 4, .assign (.tmp 31), none⟩] [])
  .ret) .skip))
  (.seq (.seq (.reg [⟨some 32, .fieldAddr 52 (.tmp 2) 0, none⟩,
    ⟨some 33, .load 3 (.tmp 32), none⟩] [])
  (.block 0 (.seq (.seq (.reg [⟨some 35, .binOp .eql 3 (.tmp 33) (.const (.int .i64 256)) 3, none⟩,
    ⟨some 34, .assign (.tmp 35), none⟩] [])
  (.cond (.tmp 34) .skip (.seq (.reg [⟨some 36, .binOp .eql 3 (.tmp 33) (.const (.int .i64 272)) 3, none⟩,
    ⟨some 34, .assign (.tmp 36), none⟩] [])
  (.cond (.tmp 34) .skip (.seq (.reg [⟨some 37, .binOp .eql 3 (.tmp 33) (.const (.int .i64 288)) 3, none⟩,
    ⟨some 34, .assign (.tmp 37), none⟩] [])
  (.cond (.tmp 34) .skip (.seq (.reg [⟨some 38, .binOp .eql 3 (.tmp 33) (.const (.int .i64 304)) 3, none⟩,
    ⟨some 34, .assign (.tmp 38), none⟩] [])
  (.cond (.tmp 34) .skip (.seq (.reg [⟨some 39, .binOp .eql 3 (.tmp 33) (.const (.int .i64 320)) 3, none⟩,
    ⟨some 34, .assign (.tmp 39), none⟩] [])
  (.cond (.tmp 34) .skip (.seq (.reg [⟨some 40, .binOp .eql 3 (.tmp 33) (.const (.int .i64 336)) 3, none⟩,
    ⟨some 34, .assign (.tmp 40), none⟩] [])
  (.cond (.tmp 34) .skip (.seq (.reg [⟨some 41, .binOp .eql 3 (.tmp 33) (.const (.int .i64 352)) 3, none⟩,
    ⟨some 34, .assign (.tmp 41), none⟩] [])
  (.cond (.tmp 34) .skip (.seq (.reg [⟨some 42, .binOp .eql 3 (.tmp 33) (.const (.int .i64 368)) 3, none⟩,
    ⟨some 34, .assign (.tmp 42), none⟩] [])
  (.cond (.tmp 34) .skip (.seq (.reg [⟨some 43, .binOp .eql 3 (.tmp 33) (.const (.int .i64 384)) 3, none⟩,
    ⟨some 34, .assign (.tmp 43), none⟩] [])
  (.cond (.tmp 34) .skip (.reg [⟨some 44, .binOp .eql 3 (.tmp 33) (.const (.int .i64 416)) 3, none⟩,
    ⟨some 34, .assign (.tmp 44), none⟩] [])))))))))))))))))))
  (.cond (.tmp 34) .skip (.seq (.reg [⟨some 4, .assign (.const (.bool false)), none⟩] [])
  .ret)))))
  (.seq (.seq (.reg [⟨some 45, .fieldAddr 52 (.tmp 2) 3, none⟩,
    ⟨some 46, .load 25 (.tmp 45), none⟩,
    ⟨some 47, .binOp .neq 25 (.tmp 46) (.const (.int .u32 0)) 25, none⟩,
    ⟨some 48, .move (.tmp 47), none⟩,
    ⟨some 49, .fieldAddr 52 (.tmp 2) 1, some (48, false)⟩,
    ⟨some 50, .load 3 (.tmp 49), some (48, false)⟩,
    ⟨some 51, .binOp .lss 3 (.tmp 50) (.const (.int .i64 0)) 3, some (48, false)⟩,
    ⟨some 52, .pick (.tmp 48) (.const (.bool true)) (.tmp 51), none⟩,
    ⟨some 53, .move (.tmp 52), none⟩,
    ⟨some 54, .fieldAddr 52 (.tmp 2) 1, some (53, false)⟩,
    ⟨some 55, .load 3 (.tmp 54), some (53, false)⟩,
    ⟨some 56, .move (.tmp 1), some (53, false)⟩,
    ⟨some 57, .binOp .geq 3 (.tmp 55) (.tmp 56) 3, some (53, false)⟩,
    ⟨some 58, .pick (.tmp 53) (.const (.bool true)) (.tmp 57), none⟩] [])
  (.cond (.tmp 58) (.seq (.reg [⟨some 4, .assign (.const (.bool false)), none⟩] [])
  .ret) .skip))
  (.seq (.seq (.reg [⟨some 59, .fieldAddr 52 (.tmp 2) 0, none⟩,
    ⟨some 60, .load 3 (.tmp 59), none⟩,
    ⟨some 61, .binOp .eql 3 (.tmp 60) (.const (.int .i64 384)) 3, none⟩] [])
  (.cond (.tmp 61) (.seq (.reg [⟨some 62, .fieldAddr 52 (.tmp 2) 2, none⟩,
    ⟨some 63, .load 3 (.tmp 62), none⟩,
    ⟨some 64, .binOp .eql 3 (.tmp 63) (.const (.int .i64 0)) 3, none⟩,
    ⟨some 4, .assign (.tmp 64), none⟩] [])
  .ret) .skip))
  (.seq (.reg [⟨some 65, .fieldAddr 52 (.tmp 2) 2, none⟩,
    ⟨some 66, .load 3 (.tmp 65), none⟩,
    ⟨some 67, .binOp .geq 3 (.tmp 66) (.const (.int .i64 0)) 3, none⟩,
    ⟨some 68, .move (.tmp 67), none⟩,
    ⟨some 69, .fieldAddr 52 (.tmp 2) 2, some (68, true)⟩,
    ⟨some 70, .load 3 (.tmp 69), some (68, true)⟩,
    ⟨some 71, .move (.tmp 1), some (68, true)⟩,
    ⟨some 72, .binOp .lss 3 (.tmp 70) (.tmp 71) 3, some (68, true)⟩,
    ⟨some 73, .pick (.tmp 68) (.tmp 72) (.const (.bool false)), none⟩,
    ⟨some 4, .assign (.tmp 73), none⟩] [])
  .ret)))))))
theorem S77_eq : slimF Try.prog 77 = some (74, [.tmp 4], S77) := by kernel_rfl

/-- (*tamis/term.Pool).put -/
def S78 : SC :=
  (.seq (.reg [⟨some 3, .box 52 (.tmp 1), none⟩,
    ⟨some 4, .assign (.const (.int .i64 0)), none⟩] [])
  (.seq (.reg [⟨some 8, .move (.tmp 0), none⟩,
    ⟨some 9, .nilCheck (.tmp 8), none⟩,
    ⟨some 10, .fieldAddr 118 (.tmp 9) 1, none⟩,
    ⟨some 11, .load 116 (.tmp 10), none⟩,
    ⟨some 12, .load 52 (.tmp 3), none⟩,
    ⟨some 13, .lookup 116 (.tmp 11) (.tmp 12) true, none⟩,
    ⟨some 7, .move (.tmp 13), none⟩,
    ⟨some 14, .extract (.tmp 7) 0, none⟩,
    ⟨some 15, .extract (.tmp 7) 1, none⟩,
    ⟨some 5, .assign (.tmp 14), none⟩,
    ⟨some 6, .assign (.tmp 15), none⟩] [])
  (.seq (.seq (.reg [⟨some 16, .move (.tmp 6), none⟩,
    ⟨some 17, .unOp .not 4 (.tmp 16), none⟩] [])
  (.cond (.tmp 17) (.seq (.reg [⟨some 18, .move (.tmp 0), none⟩,
    ⟨some 19, .nilCheck (.tmp 18), none⟩,
    ⟨some 20, .fieldAddr 118 (.tmp 19) 0, none⟩,
    ⟨some 21, .load 22 (.tmp 20), none⟩,
    ⟨some 22, .call { callee := .builtin .len, args := #[.tmp 21], argTypes := #[22] }, none⟩,
    ⟨some 5, .assign (.tmp 22), none⟩] [])
  (.seq (.reg [⟨some 23, .move (.tmp 0), none⟩,
    ⟨some 24, .nilCheck (.tmp 23), none⟩,
    ⟨some 25, .fieldAddr 118 (.tmp 24) 1, none⟩,
    ⟨some 26, .load 116 (.tmp 25), none⟩,
    ⟨some 27, .load 52 (.tmp 3), none⟩,
    ⟨some 28, .move (.tmp 5), none⟩,
    ⟨none, .mapUpdate 116 (.tmp 26) (.tmp 27) (.tmp 28), none⟩] [])
  (.reg [⟨some 29, .move (.tmp 0), none⟩,
    ⟨some 30, .move (.tmp 0), none⟩,
    ⟨some 31, .nilCheck (.tmp 30), none⟩,
    ⟨some 32, .fieldAddr 118 (.tmp 31) 0, none⟩,
    ⟨some 33, .load 22 (.tmp 32), none⟩,
    ⟨some 34, .load 52 (.tmp 3), none⟩,
    ⟨some 35, .buildSlice 22 1 #[(0, .tmp 34)], none⟩,
    ⟨some 36, .call { callee := .builtin .append, args := #[.tmp 33, .tmp 35], argTypes := #[22, 22] }, none⟩,
    ⟨some 37, .nilCheck (.tmp 29), none⟩,
    ⟨some 38, .fieldAddr 118 (.tmp 37) 0, none⟩,
    ⟨none, .store 22 (.tmp 38) (.tmp 36), none⟩] [(4, 6)]))) .skip))
  (.seq (.reg [⟨some 39, .move (.tmp 5), none⟩,
    ⟨some 4, .assign (.tmp 39), none⟩] [])
  .ret))))
theorem S78_eq : slimF Try.prog 78 = some (40, [.tmp 4], S78) := by kernel_rfl

/-- (*tamis/atom.maker).is -/
def S79 : SC :=
  (.seq (.reg [⟨some 4, .assign (.const (.int .u32 0)), none⟩,
    ⟨some 5, .assign (.const (.bool false)), none⟩] [])
  (.seq (.reg [⟨some 9, .move (.tmp 0), none⟩,
    ⟨some 10, .nilCheck (.tmp 9), none⟩,
    ⟨some 11, .fieldAddr 99 (.tmp 10) 0, none⟩,
    ⟨some 12, .load 40 (.tmp 11), none⟩,
    ⟨some 13, .move (.tmp 1), none⟩,
    ⟨some 14, .call { callee := .value (.func 49), args := #[.tmp 12, .tmp 13], argTypes := #[40, 3] }, none⟩,
    ⟨some 8, .move (.tmp 14), none⟩,
    ⟨some 15, .extract (.tmp 8) 0, none⟩,
    ⟨some 16, .extract (.tmp 8) 1, none⟩,
    ⟨some 6, .alloc 52, none⟩,
    ⟨none, .store 52 (.tmp 6) (.tmp 15), none⟩,
    ⟨some 7, .assign (.tmp 16), none⟩] [])
  (.seq (.reg [⟨some 17, .fieldAddr 52 (.tmp 6) 3, none⟩,
    ⟨some 18, .load 25 (.tmp 17), none⟩,
    ⟨some 19, .fieldAddr 52 (.tmp 6) 0, none⟩,
    ⟨some 20, .load 3 (.tmp 19), none⟩,
    ⟨some 21, .binOp .eql 3 (.tmp 20) (.const (.int .i64 1)) 3, none⟩,
    ⟨some 4, .assign (.tmp 18), none⟩,
    ⟨some 5, .assign (.tmp 21), none⟩] [])
  .ret)))
theorem S79_eq : slimF Try.prog 79 = some (22, [.tmp 4, .tmp 5], S79) := by kernel_rfl

/-- tamis/atom.sure -/
def S80 : SC :=
  (.seq (.reg [⟨some 4, .assign (.const (.int .i64 0)), none⟩] [])
  (.seq (.seq (.reg [⟨some 5, .move (.tmp 0), none⟩,
    ⟨some 6, .move (.tmp 1), none⟩,
    ⟨some 7, .binOp .neq 4 (.tmp 5) (.tmp 6) 4, none⟩] [])
  (.cond (.tmp 7) (.seq (.reg [⟨some 4, .assign (.const (.int .i64 2)), none⟩] [])
  .ret) .skip))
  (.seq (.reg [⟨some 4, .assign (.const (.int .i64 3)), none⟩] [])
  .ret)))
theorem S80_eq : slimF Try.prog 80 = some (8, [.tmp 4], S80) := by kernel_rfl

/-- (tamis/atom.question).flip -/
def S81 : SC :=
  (.seq (.reg [⟨some 1, .box 101 (.tmp 0), none⟩,
    ⟨some 2, .alloc 101, none⟩] [])
  (.seq (.reg [⟨some 3, .fieldAddr 101 (.tmp 1) 2, none⟩,
    ⟨some 4, .load 3 (.tmp 3), none⟩,
    ⟨some 5, .fieldAddr 101 (.tmp 1) 1, none⟩,
    ⟨some 6, .load 3 (.tmp 5), none⟩,
    ⟨some 7, .fieldAddr 101 (.tmp 1) 1, none⟩,
    ⟨none, .store 3 (.tmp 7) (.tmp 4), none⟩,
    ⟨some 8, .fieldAddr 101 (.tmp 1) 2, none⟩,
    ⟨none, .store 3 (.tmp 8) (.tmp 6), none⟩] [])
  (.seq (.seq (.reg [⟨some 9, .fieldAddr 101 (.tmp 1) 0, none⟩,
    ⟨some 10, .load 3 (.tmp 9), none⟩] [])
  (.block 0 (.seq (.reg [⟨some 12, .binOp .eql 3 (.tmp 10) (.const (.int .i64 32)) 3, none⟩,
    ⟨some 11, .assign (.tmp 12), none⟩] [])
  (.cond (.tmp 11) (.reg [⟨some 13, .fieldAddr 101 (.tmp 1) 3, none⟩,
    ⟨some 14, .load 4 (.tmp 13), none⟩,
    ⟨some 15, .unOp .not 4 (.tmp 14), none⟩,
    ⟨some 16, .fieldAddr 101 (.tmp 1) 0, none⟩,
    ⟨none, .store 3 (.tmp 16) (.const (.int .i64 48)), none⟩,
    ⟨some 17, .fieldAddr 101 (.tmp 1) 3, none⟩,
    ⟨none, .store 4 (.tmp 17) (.tmp 15), none⟩] []) (.seq (.reg [⟨some 19, .binOp .eql 3 (.tmp 10) (.const (.int .i64 48)) 3, none⟩,
    ⟨some 18, .assign (.tmp 19), none⟩] [])
  (.cond (.tmp 18) (.reg [⟨some 20, .fieldAddr 101 (.tmp 1) 3, none⟩,
    ⟨some 21, .load 4 (.tmp 20), none⟩,
    ⟨some 22, .unOp .not 4 (.tmp 21), none⟩,
    ⟨some 23, .fieldAddr 101 (.tmp 1) 0, none⟩,
    ⟨none, .store 3 (.tmp 23) (.const (.int .i64 32)), none⟩,
    ⟨some 24, .fieldAddr 101 (.tmp 1) 3, none⟩,
    ⟨none, .store 4 (.tmp 24) (.tmp 22), none⟩] []) .skip))))))
  (.seq (.reg [⟨some 25, .load 101 (.tmp 1), none⟩,
    ⟨none, .store 101 (.tmp 2) (.tmp 25), none⟩] [])
  .ret))))
theorem S81_eq : slimF Try.prog 81 = some (26, [.cell 2 101], S81) := by kernel_rfl

/-- (*tamis/atom.maker).right -/
def S82 : SC :=
  (.seq (.reg [⟨some 4, .box 101 (.tmp 1), none⟩,
    ⟨some 6, .alloc 101, none⟩,
    ⟨some 7, .assign (.const (.int .i64 0)), none⟩] [])
  (.seq (.block 0 (.seq (.seq (.reg [⟨some 9, .fieldAddr 101 (.tmp 4) 0, none⟩,
    ⟨some 10, .load 3 (.tmp 9), none⟩,
    ⟨some 11, .binOp .eql 3 (.tmp 10) (.const (.int .i64 32)) 3, none⟩,
    ⟨some 12, .move (.tmp 11), none⟩,
    ⟨some 13, .move (.tmp 2), some (12, true)⟩,
    ⟨some 14, .binOp .eql 25 (.tmp 13) (.const (.int .u32 4294967295)) 25, some (12, true)⟩,
    ⟨some 15, .pick (.tmp 12) (.tmp 14) (.const (.bool false)), none⟩,
    ⟨some 8, .assign (.tmp 15), none⟩] [])
  (.cond (.tmp 8) .skip (.reg [⟨some 16, .fieldAddr 101 (.tmp 4) 0, none⟩,
    ⟨some 17, .load 3 (.tmp 16), none⟩,
    ⟨some 18, .binOp .eql 3 (.tmp 17) (.const (.int .i64 64)) 3, none⟩,
    ⟨some 19, .move (.tmp 18), none⟩,
    ⟨some 20, .move (.tmp 2), some (19, true)⟩,
    ⟨some 21, .binOp .eql 25 (.tmp 20) (.const (.int .u32 0)) 25, some (19, true)⟩,
    ⟨some 22, .pick (.tmp 19) (.tmp 21) (.const (.bool false)), none⟩,
    ⟨some 8, .assign (.tmp 22), none⟩] [])))
  (.cond (.tmp 8) (.seq (.reg [⟨some 23, .load 101 (.tmp 4), none⟩,
    ⟨some 24, .fieldAddr 101 (.tmp 4) 3, none⟩,
    ⟨some 25, .load 4 (.tmp 24), none⟩,
    ⟨some 26, .call { callee := .value (.func 80), args := #[.const (.bool false), .tmp 25], argTypes := #[4, 4] }, none⟩,
    ⟨none, .store 101 (.tmp 6) (.tmp 23), none⟩,
    ⟨some 7, .assign (.tmp 26), none⟩] [(0, 3)])
  .ret) (.seq (.reg [⟨some 28, .fieldAddr 101 (.tmp 4) 0, none⟩,
    ⟨some 29, .load 3 (.tmp 28), none⟩,
    ⟨some 30, .binOp .eql 3 (.tmp 29) (.const (.int .i64 48)) 3, none⟩,
    ⟨some 31, .move (.tmp 30), none⟩,
    ⟨some 32, .move (.tmp 2), some (31, true)⟩,
    ⟨some 33, .binOp .eql 25 (.tmp 32) (.const (.int .u32 0)) 25, some (31, true)⟩,
    ⟨some 34, .pick (.tmp 31) (.tmp 33) (.const (.bool false)), none⟩,
    ⟨some 27, .assign (.tmp 34), none⟩] [])
  (.cond (.tmp 27) (.seq (.reg [⟨some 35, .load 101 (.tmp 4), none⟩,
    ⟨some 36, .fieldAddr 101 (.tmp 4) 3, none⟩,
    ⟨some 37, .load 4 (.tmp 36), none⟩,
    ⟨some 38, .call { callee := .value (.func 80), args := #[.const (.bool true), .tmp 37], argTypes := #[4, 4] }, none⟩,
    ⟨none, .store 101 (.tmp 6) (.tmp 35), none⟩,
    ⟨some 7, .assign (.tmp 38), none⟩] [(0, 3)])
  .ret) (.seq (.seq (.reg [⟨some 40, .fieldAddr 101 (.tmp 4) 0, none⟩,
    ⟨some 41, .load 3 (.tmp 40), none⟩,
    ⟨some 42, .binOp .eql 3 (.tmp 41) (.const (.int .i64 32)) 3, none⟩,
    ⟨some 43, .move (.tmp 42), none⟩,
    ⟨some 44, .move (.tmp 2), some (43, true)⟩,
    ⟨some 45, .binOp .eql 25 (.tmp 44) (.const (.int .u32 0)) 25, some (43, true)⟩,
    ⟨some 46, .pick (.tmp 43) (.tmp 45) (.const (.bool false)), none⟩,
    ⟨some 39, .assign (.tmp 46), none⟩] [])
  (.cond (.tmp 39) .skip (.reg [⟨some 47, .fieldAddr 101 (.tmp 4) 0, none⟩,
    ⟨some 48, .load 3 (.tmp 47), none⟩,
    ⟨some 49, .binOp .eql 3 (.tmp 48) (.const (.int .i64 64)) 3, none⟩,
    ⟨some 50, .move (.tmp 49), none⟩,
    ⟨some 51, .move (.tmp 2), some (50, true)⟩,
    ⟨some 52, .binOp .eql 25 (.tmp 51) (.const (.int .u32 4294967295)) 25, some (50, true)⟩,
    ⟨some 53, .pick (.tmp 50) (.tmp 52) (.const (.bool false)), none⟩,
    ⟨some 39, .assign (.tmp 53), none⟩] [])))
  (.cond (.tmp 39) (.seq (.reg [⟨some 54, .move (.tmp 0), none⟩,
    ⟨some 55, .load 101 (.tmp 4), none⟩,
    ⟨some 56, .call { callee := .value (.func 83), args := #[.tmp 54, .tmp 55], argTypes := #[97, 101] }, none⟩,
    ⟨none, .store 101 (.tmp 6) (.tmp 56), none⟩,
    ⟨some 7, .assign (.const (.int .i64 0)), none⟩] [])
  .ret) (.seq (.reg [⟨some 58, .fieldAddr 101 (.tmp 4) 0, none⟩,
    ⟨some 59, .load 3 (.tmp 58), none⟩,
    ⟨some 60, .binOp .eql 3 (.tmp 59) (.const (.int .i64 48)) 3, none⟩,
    ⟨some 57, .assign (.tmp 60), none⟩] [])
  (.cond (.tmp 57) (.seq (.reg [⟨some 61, .fieldAddr 101 (.tmp 4) 1, none⟩,
    ⟨some 62, .load 3 (.tmp 61), none⟩,
    ⟨some 63, .move (.tmp 0), none⟩,
    ⟨some 64, .move (.tmp 2), none⟩,
    ⟨some 65, .binOp .sub 25 (.tmp 64) (.const (.int .u32 1)) 25, none⟩,
    ⟨some 66, .call { callee := .value (.func 96), args := #[.tmp 63, .tmp 65], argTypes := #[97, 25] }, none⟩,
    ⟨some 67, .fieldAddr 101 (.tmp 4) 3, none⟩,
    ⟨some 68, .load 4 (.tmp 67), none⟩,
    ⟨some 69, .build 101 #[(0, .const (.int .i64 32)), (1, .tmp 62), (2, .tmp 66), (3, .tmp 68)], none⟩,
    ⟨none, .store 101 (.tmp 6) (.tmp 69), none⟩,
    ⟨some 7, .assign (.const (.int .i64 0)), none⟩] [(1, 5), (7, 5)])
  .ret) .skip)))))))))
  (.seq (.reg [⟨some 70, .move (.tmp 0), none⟩,
    ⟨some 71, .load 101 (.tmp 4), none⟩,
    ⟨some 72, .move (.tmp 2), none⟩,
    ⟨some 73, .call { callee := .value (.func 97), args := #[.tmp 70, .tmp 71, .tmp 72], argTypes := #[97, 101, 25] }, none⟩,
    ⟨some 74, .extract (.tmp 73) 0, none⟩,
    ⟨some 75, .extract (.tmp 73) 1, none⟩,
    ⟨none, .store 101 (.tmp 6) (.tmp 74), none⟩,
    ⟨some 7, .assign (.tmp 75), none⟩] [])
  .ret)))
theorem S82_eq : slimF Try.prog 82 = some (76, [.cell 6 101, .tmp 7], S82) := by kernel_rfl

/-- (*tamis/atom.maker).zero -/
def S83 : SC :=
  (.seq (.reg [⟨some 3, .box 101 (.tmp 1), none⟩,
    ⟨some 4, .alloc 101, none⟩] [])
  (.seq (.reg [⟨some 5, .fieldAddr 101 (.tmp 3) 1, none⟩,
    ⟨some 6, .load 3 (.tmp 5), none⟩,
    ⟨some 7, .move (.tmp 0), none⟩,
    ⟨some 8, .call { callee := .value (.func 96), args := #[.tmp 7, .const (.int .u32 0)], argTypes := #[97, 25] }, none⟩,
    ⟨some 9, .fieldAddr 101 (.tmp 3) 3, none⟩,
    ⟨some 10, .load 4 (.tmp 9), none⟩,
    ⟨some 11, .unOp .not 4 (.tmp 10), none⟩,
    ⟨some 12, .build 101 #[(0, .const (.int .i64 16)), (1, .tmp 6), (2, .tmp 8), (3, .tmp 11)], none⟩,
    ⟨none, .store 101 (.tmp 4) (.tmp 12), none⟩] [(1, 3), (5, 3)])
  .ret))
theorem S83_eq : slimF Try.prog 83 = some (13, [.cell 4 101], S83) := by kernel_rfl

def S84L1 : SC :=
  (.seq (.seq (.reg [⟨some 5, .move (.tmp 4), none⟩,
    ⟨some 6, .binOp .lss 3 (.tmp 5) (.const (.int .i64 64)) 3, none⟩] [])
  (.cond (.tmp 6) .skip (.exit 0)))
  (.seq (.block 1 (.reg [⟨some 9, .move (.tmp 3), none⟩,
    ⟨some 10, .move (.tmp 0), none⟩,
    ⟨some 11, .move (.tmp 4), none⟩,
    ⟨some 12, .binOp .shr 82 (.tmp 10) (.tmp 11) 3, none⟩,
    ⟨some 13, .binOp .rem 82 (.tmp 12) (.const (.int .u64 2)) 82, none⟩,
    ⟨some 14, .convert 82 3 (.tmp 13), none⟩,
    ⟨some 15, .buildSlice 37 1 #[(0, .tmp 14)], none⟩,
    ⟨some 16, .call { callee := .builtin .append, args := #[.tmp 9, .tmp 15], argTypes := #[37, 37] }, none⟩,
    ⟨some 3, .assign (.tmp 16), none⟩] []))
  (.reg [⟨some 7, .move (.tmp 4), none⟩,
    ⟨some 8, .binOp .add 3 (.tmp 7) (.const (.int .i64 1)) 3, none⟩,
    ⟨some 4, .assign (.tmp 8), none⟩] [])))
/-- tamis/tamisref01.bits -/
def S84 : SC :=
  (.seq (.reg [⟨some 2, .assign (.const (.slice none 0 0)), none⟩] [])
  (.seq (.reg [⟨some 3, .assign (.const (.slice none 0 0)), none⟩] [])
  (.seq (.seq (.reg [⟨some 4, .assign (.const (.int .i64 0)), none⟩] [])
  (.block 0 (.loop S84L1)))
  (.seq (.reg [⟨some 17, .move (.tmp 3), none⟩,
    ⟨some 2, .assign (.tmp 17), none⟩] [])
  .ret))))
theorem S84_eq : slimF Try.prog 84 = some (18, [.tmp 2], S84) := by kernel_rfl

def S85L1 : SC :=
  (.seq (.seq (.reg [⟨some 5, .move (.tmp 4), none⟩,
    ⟨some 6, .binOp .geq 3 (.tmp 5) (.const (.int .i64 0)) 3, none⟩] [])
  (.cond (.tmp 6) .skip (.exit 0)))
  (.seq (.block 1 (.reg [⟨some 9, .move (.tmp 3), none⟩,
    ⟨some 10, .binOp .mul 25 (.const (.int .u32 2)) (.tmp 9) 25, none⟩,
    ⟨some 11, .move (.tmp 0), none⟩,
    ⟨some 12, .move (.tmp 4), none⟩,
    ⟨some 13, .indexAddr 37 (.tmp 11) (.tmp 12), none⟩,
    ⟨some 14, .load 3 (.tmp 13), none⟩,
    ⟨some 15, .convert 3 25 (.tmp 14), none⟩,
    ⟨some 16, .binOp .add 25 (.tmp 10) (.tmp 15) 25, none⟩,
    ⟨some 3, .assign (.tmp 16), none⟩] []))
  (.reg [⟨some 7, .move (.tmp 4), none⟩,
    ⟨some 8, .binOp .sub 3 (.tmp 7) (.const (.int .i64 1)) 3, none⟩,
    ⟨some 4, .assign (.tmp 8), none⟩] [])))
/-- tamis/tamisref01.value -/
def S85 : SC :=
  (.seq (.reg [⟨some 2, .assign (.const (.int .u32 0)), none⟩] [])
  (.seq (.reg [⟨some 3, .assign (.const (.int .u32 0)), none⟩] [])
  (.seq (.seq (.reg [⟨some 4, .assign (.const (.int .i64 31)), none⟩] [])
  (.block 0 (.loop S85L1)))
  (.seq (.reg [⟨some 17, .move (.tmp 3), none⟩,
    ⟨some 2, .assign (.tmp 17), none⟩] [])
  .ret))))
theorem S85_eq : slimF Try.prog 85 = some (18, [.tmp 2], S85) := by kernel_rfl

/-- (*tamis/simp.maker).other -/
def S86 : SC :=
  (.seq (.reg [⟨some 4, .assign (.const (.int .i64 0)), none⟩] [])
  (.seq (.seq (.reg [⟨some 10, .move (.tmp 0), none⟩,
    ⟨some 11, .move (.tmp 1), none⟩,
    ⟨some 12, .call { callee := .value (.func 87), args := #[.tmp 10, .tmp 11], argTypes := #[108, 3] }, none⟩,
    ⟨some 9, .move (.tmp 12), none⟩,
    ⟨some 13, .extract (.tmp 9) 0, none⟩,
    ⟨some 14, .extract (.tmp 9) 1, none⟩,
    ⟨some 5, .assign (.tmp 13), none⟩,
    ⟨some 6, .assign (.tmp 14), none⟩] [])
  (.seq (.reg [⟨some 15, .move (.tmp 6), none⟩] [])
  (.cond (.tmp 15) (.seq (.reg [⟨some 16, .move (.tmp 0), none⟩,
    ⟨some 17, .move (.tmp 5), none⟩,
    ⟨some 18, .call { callee := .value (.func 88), args := #[.const (.int .i64 128), .tmp 17, .const (.int .u32 0)], argTypes := #[3, 25, 25] }, none⟩,
    ⟨some 19, .call { callee := .value (.func 73), args := #[.tmp 16, .tmp 18], argTypes := #[108, 25] }, none⟩,
    ⟨some 4, .assign (.tmp 19), none⟩] [])
  .ret) .skip)))
  (.seq (.seq (.reg [⟨some 21, .move (.tmp 0), none⟩,
    ⟨some 22, .nilCheck (.tmp 21), none⟩,
    ⟨some 23, .fieldAddr 110 (.tmp 22) 0, none⟩,
    ⟨some 24, .load 40 (.tmp 23), none⟩,
    ⟨some 25, .move (.tmp 1), none⟩,
    ⟨some 26, .call { callee := .value (.func 49), args := #[.tmp 24, .tmp 25], argTypes := #[40, 3] }, none⟩,
    ⟨some 20, .move (.tmp 26), none⟩,
    ⟨some 27, .extract (.tmp 20) 0, none⟩,
    ⟨some 28, .extract (.tmp 20) 1, none⟩,
    ⟨some 7, .alloc 52, none⟩,
    ⟨none, .store 52 (.tmp 7) (.tmp 27), none⟩,
    ⟨some 8, .assign (.tmp 28), none⟩] [])
  (.seq (.reg [⟨some 29, .fieldAddr 52 (.tmp 7) 0, none⟩,
    ⟨some 30, .load 3 (.tmp 29), none⟩,
    ⟨some 31, .binOp .eql 3 (.tmp 30) (.const (.int .i64 384)) 3, none⟩] [])
  (.cond (.tmp 31) (.seq (.reg [⟨some 32, .fieldAddr 52 (.tmp 7) 1, none⟩,
    ⟨some 33, .load 3 (.tmp 32), none⟩,
    ⟨some 4, .assign (.tmp 33), none⟩] [])
  .ret) .skip)))
  (.seq (.reg [⟨some 34, .move (.tmp 0), none⟩,
    ⟨some 35, .move (.tmp 1), none⟩,
    ⟨some 36, .build 52 #[(0, .const (.int .i64 384)), (1, .tmp 35)], none⟩,
    ⟨some 37, .call { callee := .value (.func 91), args := #[.tmp 34, .tmp 36], argTypes := #[108, 52] }, none⟩,
    ⟨some 4, .assign (.tmp 37), none⟩] [])
  .ret))))
theorem S86_eq : slimF Try.prog 86 = some (38, [.tmp 4], S86) := by kernel_rfl

/-- (*tamis/simp.maker).is -/
def S87 : SC :=
  (.seq (.reg [⟨some 4, .assign (.const (.int .u32 0)), none⟩,
    ⟨some 5, .assign (.const (.bool false)), none⟩] [])
  (.seq (.reg [⟨some 9, .move (.tmp 0), none⟩,
    ⟨some 10, .nilCheck (.tmp 9), none⟩,
    ⟨some 11, .fieldAddr 110 (.tmp 10) 0, none⟩,
    ⟨some 12, .load 40 (.tmp 11), none⟩,
    ⟨some 13, .move (.tmp 1), none⟩,
    ⟨some 14, .call { callee := .value (.func 49), args := #[.tmp 12, .tmp 13], argTypes := #[40, 3] }, none⟩,
    ⟨some 8, .move (.tmp 14), none⟩,
    ⟨some 15, .extract (.tmp 8) 0, none⟩,
    ⟨some 16, .extract (.tmp 8) 1, none⟩,
    ⟨some 6, .alloc 52, none⟩,
    ⟨none, .store 52 (.tmp 6) (.tmp 15), none⟩,
    ⟨some 7, .assign (.tmp 16), none⟩] [])
  (.seq (.reg [⟨some 17, .fieldAddr 52 (.tmp 6) 3, none⟩,
    ⟨some 18, .load 25 (.tmp 17), none⟩,
    ⟨some 19, .fieldAddr 52 (.tmp 6) 0, none⟩,
    ⟨some 20, .load 3 (.tmp 19), none⟩,
    ⟨some 21, .binOp .eql 3 (.tmp 20) (.const (.int .i64 1)) 3, none⟩,
    ⟨some 4, .assign (.tmp 18), none⟩,
    ⟨some 5, .assign (.tmp 21), none⟩] [])
  .ret)))
theorem S87_eq : slimF Try.prog 87 = some (22, [.tmp 4, .tmp 5], S87) := by kernel_rfl

/-- tamis/simp.tells -/
def S88 : SC :=
  (.seq (.reg [⟨some 6, .assign (.const (.int .u32 0)), none⟩] [])
  (.seq (.reg [⟨some 10, .move (.tmp 0), none⟩,
    ⟨some 11, .move (.tmp 1), none⟩,
    ⟨some 12, .move (.tmp 2), none⟩,
    ⟨some 13, .call { callee := .value (.func 94), args := #[.tmp 10, .tmp 11, .tmp 12], argTypes := #[3, 25, 25] }, none⟩,
    ⟨some 9, .move (.tmp 13), none⟩,
    ⟨some 14, .extract (.tmp 9) 0, none⟩,
    ⟨some 15, .extract (.tmp 9) 1, none⟩,
    ⟨some 7, .assign (.tmp 14), none⟩,
    ⟨some 8, .assign (.tmp 15), none⟩] [])
  (.seq (.reg [⟨some 16, .move (.tmp 7), none⟩,
    ⟨some 6, .assign (.tmp 16), none⟩] [])
  .ret)))
theorem S88_eq : slimF Try.prog 88 = some (17, [.tmp 6], S88) := by kernel_rfl

/-- tamis/simp.either -/
def S89 : SC :=
  (.seq (.reg [⟨some 2, .assign (.const (.bool false)), none⟩] [])
  (.seq (.seq (.reg [⟨some 3, .move (.tmp 0), none⟩] [])
  (.block 0 (.seq (.seq (.reg [⟨some 5, .binOp .eql 3 (.tmp 3) (.const (.int .i64 0)) 3, none⟩,
    ⟨some 4, .assign (.tmp 5), none⟩] [])
  (.cond (.tmp 4) .skip (.seq (.reg [⟨some 6, .binOp .eql 3 (.tmp 3) (.const (.int .i64 32)) 3, none⟩,
    ⟨some 4, .assign (.tmp 6), none⟩] [])
  (.cond (.tmp 4) .skip (.seq (.reg [⟨some 7, .binOp .eql 3 (.tmp 3) (.const (.int .i64 64)) 3, none⟩,
    ⟨some 4, .assign (.tmp 7), none⟩] [])
  (.cond (.tmp 4) .skip (.seq (.reg [⟨some 8, .binOp .eql 3 (.tmp 3) (.const (.int .i64 80)) 3, none⟩,
    ⟨some 4, .assign (.tmp 8), none⟩] [])
  (.cond (.tmp 4) .skip (.reg [⟨some 9, .binOp .eql 3 (.tmp 3) (.const (.int .i64 160)) 3, none⟩,
    ⟨some 4, .assign (.tmp 9), none⟩] [])))))))))
  (.cond (.tmp 4) (.seq (.reg [⟨some 2, .assign (.const (.bool true)), none⟩] [])
  .ret) .skip))))
  (.seq (.reg [⟨some 2, .assign (.const (.bool false)), none⟩] [])
  .ret)))
theorem S89_eq : slimF Try.prog 89 = some (10, [.tmp 2], S89) := by kernel_rfl

/-- (*tamis/simp.maker).right -/
def S90 : SC :=
  (.seq (.reg [⟨some 8, .assign (.const (.int .i64 0)), none⟩] [])
  (.seq (.seq (.reg [⟨some 15, .move (.tmp 1), none⟩,
    ⟨some 16, .binOp .eql 3 (.tmp 15) (.const (.int .i64 96)) 3, none⟩,
    ⟨some 17, .move (.tmp 16), none⟩,
    ⟨some 18, .move (.tmp 1), some (17, false)⟩,
    ⟨some 19, .binOp .eql 3 (.tmp 18) (.const (.int .i64 112)) 3, some (17, false)⟩,
    ⟨some 20, .pick (.tmp 17) (.const (.bool true)) (.tmp 19), none⟩] [])
  (.cond (.tmp 20) (.reg [⟨some 21, .move (.tmp 3), none⟩,
    ⟨some 22, .binOp .rem 25 (.tmp 21) (.const (.int .u32 32)) 25, none⟩,
    ⟨some 3, .assign (.tmp 22), none⟩] []) .skip))
  (.seq (.seq (.reg [⟨some 24, .move (.tmp 1), none⟩,
    ⟨some 25, .move (.tmp 3), none⟩,
    ⟨some 26, .call { callee := .value (.func 98), args := #[.tmp 24, .tmp 25], argTypes := #[3, 25] }, none⟩,
    ⟨some 23, .move (.tmp 26), none⟩,
    ⟨some 27, .extract (.tmp 23) 0, none⟩,
    ⟨some 28, .extract (.tmp 23) 1, none⟩,
    ⟨some 9, .assign (.tmp 27), none⟩,
    ⟨some 10, .assign (.tmp 28), none⟩] [])
  (.seq (.reg [⟨some 29, .move (.tmp 9), none⟩] [])
  (.block 0 (.seq (.reg [⟨some 31, .binOp .eql 3 (.tmp 29) (.const (.int .i64 1)) 3, none⟩,
    ⟨some 30, .assign (.tmp 31), none⟩] [])
  (.cond (.tmp 30) (.seq (.reg [⟨some 32, .move (.tmp 2), none⟩,
    ⟨some 8, .assign (.tmp 32), none⟩] [])
  .ret) (.seq (.reg [⟨some 34, .binOp .eql 3 (.tmp 29) (.const (.int .i64 2)) 3, none⟩,
    ⟨some 33, .assign (.tmp 34), none⟩] [])
  (.cond (.tmp 33) (.seq (.reg [⟨some 35, .move (.tmp 0), none⟩,
    ⟨some 36, .move (.tmp 10), none⟩,
    ⟨some 37, .call { callee := .value (.func 73), args := #[.tmp 35, .tmp 36], argTypes := #[108, 25] }, none⟩,
    ⟨some 8, .assign (.tmp 37), none⟩] [])
  .ret) .skip)))))))
  (.seq (.seq (.reg [⟨some 39, .move (.tmp 0), none⟩,
    ⟨some 40, .nilCheck (.tmp 39), none⟩,
    ⟨some 41, .fieldAddr 110 (.tmp 40) 0, none⟩,
    ⟨some 42, .load 40 (.tmp 41), none⟩,
    ⟨some 43, .move (.tmp 2), none⟩,
    ⟨some 44, .call { callee := .value (.func 49), args := #[.tmp 42, .tmp 43], argTypes := #[40, 3] }, none⟩,
    ⟨some 38, .move (.tmp 44), none⟩,
    ⟨some 45, .extract (.tmp 38) 0, none⟩,
    ⟨some 46, .extract (.tmp 38) 1, none⟩,
    ⟨some 11, .alloc 52, none⟩,
    ⟨none, .store 52 (.tmp 11) (.tmp 45), none⟩,
    ⟨some 12, .assign (.tmp 46), none⟩] [])
  (.seq (.reg [⟨some 47, .move (.tmp 1), none⟩,
    ⟨some 48, .call { callee := .value (.func 89), args := #[.tmp 47], argTypes := #[3] }, none⟩,
    ⟨some 49, .move (.tmp 48), none⟩,
    ⟨some 50, .fieldAddr 52 (.tmp 11) 0, some (49, true)⟩,
    ⟨some 51, .load 3 (.tmp 50), some (49, true)⟩,
    ⟨some 52, .move (.tmp 1), some (49, true)⟩,
    ⟨some 53, .binOp .or 3 (.const (.int .i64 256)) (.tmp 52) 3, some (49, true)⟩,
    ⟨some 54, .binOp .eql 3 (.tmp 51) (.tmp 53) 3, some (49, true)⟩,
    ⟨some 55, .pick (.tmp 49) (.tmp 54) (.const (.bool false)), none⟩] [])
  (.cond (.tmp 55) (.seq (.reg [⟨some 57, .move (.tmp 0), none⟩,
    ⟨some 58, .fieldAddr 52 (.tmp 11) 2, none⟩,
    ⟨some 59, .load 3 (.tmp 58), none⟩,
    ⟨some 60, .call { callee := .value (.func 87), args := #[.tmp 57, .tmp 59], argTypes := #[108, 3] }, none⟩,
    ⟨some 56, .move (.tmp 60), none⟩,
    ⟨some 61, .extract (.tmp 56) 0, none⟩,
    ⟨some 62, .extract (.tmp 56) 1, none⟩,
    ⟨some 13, .assign (.tmp 61), none⟩,
    ⟨some 14, .assign (.tmp 62), none⟩] [])
  (.seq (.reg [⟨some 63, .move (.tmp 14), none⟩] [])
  (.cond (.tmp 63) (.seq (.reg [⟨some 64, .move (.tmp 0), none⟩,
    ⟨some 65, .move (.tmp 1), none⟩,
    ⟨some 66, .fieldAddr 52 (.tmp 11) 1, none⟩,
    ⟨some 67, .load 3 (.tmp 66), none⟩,
    ⟨some 68, .move (.tmp 0), none⟩,
    ⟨some 69, .move (.tmp 1), none⟩,
    ⟨some 70, .move (.tmp 13), none⟩,
    ⟨some 71, .move (.tmp 3), none⟩,
    ⟨some 72, .call { callee := .value (.func 88), args := #[.tmp 69, .tmp 70, .tmp 71], argTypes := #[3, 25, 25] }, none⟩,
    ⟨some 73, .call { callee := .value (.func 73), args := #[.tmp 68, .tmp 72], argTypes := #[108, 25] }, none⟩,
    ⟨some 74, .call { callee := .value (.func 65), args := #[.tmp 64, .tmp 65, .tmp 67, .tmp 73], argTypes := #[108, 3, 3, 3] }, none⟩,
    ⟨some 8, .assign (.tmp 74), none⟩] [(3, 8), (3, 9)])
  .ret) .skip))) .skip)))
  (.seq (.reg [⟨some 75, .move (.tmp 0), none⟩,
    ⟨some 76, .move (.tmp 1), none⟩,
    ⟨some 77, .binOp .or 3 (.const (.int .i64 256)) (.tmp 76) 3, none⟩,
    ⟨some 78, .move (.tmp 2), none⟩,
    ⟨some 79, .move (.tmp 0), none⟩,
    ⟨some 80, .move (.tmp 3), none⟩,
    ⟨some 81, .call { callee := .value (.func 73), args := #[.tmp 79, .tmp 80], argTypes := #[108, 25] }, none⟩,
    ⟨some 82, .build 52 #[(0, .tmp 77), (1, .tmp 78), (2, .tmp 81)], none⟩,
    ⟨some 83, .call { callee := .value (.func 91), args := #[.tmp 75, .tmp 82], argTypes := #[108, 52] }, none⟩,
    ⟨some 8, .assign (.tmp 83), none⟩] [])
  .ret)))))
theorem S90_eq : slimF Try.prog 90 = some (84, [.tmp 8], S90) := by kernel_rfl

/-- (*tamis/simp.maker).put -/
def S91 : SC :=
  (.seq (.reg [⟨some 3, .box 52 (.tmp 1), none⟩,
    ⟨some 4, .assign (.const (.int .i64 0)), none⟩] [])
  (.seq (.reg [⟨some 8, .move (.tmp 0), none⟩,
    ⟨some 9, .nilCheck (.tmp 8), none⟩,
    ⟨some 10, .fieldAddr 110 (.tmp 9) 0, none⟩,
    ⟨some 11, .load 40 (.tmp 10), none⟩,
    ⟨some 12, .load 52 (.tmp 3), none⟩,
    ⟨some 13, .call { callee := .value (.func 57), args := #[.tmp 11, .tmp 12], argTypes := #[40, 52] }, none⟩,
    ⟨some 7, .move (.tmp 13), none⟩,
    ⟨some 14, .extract (.tmp 7) 0, none⟩,
    ⟨some 15, .extract (.tmp 7) 1, none⟩,
    ⟨some 5, .assign (.tmp 14), none⟩,
    ⟨some 6, .assign (.tmp 15), none⟩] [])
  (.seq (.seq (.reg [⟨some 16, .move (.tmp 6), none⟩,
    ⟨some 17, .binOp .neq 30 (.tmp 16) (.const (.int .i64 0)) 30, none⟩,
    ⟨some 18, .move (.tmp 17), none⟩,
    ⟨some 19, .move (.tmp 0), some (18, true)⟩,
    ⟨some 20, .nilCheck (.tmp 19), some (18, true)⟩,
    ⟨some 21, .fieldAddr 110 (.tmp 20) 1, some (18, true)⟩,
    ⟨some 22, .load 30 (.tmp 21), some (18, true)⟩,
    ⟨some 23, .binOp .eql 30 (.tmp 22) (.const (.int .i64 0)) 30, some (18, true)⟩,
    ⟨some 24, .pick (.tmp 18) (.tmp 23) (.const (.bool false)), none⟩] [])
  (.cond (.tmp 24) (.reg [⟨some 25, .move (.tmp 0), none⟩,
    ⟨some 26, .move (.tmp 6), none⟩,
    ⟨some 27, .nilCheck (.tmp 25), none⟩,
    ⟨some 28, .fieldAddr 110 (.tmp 27) 1, none⟩,
    ⟨none, .store 30 (.tmp 28) (.tmp 26), none⟩] []) .skip))
  (.seq (.reg [⟨some 29, .move (.tmp 5), none⟩,
    ⟨some 4, .assign (.tmp 29), none⟩] [])
  .ret))))
theorem S91_eq : slimF Try.prog 91 = some (30, [.tmp 4], S91) := by kernel_rfl

def S92L1 : SC :=
  (.seq (.reg [⟨some 17, .binOp .lss 3 (.tmp 16) (.tmp 15) 3, none⟩] [])
  (.seq (.cond (.tmp 17) .skip (.exit 0))
  (.seq (.block 1 (.seq (.reg [⟨some 18, .indexAddr 37 (.tmp 14) (.tmp 16), none⟩,
    ⟨some 19, .load 3 (.tmp 18), none⟩,
    ⟨some 7, .assign (.tmp 19), none⟩] [])
  (.reg [⟨some 20, .move (.tmp 5), none⟩,
    ⟨some 21, .move (.tmp 7), none⟩,
    ⟨some 22, .indexAddr 74 (.tmp 20) (.tmp 21), none⟩,
    ⟨none, .store 4 (.tmp 22) (.const (.bool true)), none⟩] [])))
  (.reg [⟨some 23, .binOp .add 3 (.tmp 16) (.const (.int .i64 1)) 3, none⟩,
    ⟨some 16, .move (.tmp 23), none⟩] []))))
def S92L3 : SC :=
  (.seq (.reg [⟨some 43, .binOp .lss 3 (.tmp 42) (.tmp 41) 3, none⟩] [])
  (.seq (.cond (.tmp 43) .skip (.exit 4))
  (.seq (.block 5 (.seq (.reg [⟨some 44, .indexAddr 37 (.tmp 40) (.tmp 42), none⟩,
    ⟨some 45, .load 3 (.tmp 44), none⟩,
    ⟨some 10, .assign (.tmp 45), none⟩] [])
  (.reg [⟨some 46, .move (.tmp 5), none⟩,
    ⟨some 47, .move (.tmp 10), none⟩,
    ⟨some 48, .indexAddr 74 (.tmp 46) (.tmp 47), none⟩,
    ⟨none, .store 4 (.tmp 48) (.const (.bool true)), none⟩] [])))
  (.reg [⟨some 49, .binOp .add 3 (.tmp 42) (.const (.int .i64 1)) 3, none⟩,
    ⟨some 42, .move (.tmp 49), none⟩] []))))
def S92L2 : SC :=
  (.seq (.seq (.reg [⟨some 27, .move (.tmp 8), none⟩,
    ⟨some 28, .binOp .geq 3 (.tmp 27) (.const (.int .i64 0)) 3, none⟩] [])
  (.cond (.tmp 28) .skip (.exit 2)))
  (.seq (.block 3 (.seq (.seq (.reg [⟨some 31, .move (.tmp 5), none⟩,
    ⟨some 32, .move (.tmp 8), none⟩,
    ⟨some 33, .indexAddr 74 (.tmp 31) (.tmp 32), none⟩,
    ⟨some 34, .load 4 (.tmp 33), none⟩,
    ⟨some 35, .unOp .not 4 (.tmp 34), none⟩] [])
  (.cond (.tmp 35) (.exit 3) .skip))
  (.seq (.reg [⟨some 36, .move (.tmp 0), none⟩,
    ⟨some 37, .move (.tmp 8), none⟩,
    ⟨some 38, .indexAddr 22 (.tmp 36) (.tmp 37), none⟩,
    ⟨some 39, .load 52 (.tmp 38), none⟩,
    ⟨some 40, .call { callee := .value (.func 99), args := #[.tmp 39], argTypes := #[52] }, none⟩,
    ⟨some 41, .call { callee := .builtin .len, args := #[.tmp 40], argTypes := #[37] }, none⟩,
    ⟨some 42, .move (.const (.int .i64 0)), none⟩] [])
  (.block 4 (.loop S92L3)))))
  (.reg [⟨some 29, .move (.tmp 8), none⟩,
    ⟨some 30, .binOp .sub 3 (.tmp 29) (.const (.int .i64 1)) 3, none⟩,
    ⟨some 8, .assign (.tmp 30), none⟩] [])))
/-- tamis/term.reach -/
def S92 : SC :=
  (.seq (.reg [⟨some 4, .assign (.const (.slice none 0 0)), none⟩] [])
  (.seq (.reg [⟨some 11, .move (.tmp 0), none⟩,
    ⟨some 12, .call { callee := .builtin .len, args := #[.tmp 11], argTypes := #[22] }, none⟩,
    ⟨some 13, .makeSlice 74 (.tmp 12) (.tmp 12), none⟩,
    ⟨some 5, .assign (.tmp 13), none⟩] [])
  (.seq (.seq (.reg [⟨some 14, .move (.tmp 1), none⟩,
    ⟨some 15, .call { callee := .builtin .len, args := #[.tmp 14], argTypes := #[37] }, none⟩,
    ⟨some 16, .move (.const (.int .i64 0)), none⟩] [])
  (.block 0 (.loop S92L1)))
  (.seq (.seq (.reg [⟨some 24, .move (.tmp 0), none⟩,
    ⟨some 25, .call { callee := .builtin .len, args := #[.tmp 24], argTypes := #[22] }, none⟩,
    ⟨some 26, .binOp .sub 3 (.tmp 25) (.const (.int .i64 1)) 3, none⟩,
    ⟨some 8, .assign (.tmp 26), none⟩] [])
  (.block 2 (.loop S92L2)))
  (.seq (.reg [⟨some 50, .move (.tmp 5), none⟩,
    ⟨some 4, .assign (.tmp 50), none⟩] [])
  .ret)))))
theorem S92_eq : slimF Try.prog 92 = some (51, [.tmp 4], S92) := by kernel_rfl

/-- tamis/term.moved -/
def S93 : SC :=
  (.seq (.reg [⟨some 2, .box 52 (.tmp 0), none⟩,
    ⟨some 4, .alloc 52, none⟩] [])
  (.seq (.reg [⟨some 6, .load 52 (.tmp 2), none⟩,
    ⟨some 7, .call { callee := .value (.func 99), args := #[.tmp 6], argTypes := #[52] }, none⟩,
    ⟨some 5, .assign (.tmp 7), none⟩] [])
  (.seq (.seq (.reg [⟨some 8, .move (.tmp 5), none⟩,
    ⟨some 9, .call { callee := .builtin .len, args := #[.tmp 8], argTypes := #[37] }, none⟩,
    ⟨some 10, .binOp .gtr 3 (.tmp 9) (.const (.int .i64 0)) 3, none⟩] [])
  (.cond (.tmp 10) (.reg [⟨some 11, .move (.tmp 1), none⟩,
    ⟨some 12, .fieldAddr 52 (.tmp 2) 1, none⟩,
    ⟨some 13, .load 3 (.tmp 12), none⟩,
    ⟨some 14, .indexAddr 37 (.tmp 11) (.tmp 13), none⟩,
    ⟨some 15, .load 3 (.tmp 14), none⟩,
    ⟨some 16, .fieldAddr 52 (.tmp 2) 1, none⟩,
    ⟨none, .store 3 (.tmp 16) (.tmp 15), none⟩] []) .skip))
  (.seq (.seq (.reg [⟨some 17, .move (.tmp 5), none⟩,
    ⟨some 18, .call { callee := .builtin .len, args := #[.tmp 17], argTypes := #[37] }, none⟩,
    ⟨some 19, .binOp .gtr 3 (.tmp 18) (.const (.int .i64 1)) 3, none⟩] [])
  (.cond (.tmp 19) (.reg [⟨some 20, .move (.tmp 1), none⟩,
    ⟨some 21, .fieldAddr 52 (.tmp 2) 2, none⟩,
    ⟨some 22, .load 3 (.tmp 21), none⟩,
    ⟨some 23, .indexAddr 37 (.tmp 20) (.tmp 22), none⟩,
    ⟨some 24, .load 3 (.tmp 23), none⟩,
    ⟨some 25, .fieldAddr 52 (.tmp 2) 2, none⟩,
    ⟨none, .store 3 (.tmp 25) (.tmp 24), none⟩] []) .skip))
  (.seq (.reg [⟨some 26, .load 52 (.tmp 2), none⟩,
    ⟨none, .store 52 (.tmp 4) (.tmp 26), none⟩] [])
  .ret)))))
theorem S93_eq : slimF Try.prog 93 = some (27, [.cell 4 52], S93) := by kernel_rfl

/-- tamis/word.Alu -/
def S94 : SC :=
  (.seq (.reg [⟨some 6, .assign (.const (.int .u32 0)), none⟩,
    ⟨some 7, .assign (.const (.bool false)), none⟩] [])
  (.seq (.seq (.reg [⟨some 8, .move (.tmp 0), none⟩] [])
  (.block 0 (.seq (.reg [⟨some 10, .binOp .eql 3 (.tmp 8) (.const (.int .i64 0)) 3, none⟩,
    ⟨some 9, .assign (.tmp 10), none⟩] [])
  (.cond (.tmp 9) (.seq (.reg [⟨some 11, .move (.tmp 1), none⟩,
    ⟨some 12, .move (.tmp 2), none⟩,
    ⟨some 13, .binOp .add 25 (.tmp 11) (.tmp 12) 25, none⟩,
    ⟨some 6, .assign (.tmp 13), none⟩,
    ⟨some 7, .assign (.const (.bool true)), none⟩] [])
  .ret) (.seq (.reg [⟨some 15, .binOp .eql 3 (.tmp 8) (.const (.int .i64 16)) 3, none⟩,
    ⟨some 14, .assign (.tmp 15), none⟩] [])
  (.cond (.tmp 14) (.seq (.reg [⟨some 16, .move (.tmp 1), none⟩,
    ⟨some 17, .move (.tmp 2), none⟩,
    ⟨some 18, .binOp .sub 25 (.tmp 16) (.tmp 17) 25, none⟩,
    ⟨some 6, .assign (.tmp 18), none⟩,
    ⟨some 7, .assign (.const (.bool true)), none⟩] [])
  .ret) (.seq (.reg [⟨some 20, .binOp .eql 3 (.tmp 8) (.const (.int .i64 32)) 3, none⟩,
    ⟨some 19, .assign (.tmp 20), none⟩] [])
  (.cond (.tmp 19) (.seq (.reg [⟨some 21, .move (.tmp 1), none⟩,
    ⟨some 22, .move (.tmp 2), none⟩,
    ⟨some 23, .binOp .mul 25 (.tmp 21) (.tmp 22) 25, none⟩,
    ⟨some 6, .assign (.tmp 23), none⟩,
    ⟨some 7, .assign (.const (.bool true)), none⟩] [])
  .ret) (.seq (.reg [⟨some 25, .binOp .eql 3 (.tmp 8) (.const (.int .i64 48)) 3, none⟩,
    ⟨some 24, .assign (.tmp 25), none⟩] [])
  (.cond (.tmp 24) (.seq (.seq (.reg [⟨some 26, .move (.tmp 2), none⟩,
    ⟨some 27, .binOp .eql 25 (.tmp 26) (.const (.int .u32 0)) 25, none⟩] [])
  (.cond (.tmp 27) (.seq (.reg [⟨some 6, .assign (.const (.int .u32 0)), none⟩,
    ⟨some 7, .assign (.const (.bool false)), none⟩] [])
  .ret) .skip))
  (.seq (.reg [⟨some 28, .move (.tmp 1), none⟩,
    ⟨some 29, .move (.tmp 2), none⟩,
    ⟨some 30, .binOp .quo 25 (.tmp 28) (.tmp 29) 25, none⟩,
    ⟨some 6, .assign (.tmp 30), none⟩,
    ⟨some 7, .assign (.const (.bool true)), none⟩] [])
  .ret)) (.seq (.reg [⟨some 32, .binOp .eql 3 (.tmp 8) (.const (.int .i64 64)) 3, none⟩,
    ⟨some 31, .assign (.tmp 32), none⟩] [])
  (.cond (.tmp 31) (.seq (.reg [⟨some 33, .move (.tmp 1), none⟩,
    ⟨some 34, .move (.tmp 2), none⟩,
    ⟨some 35, .binOp .or 25 (.tmp 33) (.tmp 34) 25, none⟩,
    ⟨some 6, .assign (.tmp 35), none⟩,
    ⟨some 7, .assign (.const (.bool true)), none⟩] [])
  .ret) (.seq (.reg [⟨some 37, .binOp .eql 3 (.tmp 8) (.const (.int .i64 80)) 3, none⟩,
    ⟨some 36, .assign (.tmp 37), none⟩] [])
  (.cond (.tmp 36) (.seq (.reg [⟨some 38, .move (.tmp 1), none⟩,
    ⟨some 39, .move (.tmp 2), none⟩,
    ⟨some 40, .binOp .and 25 (.tmp 38) (.tmp 39) 25, none⟩,
    ⟨some 6, .assign (.tmp 40), none⟩,
    ⟨some 7, .assign (.const (.bool true)), none⟩] [])
  .ret) (.seq (.reg [⟨some 42, .binOp .eql 3 (.tmp 8) (.const (.int .i64 96)) 3, none⟩,
    ⟨some 41, .assign (.tmp 42), none⟩] [])
  (.cond (.tmp 41) (.seq (.reg [⟨some 43, .move (.tmp 1), none⟩,
    ⟨some 44, .move (.tmp 2), none⟩,
    ⟨some 45, .binOp .and 25 (.tmp 44) (.const (.int .u32 31)) 25, none⟩,
    ⟨some 46, .binOp .shl 25 (.tmp 43) (.tmp 45) 25, none⟩,
    ⟨some 6, .assign (.tmp 46), none⟩,
    ⟨some 7, .assign (.const (.bool true)), none⟩] [])
  .ret) (.seq (.reg [⟨some 48, .binOp .eql 3 (.tmp 8) (.const (.int .i64 112)) 3, none⟩,
    ⟨some 47, .assign (.tmp 48), none⟩] [])
  (.cond (.tmp 47) (.seq (.reg [⟨some 49, .move (.tmp 1), none⟩,
    ⟨some 50, .move (.tmp 2), none⟩,
    ⟨some 51, .binOp .and 25 (.tmp 50) (.const (.int .u32 31)) 25, none⟩,
    ⟨some 52, .binOp .shr 25 (.tmp 49) (.tmp 51) 25, none⟩,
    ⟨some 6, .assign (.tmp 52), none⟩,
    ⟨some 7, .assign (.const (.bool true)), none⟩] [])
  .ret) (.seq (.reg [⟨some 54, .binOp .eql 3 (.tmp 8) (.const (.int .i64 128)) 3, none⟩,
    ⟨some 53, .assign (.tmp 54), none⟩] [])
  (.cond (.tmp 53) (.seq (.reg [⟨some 55, .move (.tmp 1), none⟩,
    ⟨some 56, .unOp .neg 25 (.tmp 55), none⟩,
    ⟨some 6, .assign (.tmp 56), none⟩,
    ⟨some 7, .assign (.const (.bool true)), none⟩] [])
  .ret) (.seq (.reg [⟨some 58, .binOp .eql 3 (.tmp 8) (.const (.int .i64 160)) 3, none⟩,
    ⟨some 57, .assign (.tmp 58), none⟩] [])
  (.cond (.tmp 57) (.seq (.reg [⟨some 59, .move (.tmp 1), none⟩,
    ⟨some 60, .move (.tmp 2), none⟩,
    ⟨some 61, .binOp .xor 25 (.tmp 59) (.tmp 60) 25, none⟩,
    ⟨some 6, .assign (.tmp 61), none⟩,
    ⟨some 7, .assign (.const (.bool true)), none⟩] [])
  .ret) .skip))))))))))))))))))))))
  (.seq (.reg [⟨some 6, .assign (.const (.int .u32 0)), none⟩,
    ⟨some 7, .assign (.const (.bool false)), none⟩] [])
  .ret)))
theorem S94_eq : slimF Try.prog 94 = some (62, [.tmp 6, .tmp 7], S94) := by kernel_rfl

/-- tamis/term.reckons -/
def S95 : SC :=
  (.seq (.reg [⟨some 2, .assign (.const (.bool false)), none⟩] [])
  (.seq (.seq (.reg [⟨some 3, .move (.tmp 0), none⟩] [])
  (.block 0 (.seq (.seq (.reg [⟨some 5, .binOp .eql 3 (.tmp 3) (.const (.int .i64 256)) 3, none⟩,
    ⟨some 4, .assign (.tmp 5), none⟩] [])
  (.cond (.tmp 4) .skip (.seq (.reg [⟨some 6, .binOp .eql 3 (.tmp 3) (.const (.int .i64 272)) 3, none⟩,
    ⟨some 4, .assign (.tmp 6), none⟩] [])
  (.cond (.tmp 4) .skip (.seq (.reg [⟨some 7, .binOp .eql 3 (.tmp 3) (.const (.int .i64 288)) 3, none⟩,
    ⟨some 4, .assign (.tmp 7), none⟩] [])
  (.cond (.tmp 4) .skip (.seq (.reg [⟨some 8, .binOp .eql 3 (.tmp 3) (.const (.int .i64 304)) 3, none⟩,
    ⟨some 4, .assign (.tmp 8), none⟩] [])
  (.cond (.tmp 4) .skip (.seq (.reg [⟨some 9, .binOp .eql 3 (.tmp 3) (.const (.int .i64 320)) 3, none⟩,
    ⟨some 4, .assign (.tmp 9), none⟩] [])
  (.cond (.tmp 4) .skip (.seq (.reg [⟨some 10, .binOp .eql 3 (.tmp 3) (.const (.int .i64 336)) 3, none⟩,
    ⟨some 4, .assign (.tmp 10), none⟩] [])
  (.cond (.tmp 4) .skip (.seq (.reg [⟨some 11, .binOp .eql 3 (.tmp 3) (.const (.int .i64 352)) 3, none⟩,
    ⟨some 4, .assign (.tmp 11), none⟩] [])
  (.cond (.tmp 4) .skip (.seq (.reg [⟨some 12, .binOp .eql 3 (.tmp 3) (.const (.int .i64 368)) 3, none⟩,
    ⟨some 4, .assign (.tmp 12), none⟩] [])
  (.cond (.tmp 4) .skip (.seq (.reg [⟨some 13, .binOp .eql 3 (.tmp 3) (.const (.int .i64 416)) 3, none⟩,
    ⟨some 4, .assign (.tmp 13), none⟩] [])
  (.cond (.tmp 4) .skip (.reg [⟨some 14, .binOp .eql 3 (.tmp 3) (.const (.int .i64 384)) 3, none⟩,
    ⟨some 4, .assign (.tmp 14), none⟩] [])))))))))))))))))))
  (.cond (.tmp 4) (.seq (.reg [⟨some 2, .assign (.const (.bool true)), none⟩] [])
  .ret) .skip))))
  (.seq (.reg [⟨some 2, .assign (.const (.bool false)), none⟩] [])
  .ret)))
theorem S95_eq : slimF Try.prog 95 = some (15, [.tmp 2], S95) := by kernel_rfl

/-- (*tamis/atom.maker).number -/
def S96 : SC :=
  (.seq (.reg [⟨some 4, .assign (.const (.int .i64 0)), none⟩] [])
  (.seq (.reg [⟨some 8, .move (.tmp 0), none⟩,
    ⟨some 9, .nilCheck (.tmp 8), none⟩,
    ⟨some 10, .fieldAddr 99 (.tmp 9) 0, none⟩,
    ⟨some 11, .load 40 (.tmp 10), none⟩,
    ⟨some 12, .move (.tmp 1), none⟩,
    ⟨some 13, .call { callee := .value (.func 46), args := #[.tmp 11, .tmp 12], argTypes := #[40, 25] }, none⟩,
    ⟨some 7, .move (.tmp 13), none⟩,
    ⟨some 14, .extract (.tmp 7) 0, none⟩,
    ⟨some 15, .extract (.tmp 7) 1, none⟩,
    ⟨some 5, .assign (.tmp 14), none⟩,
    ⟨some 6, .assign (.tmp 15), none⟩] [])
  (.seq (.seq (.reg [⟨some 16, .move (.tmp 6), none⟩,
    ⟨some 17, .binOp .neq 30 (.tmp 16) (.const (.int .i64 0)) 30, none⟩,
    ⟨some 18, .move (.tmp 17), none⟩,
    ⟨some 19, .move (.tmp 0), some (18, true)⟩,
    ⟨some 20, .nilCheck (.tmp 19), some (18, true)⟩,
    ⟨some 21, .fieldAddr 99 (.tmp 20) 1, some (18, true)⟩,
    ⟨some 22, .load 30 (.tmp 21), some (18, true)⟩,
    ⟨some 23, .binOp .eql 30 (.tmp 22) (.const (.int .i64 0)) 30, some (18, true)⟩,
    ⟨some 24, .pick (.tmp 18) (.tmp 23) (.const (.bool false)), none⟩] [])
  (.cond (.tmp 24) (.reg [⟨some 25, .move (.tmp 0), none⟩,
    ⟨some 26, .move (.tmp 6), none⟩,
    ⟨some 27, .nilCheck (.tmp 25), none⟩,
    ⟨some 28, .fieldAddr 99 (.tmp 27) 1, none⟩,
    ⟨none, .store 30 (.tmp 28) (.tmp 26), none⟩] []) .skip))
  (.seq (.reg [⟨some 29, .move (.tmp 5), none⟩,
    ⟨some 4, .assign (.tmp 29), none⟩] [])
  .ret))))
theorem S96_eq : slimF Try.prog 96 = some (30, [.tmp 4], S96) := by kernel_rfl

/-- (*tamis/atom.maker).masked -/
def S97 : SC :=
  (.seq (.reg [⟨some 4, .box 101 (.tmp 1), none⟩,
    ⟨some 6, .alloc 101, none⟩,
    ⟨some 7, .assign (.const (.int .i64 0)), none⟩] [])
  (.seq (.reg [⟨some 13, .move (.tmp 0), none⟩,
    ⟨some 14, .nilCheck (.tmp 13), none⟩,
    ⟨some 15, .fieldAddr 99 (.tmp 14) 0, none⟩,
    ⟨some 16, .load 40 (.tmp 15), none⟩,
    ⟨some 17, .fieldAddr 101 (.tmp 4) 1, none⟩,
    ⟨some 18, .load 3 (.tmp 17), none⟩,
    ⟨some 19, .call { callee := .value (.func 49), args := #[.tmp 16, .tmp 18], argTypes := #[40, 3] }, none⟩,
    ⟨some 12, .move (.tmp 19), none⟩,
    ⟨some 20, .extract (.tmp 12) 0, none⟩,
    ⟨some 21, .extract (.tmp 12) 1, none⟩,
    ⟨some 8, .alloc 52, none⟩,
    ⟨none, .store 52 (.tmp 8) (.tmp 20), none⟩,
    ⟨some 9, .assign (.tmp 21), none⟩] [(3, 10), (5, 10)])
  (.seq (.reg [⟨some 23, .move (.tmp 0), none⟩,
    ⟨some 24, .fieldAddr 52 (.tmp 8) 2, none⟩,
    ⟨some 25, .load 3 (.tmp 24), none⟩,
    ⟨some 26, .call { callee := .value (.func 79), args := #[.tmp 23, .tmp 25], argTypes := #[97, 3] }, none⟩,
    ⟨some 22, .move (.tmp 26), none⟩,
    ⟨some 27, .extract (.tmp 22) 0, none⟩,
    ⟨some 28, .extract (.tmp 22) 1, none⟩,
    ⟨some 10, .assign (.tmp 27), none⟩,
    ⟨some 11, .assign (.tmp 28), none⟩] [])
  (.seq (.seq (.reg [⟨some 29, .fieldAddr 52 (.tmp 8) 0, none⟩,
    ⟨some 30, .load 3 (.tmp 29), none⟩,
    ⟨some 31, .binOp .neq 3 (.tmp 30) (.const (.int .i64 336)) 3, none⟩,
    ⟨some 32, .move (.tmp 31), none⟩,
    ⟨some 33, .move (.tmp 11), some (32, false)⟩,
    ⟨some 34, .unOp .not 4 (.tmp 33), some (32, false)⟩,
    ⟨some 35, .pick (.tmp 32) (.const (.bool true)) (.tmp 34), none⟩] [])
  (.cond (.tmp 35) (.seq (.reg [⟨some 36, .load 101 (.tmp 4), none⟩,
    ⟨none, .store 101 (.tmp 6) (.tmp 36), none⟩,
    ⟨some 7, .assign (.const (.int .i64 1)), none⟩] [])
  .ret) .skip))
  (.seq (.block 0 (.seq (.reg [⟨some 38, .fieldAddr 101 (.tmp 4) 0, none⟩,
    ⟨some 39, .load 3 (.tmp 38), none⟩,
    ⟨some 40, .binOp .eql 3 (.tmp 39) (.const (.int .i64 64)) 3, none⟩,
    ⟨some 37, .assign (.tmp 40), none⟩] [])
  (.cond (.tmp 37) (.seq (.reg [⟨some 41, .fieldAddr 52 (.tmp 8) 1, none⟩,
    ⟨some 42, .load 3 (.tmp 41), none⟩,
    ⟨some 43, .move (.tmp 0), none⟩,
    ⟨some 44, .move (.tmp 10), none⟩,
    ⟨some 45, .move (.tmp 2), none⟩,
    ⟨some 46, .binOp .and 25 (.tmp 44) (.tmp 45) 25, none⟩,
    ⟨some 47, .call { callee := .value (.func 96), args := #[.tmp 43, .tmp 46], argTypes := #[97, 25] }, none⟩,
    ⟨some 48, .fieldAddr 101 (.tmp 4) 3, none⟩,
    ⟨some 49, .load 4 (.tmp 48), none⟩,
    ⟨some 50, .build 101 #[(0, .const (.int .i64 64)), (1, .tmp 42), (2, .tmp 47), (3, .tmp 49)], none⟩,
    ⟨none, .store 101 (.tmp 6) (.tmp 50), none⟩,
    ⟨some 7, .assign (.const (.int .i64 0)), none⟩] [(1, 6), (8, 6)])
  .ret) (.seq (.reg [⟨some 52, .fieldAddr 101 (.tmp 4) 0, none⟩,
    ⟨some 53, .load 3 (.tmp 52), none⟩,
    ⟨some 54, .binOp .eql 3 (.tmp 53) (.const (.int .i64 16)) 3, none⟩,
    ⟨some 55, .move (.tmp 54), none⟩,
    ⟨some 56, .move (.tmp 2), some (55, true)⟩,
    ⟨some 57, .move (.tmp 10), some (55, true)⟩,
    ⟨some 58, .binOp .andNot 25 (.tmp 56) (.tmp 57) 25, some (55, true)⟩,
    ⟨some 59, .binOp .neq 25 (.tmp 58) (.const (.int .u32 0)) 25, some (55, true)⟩,
    ⟨some 60, .pick (.tmp 55) (.tmp 59) (.const (.bool false)), none⟩,
    ⟨some 51, .assign (.tmp 60), none⟩] [])
  (.cond (.tmp 51) (.seq (.reg [⟨some 61, .load 101 (.tmp 4), none⟩,
    ⟨some 62, .fieldAddr 101 (.tmp 4) 3, none⟩,
    ⟨some 63, .load 4 (.tmp 62), none⟩,
    ⟨some 64, .call { callee := .value (.func 80), args := #[.const (.bool false), .tmp 63], argTypes := #[4, 4] }, none⟩,
    ⟨none, .store 101 (.tmp 6) (.tmp 61), none⟩,
    ⟨some 7, .assign (.tmp 64), none⟩] [(0, 3)])
  .ret) (.seq (.reg [⟨some 66, .fieldAddr 101 (.tmp 4) 0, none⟩,
    ⟨some 67, .load 3 (.tmp 66), none⟩,
    ⟨some 68, .binOp .eql 3 (.tmp 67) (.const (.int .i64 16)) 3, none⟩,
    ⟨some 69, .move (.tmp 68), none⟩,
    ⟨some 70, .move (.tmp 2), some (69, true)⟩,
    ⟨some 71, .binOp .eql 25 (.tmp 70) (.const (.int .u32 0)) 25, some (69, true)⟩,
    ⟨some 72, .pick (.tmp 69) (.tmp 71) (.const (.bool false)), none⟩,
    ⟨some 65, .assign (.tmp 72), none⟩] [])
  (.cond (.tmp 65) (.seq (.reg [⟨some 73, .fieldAddr 52 (.tmp 8) 1, none⟩,
    ⟨some 74, .load 3 (.tmp 73), none⟩,
    ⟨some 75, .fieldAddr 52 (.tmp 8) 2, none⟩,
    ⟨some 76, .load 3 (.tmp 75), none⟩,
    ⟨some 77, .fieldAddr 101 (.tmp 4) 3, none⟩,
    ⟨some 78, .load 4 (.tmp 77), none⟩,
    ⟨some 79, .unOp .not 4 (.tmp 78), none⟩,
    ⟨some 80, .build 101 #[(0, .const (.int .i64 64)), (1, .tmp 74), (2, .tmp 76), (3, .tmp 79)], none⟩,
    ⟨none, .store 101 (.tmp 6) (.tmp 80), none⟩,
    ⟨some 7, .assign (.const (.int .i64 0)), none⟩] [])
  .ret) .skip)))))))
  (.seq (.reg [⟨some 81, .load 101 (.tmp 4), none⟩,
    ⟨none, .store 101 (.tmp 6) (.tmp 81), none⟩,
    ⟨some 7, .assign (.const (.int .i64 1)), none⟩] [])
  .ret))))))
theorem S97_eq : slimF Try.prog 97 = some (82, [.cell 6 101, .tmp 7], S97) := by kernel_rfl

/-- tamis/simp.plain -/
def S98 : SC :=
  (.seq (.reg [⟨some 4, .assign (.const (.int .i64 0)), none⟩,
    ⟨some 5, .assign (.const (.int .u32 0)), none⟩] [])
  (.seq (.seq (.reg [⟨some 6, .move (.tmp 0), none⟩] [])
  (.block 0 (.seq (.seq (.reg [⟨some 8, .binOp .eql 3 (.tmp 6) (.const (.int .i64 0)) 3, none⟩,
    ⟨some 7, .assign (.tmp 8), none⟩] [])
  (.cond (.tmp 7) .skip (.seq (.reg [⟨some 9, .binOp .eql 3 (.tmp 6) (.const (.int .i64 16)) 3, none⟩,
    ⟨some 7, .assign (.tmp 9), none⟩] [])
  (.cond (.tmp 7) .skip (.seq (.reg [⟨some 10, .binOp .eql 3 (.tmp 6) (.const (.int .i64 160)) 3, none⟩,
    ⟨some 7, .assign (.tmp 10), none⟩] [])
  (.cond (.tmp 7) .skip (.seq (.reg [⟨some 11, .binOp .eql 3 (.tmp 6) (.const (.int .i64 96)) 3, none⟩,
    ⟨some 7, .assign (.tmp 11), none⟩] [])
  (.cond (.tmp 7) .skip (.reg [⟨some 12, .binOp .eql 3 (.tmp 6) (.const (.int .i64 112)) 3, none⟩,
    ⟨some 7, .assign (.tmp 12), none⟩] [])))))))))
  (.cond (.tmp 7) (.seq (.reg [⟨some 13, .move (.tmp 1), none⟩,
    ⟨some 14, .binOp .eql 25 (.tmp 13) (.const (.int .u32 0)) 25, none⟩] [])
  (.cond (.tmp 14) (.seq (.reg [⟨some 4, .assign (.const (.int .i64 1)), none⟩,
    ⟨some 5, .assign (.const (.int .u32 0)), none⟩] [])
  .ret) .skip)) (.seq (.reg [⟨some 16, .binOp .eql 3 (.tmp 6) (.const (.int .i64 64)) 3, none⟩,
    ⟨some 15, .assign (.tmp 16), none⟩] [])
  (.cond (.tmp 15) (.seq (.reg [⟨some 17, .move (.tmp 1), none⟩] [])
  (.block 1 (.seq (.reg [⟨some 19, .binOp .eql 25 (.tmp 17) (.const (.int .u32 0)) 25, none⟩,
    ⟨some 18, .assign (.tmp 19), none⟩] [])
  (.cond (.tmp 18) (.seq (.reg [⟨some 4, .assign (.const (.int .i64 1)), none⟩,
    ⟨some 5, .assign (.const (.int .u32 0)), none⟩] [])
  .ret) (.seq (.reg [⟨some 21, .binOp .eql 25 (.tmp 17) (.const (.int .u32 4294967295)) 25, none⟩,
    ⟨some 20, .assign (.tmp 21), none⟩] [])
  (.cond (.tmp 20) (.seq (.reg [⟨some 4, .assign (.const (.int .i64 2)), none⟩,
    ⟨some 5, .assign (.const (.int .u32 4294967295)), none⟩] [])
  .ret) .skip)))))) (.seq (.reg [⟨some 23, .binOp .eql 3 (.tmp 6) (.const (.int .i64 80)) 3, none⟩,
    ⟨some 22, .assign (.tmp 23), none⟩] [])
  (.cond (.tmp 22) (.seq (.reg [⟨some 24, .move (.tmp 1), none⟩] [])
  (.block 2 (.seq (.reg [⟨some 26, .binOp .eql 25 (.tmp 24) (.const (.int .u32 0)) 25, none⟩,
    ⟨some 25, .assign (.tmp 26), none⟩] [])
  (.cond (.tmp 25) (.seq (.reg [⟨some 4, .assign (.const (.int .i64 2)), none⟩,
    ⟨some 5, .assign (.const (.int .u32 0)), none⟩] [])
  .ret) (.seq (.reg [⟨some 28, .binOp .eql 25 (.tmp 24) (.const (.int .u32 4294967295)) 25, none⟩,
    ⟨some 27, .assign (.tmp 28), none⟩] [])
  (.cond (.tmp 27) (.seq (.reg [⟨some 4, .assign (.const (.int .i64 1)), none⟩,
    ⟨some 5, .assign (.const (.int .u32 0)), none⟩] [])
  .ret) .skip)))))) (.seq (.seq (.reg [⟨some 30, .binOp .eql 3 (.tmp 6) (.const (.int .i64 32)) 3, none⟩,
    ⟨some 29, .assign (.tmp 30), none⟩] [])
  (.cond (.tmp 29) .skip (.reg [⟨some 31, .binOp .eql 3 (.tmp 6) (.const (.int .i64 48)) 3, none⟩,
    ⟨some 29, .assign (.tmp 31), none⟩] [])))
  (.cond (.tmp 29) (.seq (.reg [⟨some 32, .move (.tmp 1), none⟩] [])
  (.block 3 (.seq (.reg [⟨some 34, .binOp .eql 25 (.tmp 32) (.const (.int .u32 0)) 25, none⟩,
    ⟨some 33, .assign (.tmp 34), none⟩] [])
  (.cond (.tmp 33) (.seq (.reg [⟨some 4, .assign (.const (.int .i64 2)), none⟩,
    ⟨some 5, .assign (.const (.int .u32 0)), none⟩] [])
  .ret) (.seq (.reg [⟨some 36, .binOp .eql 25 (.tmp 32) (.const (.int .u32 1)) 25, none⟩,
    ⟨some 35, .assign (.tmp 36), none⟩] [])
  (.cond (.tmp 35) (.seq (.reg [⟨some 4, .assign (.const (.int .i64 1)), none⟩,
    ⟨some 5, .assign (.const (.int .u32 0)), none⟩] [])
  .ret) .skip)))))) .skip))))))))))
  (.seq (.reg [⟨some 4, .assign (.const (.int .i64 0)), none⟩,
    ⟨some 5, .assign (.const (.int .u32 0)), none⟩] [])
  .ret)))
theorem S98_eq : slimF Try.prog 98 = some (37, [.tmp 4, .tmp 5], S98) := by kernel_rfl

/-- tamis/term.parts -/
def S99 : SC :=
  (.seq (.reg [⟨some 1, .box 52 (.tmp 0), none⟩,
    ⟨some 2, .assign (.const (.slice none 0 0)), none⟩] [])
  (.seq (.seq (.reg [⟨some 3, .fieldAddr 52 (.tmp 1) 0, none⟩,
    ⟨some 4, .load 3 (.tmp 3), none⟩] [])
  (.block 0 (.seq (.seq (.reg [⟨some 6, .binOp .eql 3 (.tmp 4) (.const (.int .i64 1)) 3, none⟩,
    ⟨some 5, .assign (.tmp 6), none⟩] [])
  (.cond (.tmp 5) .skip (.reg [⟨some 7, .binOp .eql 3 (.tmp 4) (.const (.int .i64 2)) 3, none⟩,
    ⟨some 5, .assign (.tmp 7), none⟩] [])))
  (.cond (.tmp 5) (.seq (.reg [⟨some 2, .assign (.const (.slice none 0 0)), none⟩] [])
  .ret) (.seq (.reg [⟨some 9, .binOp .eql 3 (.tmp 4) (.const (.int .i64 384)) 3, none⟩,
    ⟨some 8, .assign (.tmp 9), none⟩] [])
  (.cond (.tmp 8) (.seq (.reg [⟨some 10, .fieldAddr 52 (.tmp 1) 1, none⟩,
    ⟨some 11, .load 3 (.tmp 10), none⟩,
    ⟨some 12, .buildSlice 37 1 #[(0, .tmp 11)], none⟩,
    ⟨some 2, .assign (.tmp 12), none⟩] [])
  .ret) .skip))))))
  (.seq (.reg [⟨some 13, .fieldAddr 52 (.tmp 1) 1, none⟩,
    ⟨some 14, .load 3 (.tmp 13), none⟩,
    ⟨some 15, .fieldAddr 52 (.tmp 1) 2, none⟩,
    ⟨some 16, .load 3 (.tmp 15), none⟩,
    ⟨some 17, .buildSlice 37 2 #[(0, .tmp 14), (1, .tmp 16)], none⟩,
    ⟨some 2, .assign (.tmp 17), none⟩] [])
  .ret)))
theorem S99_eq : slimF Try.prog 99 = some (18, [.tmp 2], S99) := by kernel_rfl

end Go.Va
end

section

end
