/- Part of the executor and its soundness, or of what it is told of this seat's program. No statement of the seat is proved here. -/
import Derived.Test.YtlcconkbldnkmaaGreatDoorDr
set_option linter.unusedSimpArgs false
set_option linter.unusedVariables false
/- Runs of the law: mode 2, tries 2. No statement of the seat is proved here. -/
namespace Go.Proofs.YtlcconkbldnkmaaGreatDoor
open Go.Sx
theorem r2100 (ls : List Int) (p an ad cb qu re : Int) : lawV ls p an ad cb 2 1 0 (.iv .i64 qu 256 5000 1 0) (.int .i64 1) = rest2 ls an ad 2 := by kernel_rfl
theorem r2101 (ls : List Int) (p an ad cb qu re : Int) : lawV ls p an ad cb 2 1 1 (.iv .i64 qu 256 5000 1 0) (.int .i64 1) = rest2 ls an ad 2 := by kernel_rfl
theorem r2102 (ls : List Int) (p an ad cb qu re : Int) : lawV ls p an ad cb 2 1 2 (.iv .i64 qu 256 5000 1 0) (.int .i64 1) = rest2 ls an ad 2 := by kernel_rfl
theorem r2103 (ls : List Int) (p an ad cb qu re : Int) : lawV ls p an ad cb 2 1 3 (.iv .i64 qu 256 5000 1 0) (.int .i64 1) = rest2 ls an ad 2 := by kernel_rfl
theorem r2104 (ls : List Int) (p an ad cb qu re : Int) : lawV ls p an ad cb 2 1 4 (.iv .i64 qu 256 5000 1 0) (.int .i64 1) = rest2 ls an ad 2 := by kernel_rfl
theorem r2105 (ls : List Int) (p an ad cb qu re : Int) : lawV ls p an ad cb 2 1 5 (.iv .i64 qu 256 5000 1 0) (.int .i64 1) = rest2 ls an ad 2 := by kernel_rfl
theorem r2106 (ls : List Int) (p an ad cb qu re : Int) : lawV ls p an ad cb 2 1 6 (.iv .i64 qu 256 5000 1 0) (.int .i64 1) = rest2 ls an ad 2 := by kernel_rfl
theorem r2107 (ls : List Int) (p an ad cb qu re : Int) : lawV ls p an ad cb 2 1 7 (.iv .i64 qu 256 5000 1 0) (.int .i64 1) = rest2 ls an ad 2 := by kernel_rfl
end Go.Proofs.YtlcconkbldnkmaaGreatDoor
