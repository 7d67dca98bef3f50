/- Part of the executor and its soundness, or of what it is told of this seat's program. No statement of the seat is proved here. -/
import Derived.Test.YtlcconkbldnkmaaGreatDoorDr
set_option linter.unusedSimpArgs false
set_option linter.unusedVariables false
/- Runs of the law: mode 3, tries 2. No statement of the seat is proved here. -/
namespace Go.Proofs.YtlcconkbldnkmaaGreatDoor
open Go.Sx
theorem r3100 (ls : List Int) (p an ad cb qu re : Int) : lawV ls p an ad cb 3 1 0 (.iv .i64 qu 256 5000 1 0) (.iv .i64 re 1 1099511627776 1 0) = rest2 ls an ad 3 := by kernel_rfl
theorem r3101 (ls : List Int) (p an ad cb qu re : Int) : lawV ls p an ad cb 3 1 1 (.iv .i64 qu 256 5000 1 0) (.iv .i64 re 1 1099511627776 1 0) = rest2 ls an ad 3 := by kernel_rfl
theorem r3102 (ls : List Int) (p an ad cb qu re : Int) : lawV ls p an ad cb 3 1 2 (.iv .i64 qu 256 5000 1 0) (.iv .i64 re 1 1099511627776 1 0) = rest2 ls an ad 3 := by kernel_rfl
theorem r3103 (ls : List Int) (p an ad cb qu re : Int) : lawV ls p an ad cb 3 1 3 (.iv .i64 qu 256 5000 1 0) (.iv .i64 re 1 1099511627776 1 0) = rest2 ls an ad 3 := by kernel_rfl
theorem r3104 (ls : List Int) (p an ad cb qu re : Int) : lawV ls p an ad cb 3 1 4 (.iv .i64 qu 256 5000 1 0) (.iv .i64 re 1 1099511627776 1 0) = rest2 ls an ad 3 := by kernel_rfl
theorem r3105 (ls : List Int) (p an ad cb qu re : Int) : lawV ls p an ad cb 3 1 5 (.iv .i64 qu 256 5000 1 0) (.iv .i64 re 1 1099511627776 1 0) = rest2 ls an ad 3 := by kernel_rfl
theorem r3106 (ls : List Int) (p an ad cb qu re : Int) : lawV ls p an ad cb 3 1 6 (.iv .i64 qu 256 5000 1 0) (.iv .i64 re 1 1099511627776 1 0) = rest2 ls an ad 3 := by kernel_rfl
theorem r3107 (ls : List Int) (p an ad cb qu re : Int) : lawV ls p an ad cb 3 1 7 (.iv .i64 qu 256 5000 1 0) (.iv .i64 re 1 1099511627776 1 0) = rest2 ls an ad 3 := by kernel_rfl
end Go.Proofs.YtlcconkbldnkmaaGreatDoor
