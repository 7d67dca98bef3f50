/- Part of the executor and its soundness, or of what it is told of this seat's program. No statement of the seat is proved here. -/
import Derived.Test.YtlcconkbldnkmaaGreatDoorDr
set_option linter.unusedSimpArgs false
set_option linter.unusedVariables false
/- Runs of the law: mode 3, tries 3. No statement of the seat is proved here. -/
namespace Go.Proofs.YtlcconkbldnkmaaGreatDoor
open Go.Sx
theorem r3210 (ls : List Int) (p an ad cb qu re : Int) : lawV ls p an ad cb 3 2 0 (.iv .i64 qu 1000 5000 1 0) (.iv .i64 re 1 1099511627776 1 0) = rest2 ls an ad 3 := by kernel_rfl
theorem r3211 (ls : List Int) (p an ad cb qu re : Int) : lawV ls p an ad cb 3 2 1 (.iv .i64 qu 1000 5000 1 0) (.iv .i64 re 1 1099511627776 1 0) = rest2 ls an ad 3 := by kernel_rfl
theorem r3212 (ls : List Int) (p an ad cb qu re : Int) : lawV ls p an ad cb 3 2 2 (.iv .i64 qu 1000 5000 1 0) (.iv .i64 re 1 1099511627776 1 0) = rest2 ls an ad 3 := by kernel_rfl
theorem r3213 (ls : List Int) (p an ad cb qu re : Int) : lawV ls p an ad cb 3 2 3 (.iv .i64 qu 1000 5000 1 0) (.iv .i64 re 1 1099511627776 1 0) = rest2 ls an ad 3 := by kernel_rfl
theorem r3214 (ls : List Int) (p an ad cb qu re : Int) : lawV ls p an ad cb 3 2 4 (.iv .i64 qu 1000 5000 1 0) (.iv .i64 re 1 1099511627776 1 0) = rest2 ls an ad 3 := by kernel_rfl
theorem r3215 (ls : List Int) (p an ad cb qu re : Int) : lawV ls p an ad cb 3 2 5 (.iv .i64 qu 1000 5000 1 0) (.iv .i64 re 1 1099511627776 1 0) = rest2 ls an ad 3 := by kernel_rfl
theorem r3216 (ls : List Int) (p an ad cb qu re : Int) : lawV ls p an ad cb 3 2 6 (.iv .i64 qu 1000 5000 1 0) (.iv .i64 re 1 1099511627776 1 0) = rest2 ls an ad 3 := by kernel_rfl
theorem r3217 (ls : List Int) (p an ad cb qu re : Int) : lawV ls p an ad cb 3 2 7 (.iv .i64 qu 1000 5000 1 0) (.iv .i64 re 1 1099511627776 1 0) = rest2 ls an ad 3 := by kernel_rfl
end Go.Proofs.YtlcconkbldnkmaaGreatDoor
