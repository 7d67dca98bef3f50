/- Part of the executor and its soundness, or of what it is told of this seat's program. No statement of the seat is proved here. -/
import Derived.Test.YtlcconkbldnkmaaGreatDoorDr
set_option linter.unusedSimpArgs false
set_option linter.unusedVariables false
/- Runs of the law: mode 3, tries 1. No statement of the seat is proved here. -/
namespace Go.Proofs.YtlcconkbldnkmaaGreatDoor
open Go.Sx
theorem r3000 (ls : List Int) (p an ad cb qu re : Int) : lawV ls p an ad cb 3 0 0 (.iv .i64 qu 256 5000 1 0) (.iv .i64 re 1 1099511627776 1 0) = rest2 ls an ad 3 := by kernel_rfl
theorem r3001 (ls : List Int) (p an ad cb qu re : Int) : lawV ls p an ad cb 3 0 1 (.iv .i64 qu 256 5000 1 0) (.iv .i64 re 1 1099511627776 1 0) = rest2 ls an ad 3 := by kernel_rfl
theorem r3002 (ls : List Int) (p an ad cb qu re : Int) : lawV ls p an ad cb 3 0 2 (.iv .i64 qu 256 5000 1 0) (.iv .i64 re 1 1099511627776 1 0) = rest2 ls an ad 3 := by kernel_rfl
theorem r3003 (ls : List Int) (p an ad cb qu re : Int) : lawV ls p an ad cb 3 0 3 (.iv .i64 qu 256 5000 1 0) (.iv .i64 re 1 1099511627776 1 0) = rest2 ls an ad 3 := by kernel_rfl
theorem r3004 (ls : List Int) (p an ad cb qu re : Int) : lawV ls p an ad cb 3 0 4 (.iv .i64 qu 256 5000 1 0) (.iv .i64 re 1 1099511627776 1 0) = rest2 ls an ad 3 := by kernel_rfl
theorem r3005 (ls : List Int) (p an ad cb qu re : Int) : lawV ls p an ad cb 3 0 5 (.iv .i64 qu 256 5000 1 0) (.iv .i64 re 1 1099511627776 1 0) = rest2 ls an ad 3 := by kernel_rfl
theorem r3006 (ls : List Int) (p an ad cb qu re : Int) : lawV ls p an ad cb 3 0 6 (.iv .i64 qu 256 5000 1 0) (.iv .i64 re 1 1099511627776 1 0) = rest2 ls an ad 3 := by kernel_rfl
theorem r3007 (ls : List Int) (p an ad cb qu re : Int) : lawV ls p an ad cb 3 0 7 (.iv .i64 qu 256 5000 1 0) (.iv .i64 re 1 1099511627776 1 0) = rest2 ls an ad 3 := by kernel_rfl
end Go.Proofs.YtlcconkbldnkmaaGreatDoor
