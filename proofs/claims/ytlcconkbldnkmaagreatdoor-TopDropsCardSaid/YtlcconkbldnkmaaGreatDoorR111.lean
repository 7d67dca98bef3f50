/- Part of the executor and its soundness, or of what it is told of this seat's program. No statement of the seat is proved here. -/
import Derived.Test.YtlcconkbldnkmaaGreatDoorDr
set_option linter.unusedSimpArgs false
set_option linter.unusedVariables false
/- Runs of the law: mode 1, tries 2. No statement of the seat is proved here. -/
namespace Go.Proofs.YtlcconkbldnkmaaGreatDoor
open Go.Sx
theorem r1110 (ls : List Int) (p an ad cb qu re : Int) : lawV ls p an ad cb 1 1 0 (.iv .i64 qu 256 5000 1 0) (.iv .i64 re 268435456 1099511627776 1 0) = rest1 ls an ad 1 := by kernel_rfl
theorem r1111 (ls : List Int) (p an ad cb qu re : Int) : lawV ls p an ad cb 1 1 1 (.iv .i64 qu 256 5000 1 0) (.iv .i64 re 268435456 1099511627776 1 0) = rest1 ls an ad 1 := by kernel_rfl
theorem r1112 (ls : List Int) (p an ad cb qu re : Int) : lawV ls p an ad cb 1 1 2 (.iv .i64 qu 256 5000 1 0) (.iv .i64 re 268435456 1099511627776 1 0) = rest1 ls an ad 1 := by kernel_rfl
theorem r1113 (ls : List Int) (p an ad cb qu re : Int) : lawV ls p an ad cb 1 1 3 (.iv .i64 qu 256 5000 1 0) (.iv .i64 re 268435456 1099511627776 1 0) = rest1 ls an ad 1 := by kernel_rfl
theorem r1114 (ls : List Int) (p an ad cb qu re : Int) : lawV ls p an ad cb 1 1 4 (.iv .i64 qu 256 5000 1 0) (.iv .i64 re 268435456 1099511627776 1 0) = rest1 ls an ad 1 := by kernel_rfl
theorem r1115 (ls : List Int) (p an ad cb qu re : Int) : lawV ls p an ad cb 1 1 5 (.iv .i64 qu 256 5000 1 0) (.iv .i64 re 268435456 1099511627776 1 0) = rest1 ls an ad 1 := by kernel_rfl
theorem r1116 (ls : List Int) (p an ad cb qu re : Int) : lawV ls p an ad cb 1 1 6 (.iv .i64 qu 256 5000 1 0) (.iv .i64 re 268435456 1099511627776 1 0) = rest1 ls an ad 1 := by kernel_rfl
theorem r1117 (ls : List Int) (p an ad cb qu re : Int) : lawV ls p an ad cb 1 1 7 (.iv .i64 qu 256 5000 1 0) (.iv .i64 re 268435456 1099511627776 1 0) = rest1 ls an ad 1 := by kernel_rfl
end Go.Proofs.YtlcconkbldnkmaaGreatDoor
