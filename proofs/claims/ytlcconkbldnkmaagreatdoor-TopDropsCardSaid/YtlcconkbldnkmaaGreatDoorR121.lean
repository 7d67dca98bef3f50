/- Part of the executor and its soundness, or of what it is told of this seat's program. No statement of the seat is proved here. -/
import Derived.Test.YtlcconkbldnkmaaGreatDoorDr
set_option linter.unusedSimpArgs false
set_option linter.unusedVariables false
/- Runs of the law: mode 1, tries 3. No statement of the seat is proved here. -/
namespace Go.Proofs.YtlcconkbldnkmaaGreatDoor
open Go.Sx
theorem r1210 (ls : List Int) (p an ad cb qu re : Int) : lawV ls p an ad cb 1 2 0 (.iv .i64 qu 256 5000 1 0) (.iv .i64 re 268435456 1099511627776 1 0) = rest1 ls an ad 1 := by kernel_rfl
theorem r1211 (ls : List Int) (p an ad cb qu re : Int) : lawV ls p an ad cb 1 2 1 (.iv .i64 qu 256 5000 1 0) (.iv .i64 re 268435456 1099511627776 1 0) = rest1 ls an ad 1 := by kernel_rfl
theorem r1212 (ls : List Int) (p an ad cb qu re : Int) : lawV ls p an ad cb 1 2 2 (.iv .i64 qu 256 5000 1 0) (.iv .i64 re 268435456 1099511627776 1 0) = rest1 ls an ad 1 := by kernel_rfl
theorem r1213 (ls : List Int) (p an ad cb qu re : Int) : lawV ls p an ad cb 1 2 3 (.iv .i64 qu 256 5000 1 0) (.iv .i64 re 268435456 1099511627776 1 0) = rest1 ls an ad 1 := by kernel_rfl
theorem r1214 (ls : List Int) (p an ad cb qu re : Int) : lawV ls p an ad cb 1 2 4 (.iv .i64 qu 256 5000 1 0) (.iv .i64 re 268435456 1099511627776 1 0) = rest1 ls an ad 1 := by kernel_rfl
theorem r1215 (ls : List Int) (p an ad cb qu re : Int) : lawV ls p an ad cb 1 2 5 (.iv .i64 qu 256 5000 1 0) (.iv .i64 re 268435456 1099511627776 1 0) = rest1 ls an ad 1 := by kernel_rfl
theorem r1216 (ls : List Int) (p an ad cb qu re : Int) : lawV ls p an ad cb 1 2 6 (.iv .i64 qu 256 5000 1 0) (.iv .i64 re 268435456 1099511627776 1 0) = rest1 ls an ad 1 := by kernel_rfl
theorem r1217 (ls : List Int) (p an ad cb qu re : Int) : lawV ls p an ad cb 1 2 7 (.iv .i64 qu 256 5000 1 0) (.iv .i64 re 268435456 1099511627776 1 0) = rest1 ls an ad 1 := by kernel_rfl
end Go.Proofs.YtlcconkbldnkmaaGreatDoor
