/- Part of the executor and its soundness, or of what it is told of this seat's program. No statement of the seat is proved here. -/
import Derived.Test.YtlcconkbldnkmaaGreatDoorDr
set_option linter.unusedSimpArgs false
set_option linter.unusedVariables false
/- Runs of the law: mode 3, tries 3. No statement of the seat is proved here. -/
namespace Go.Proofs.YtlcconkbldnkmaaGreatDoor
open Go.Sx
theorem r3200 (ls : List Int) (p an ad cb qu re : Int) : lawV ls p an ad cb 3 2 0 (.int .i64 256) (.iv .i64 re 1 1099511627776 1 0) = rest2 ls an ad 3 := by kernel_rfl
theorem r3201 (ls : List Int) (p an ad cb qu re : Int) : lawV ls p an ad cb 3 2 1 (.int .i64 256) (.iv .i64 re 1 1099511627776 1 0) = rest2 ls an ad 3 := by kernel_rfl
theorem r3202 (ls : List Int) (p an ad cb qu re : Int) : lawV ls p an ad cb 3 2 2 (.int .i64 256) (.iv .i64 re 1 1099511627776 1 0) = rest2 ls an ad 3 := by kernel_rfl
theorem r3203 (ls : List Int) (p an ad cb qu re : Int) : lawV ls p an ad cb 3 2 3 (.int .i64 256) (.iv .i64 re 1 1099511627776 1 0) = rest2 ls an ad 3 := by kernel_rfl
theorem r3204 (ls : List Int) (p an ad cb qu re : Int) : lawV ls p an ad cb 3 2 4 (.int .i64 256) (.iv .i64 re 1 1099511627776 1 0) = rest2 ls an ad 3 := by kernel_rfl
theorem r3205 (ls : List Int) (p an ad cb qu re : Int) : lawV ls p an ad cb 3 2 5 (.int .i64 256) (.iv .i64 re 1 1099511627776 1 0) = rest2 ls an ad 3 := by kernel_rfl
theorem r3206 (ls : List Int) (p an ad cb qu re : Int) : lawV ls p an ad cb 3 2 6 (.int .i64 256) (.iv .i64 re 1 1099511627776 1 0) = rest2 ls an ad 3 := by kernel_rfl
theorem r3207 (ls : List Int) (p an ad cb qu re : Int) : lawV ls p an ad cb 3 2 7 (.int .i64 256) (.iv .i64 re 1 1099511627776 1 0) = rest2 ls an ad 3 := by kernel_rfl
end Go.Proofs.YtlcconkbldnkmaaGreatDoor
