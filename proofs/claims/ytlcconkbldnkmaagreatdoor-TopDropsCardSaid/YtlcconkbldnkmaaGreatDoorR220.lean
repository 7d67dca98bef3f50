/- Part of the executor and its soundness, or of what it is told of this seat's program. No statement of the seat is proved here. -/
import Derived.Test.YtlcconkbldnkmaaGreatDoorDr
set_option linter.unusedSimpArgs false
set_option linter.unusedVariables false
/- Runs of the law: mode 2, tries 3. No statement of the seat is proved here. -/
namespace Go.Proofs.YtlcconkbldnkmaaGreatDoor
open Go.Sx
theorem r2200 (ls : List Int) (p an ad cb qu re : Int) : lawV ls p an ad cb 2 2 0 (.iv .i64 qu 256 5000 1 0) (.int .i64 1) = rest2 ls an ad 2 := by kernel_rfl
theorem r2201 (ls : List Int) (p an ad cb qu re : Int) : lawV ls p an ad cb 2 2 1 (.iv .i64 qu 256 5000 1 0) (.int .i64 1) = rest2 ls an ad 2 := by kernel_rfl
theorem r2202 (ls : List Int) (p an ad cb qu re : Int) : lawV ls p an ad cb 2 2 2 (.iv .i64 qu 256 5000 1 0) (.int .i64 1) = rest2 ls an ad 2 := by kernel_rfl
theorem r2203 (ls : List Int) (p an ad cb qu re : Int) : lawV ls p an ad cb 2 2 3 (.iv .i64 qu 256 5000 1 0) (.int .i64 1) = rest2 ls an ad 2 := by kernel_rfl
theorem r2204 (ls : List Int) (p an ad cb qu re : Int) : lawV ls p an ad cb 2 2 4 (.iv .i64 qu 256 5000 1 0) (.int .i64 1) = rest2 ls an ad 2 := by kernel_rfl
theorem r2205 (ls : List Int) (p an ad cb qu re : Int) : lawV ls p an ad cb 2 2 5 (.iv .i64 qu 256 5000 1 0) (.int .i64 1) = rest2 ls an ad 2 := by kernel_rfl
theorem r2206 (ls : List Int) (p an ad cb qu re : Int) : lawV ls p an ad cb 2 2 6 (.iv .i64 qu 256 5000 1 0) (.int .i64 1) = rest2 ls an ad 2 := by kernel_rfl
theorem r2207 (ls : List Int) (p an ad cb qu re : Int) : lawV ls p an ad cb 2 2 7 (.iv .i64 qu 256 5000 1 0) (.int .i64 1) = rest2 ls an ad 2 := by kernel_rfl
end Go.Proofs.YtlcconkbldnkmaaGreatDoor
