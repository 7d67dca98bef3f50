/- Part of the executor and its soundness, or of what it is told of this seat's program. No statement of the seat is proved here. -/
import Derived.Test.YtlcconkbldnkmaaGreatDoorDr
set_option linter.unusedSimpArgs false
set_option linter.unusedVariables false
/- Runs of the law: mode 2, tries 3. No statement of the seat is proved here. -/
namespace Go.Proofs.YtlcconkbldnkmaaGreatDoor
open Go.Sx
theorem r2210 (ls : List Int) (p an ad cb qu re : Int) : lawV ls p an ad cb 2 2 0 (.iv .i64 qu 256 5000 1 0) (.iv .i64 re 268435456 1099511627776 1 0) = rest2 ls an ad 2 := by kernel_rfl
theorem r2211 (ls : List Int) (p an ad cb qu re : Int) : lawV ls p an ad cb 2 2 1 (.iv .i64 qu 256 5000 1 0) (.iv .i64 re 268435456 1099511627776 1 0) = rest2 ls an ad 2 := by kernel_rfl
theorem r2212 (ls : List Int) (p an ad cb qu re : Int) : lawV ls p an ad cb 2 2 2 (.iv .i64 qu 256 5000 1 0) (.iv .i64 re 268435456 1099511627776 1 0) = rest2 ls an ad 2 := by kernel_rfl
theorem r2213 (ls : List Int) (p an ad cb qu re : Int) : lawV ls p an ad cb 2 2 3 (.iv .i64 qu 256 5000 1 0) (.iv .i64 re 268435456 1099511627776 1 0) = rest2 ls an ad 2 := by kernel_rfl
theorem r2214 (ls : List Int) (p an ad cb qu re : Int) : lawV ls p an ad cb 2 2 4 (.iv .i64 qu 256 5000 1 0) (.iv .i64 re 268435456 1099511627776 1 0) = rest2 ls an ad 2 := by kernel_rfl
theorem r2215 (ls : List Int) (p an ad cb qu re : Int) : lawV ls p an ad cb 2 2 5 (.iv .i64 qu 256 5000 1 0) (.iv .i64 re 268435456 1099511627776 1 0) = rest2 ls an ad 2 := by kernel_rfl
theorem r2216 (ls : List Int) (p an ad cb qu re : Int) : lawV ls p an ad cb 2 2 6 (.iv .i64 qu 256 5000 1 0) (.iv .i64 re 268435456 1099511627776 1 0) = rest2 ls an ad 2 := by kernel_rfl
theorem r2217 (ls : List Int) (p an ad cb qu re : Int) : lawV ls p an ad cb 2 2 7 (.iv .i64 qu 256 5000 1 0) (.iv .i64 re 268435456 1099511627776 1 0) = rest2 ls an ad 2 := by kernel_rfl
end Go.Proofs.YtlcconkbldnkmaaGreatDoor
