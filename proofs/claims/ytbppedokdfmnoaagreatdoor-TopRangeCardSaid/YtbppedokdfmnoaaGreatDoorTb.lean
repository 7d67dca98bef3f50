/- Part of the executor and its soundness, or of what it is told of this seat's program. No statement of the seat is proved here. -/
import Derived.Test.YtbppedokdfmnoaaGreatDoorProg
import Derived.Test.YtbppedokdfmnoaaGreatDoorSx4
import Derived.KernelRfl
import Derived.Laws.Externs
import Derived.Lib.Bytealg
set_option linter.unusedSimpArgs false
set_option linter.unusedVariables false
namespace Go.Proofs.YtbppedokdfmnoaaGreatDoor
open Go.Sx
noncomputable def tab : Tab := [
  [[⟨.other, 1, 0, [.bot], false, false⟩,
   ⟨.other, 1, 8, [.any], false, false⟩,
   ⟨.int .i64, 1, 8, [.int .i64 0], false, false⟩,
   ⟨.int .i64, 1, 8, [.int .i64 0], false, false⟩,
   ⟨.bool, 1, 1, [.ff], false, false⟩,
   ⟨.int .u8, 1, 1, [.int .u8 0], false, false⟩,
   ⟨.int .u8, 1, 1, [.int .u8 0], false, false⟩,
   ⟨.struct [(0, (2, 1)), (1, (3, 1)), (2, (4, 1)), (3, (6, 1))], 4, 24, [.int .i64 0, .int .i64 0, .ff, .int .u8 0], true, true⟩],
   [⟨.struct [(0, (2, 1)), (1, (3, 1)), (2, (4, 1)), (3, (6, 1))], 4, 24, [.int .i64 0, .int .i64 0, .ff, .int .u8 0], true, true⟩,
   ⟨.str, 1, 16, [.str []], false, false⟩,
   ⟨.str, 1, 16, [.str []], false, false⟩,
   ⟨.str, 1, 16, [.str []], false, false⟩,
   ⟨.int .u64, 1, 8, [.int .u64 0], false, false⟩,
   ⟨.struct [(0, (9, 1)), (1, (12, 1))], 2, 24, [.str [], .int .u64 0], false, true⟩,
   ⟨.struct [(0, (9, 1)), (1, (12, 1))], 2, 24, [.str [], .int .u64 0], false, true⟩,
   ⟨.ptr 531, 1, 8, [.nilp], false, false⟩],
   [⟨.ptr 534, 1, 8, [.nilp], false, false⟩,
   ⟨.ptr 541, 1, 8, [.nilp], false, false⟩,
   ⟨.struct [(0, (17, 1))], 1, 8, [.nilp], false, true⟩,
   ⟨.struct [(0, (17, 1))], 1, 8, [.nilp], false, true⟩,
   ⟨.iface, 1, 16, [.nili], false, false⟩,
   ⟨.int .i32, 1, 4, [.int .i32 0], false, false⟩,
   ⟨.slice 3, 1, 24, [.nils], false, false⟩,
   ⟨.ptr 56, 1, 8, [.nilp], false, false⟩],
   [⟨.other, 1, 8, [.any], false, false⟩,
   ⟨.struct [(0, (2, 1)), (1, (2, 1))], 2, 16, [.int .i64 0, .int .i64 0], true, true⟩,
   ⟨.struct [(0, (2, 1)), (1, (2, 1))], 2, 16, [.int .i64 0, .int .i64 0], true, true⟩,
   ⟨.struct [(0, (3, 1)), (1, (3, 1)), (2, (3, 1))], 3, 24, [.int .i64 0, .int .i64 0, .int .i64 0], true, true⟩,
   ⟨.struct [(0, (3, 1)), (1, (3, 1)), (2, (3, 1))], 3, 24, [.int .i64 0, .int .i64 0, .int .i64 0], true, true⟩,
   ⟨.struct [(0, (3, 1)), (1, (3, 1)), (2, (2, 1))], 3, 24, [.int .i64 0, .int .i64 0, .int .i64 0], true, true⟩,
   ⟨.struct [(0, (3, 1)), (1, (3, 1)), (2, (2, 1))], 3, 24, [.int .i64 0, .int .i64 0, .int .i64 0], true, true⟩,
   ⟨.slice 61, 1, 24, [.nils], false, false⟩],
   [⟨.struct [(0, (3, 1)), (1, (26, 2)), (3, (28, 3)), (6, (30, 3)), (9, (3, 1)), (10, (3, 1)), (11, (2, 1)), (12, (3, 1)), (13, (2, 1)), (14, (31, 1))], 15, 136, [.int .i64 0, .int .i64 0, .int .i64 0, .int .i64 0, .int .i64 0, .int .i64 0, .int .i64 0, .int .i64 0, .int .i64 0, .int .i64 0, .int .i64 0, .int .i64 0, .int .i64 0, .int .i64 0, .nils], true, true⟩,
   ⟨.struct [(0, (3, 1)), (1, (26, 2)), (3, (28, 3)), (6, (30, 3)), (9, (3, 1)), (10, (3, 1)), (11, (2, 1)), (12, (3, 1)), (13, (2, 1)), (14, (31, 1))], 15, 136, [.int .i64 0, .int .i64 0, .int .i64 0, .int .i64 0, .int .i64 0, .int .i64 0, .int .i64 0, .int .i64 0, .int .i64 0, .int .i64 0, .int .i64 0, .int .i64 0, .int .i64 0, .int .i64 0, .nils], true, true⟩,
   ⟨.other, 1, 8, [.any], false, false⟩,
   ⟨.other, 1, 8, [.any], false, false⟩,
   ⟨.ptr 76, 1, 8, [.nilp], false, false⟩,
   ⟨.int .i64, 1, 8, [.int .i64 0], false, false⟩,
   ⟨.other, 1, 0, [.bot], false, false⟩,
   ⟨.other, 1, 8, [.any], false, false⟩],
   [⟨.slice 47, 1, 24, [.nils], false, false⟩,
   ⟨.other, 1, 8, [.any], false, false⟩,
   ⟨.struct [(0, (37, 1)), (1, (3, 1))], 2, 16, [.int .i64 0, .int .i64 0], true, true⟩,
   ⟨.struct [(0, (37, 1)), (1, (3, 1))], 2, 16, [.int .i64 0, .int .i64 0], true, true⟩,
   ⟨.other, 1, 8, [.any], false, false⟩,
   ⟨.slice 4, 1, 24, [.nils], false, false⟩,
   ⟨.struct [(0, (3, 1)), (1, (3, 1)), (2, (3, 1)), (3, (3, 1)), (4, (9, 1)), (5, (45, 1))], 6, 72, [.int .i64 0, .int .i64 0, .int .i64 0, .int .i64 0, .str [], .nils], true, true⟩,
   ⟨.struct [(0, (3, 1)), (1, (3, 1)), (2, (3, 1)), (3, (3, 1)), (4, (9, 1)), (5, (45, 1))], 6, 72, [.int .i64 0, .int .i64 0, .int .i64 0, .int .i64 0, .str [], .nils], true, true⟩],
   [⟨.other, 1, 8, [.any], false, false⟩,
   ⟨.other, 1, 8, [.any], false, false⟩,
   ⟨.other, 1, 0, [.bot], false, false⟩,
   ⟨.other, 1, 8, [.any], false, false⟩,
   ⟨.slice 90, 1, 24, [.nils], false, false⟩,
   ⟨.other, 1, 8, [.any], false, false⟩,
   ⟨.other, 1, 8, [.any], false, false⟩,
   ⟨.struct [(0, (22, 1)), (1, (3, 1))], 2, 32, [.nils, .int .i64 0], true, true⟩],
   [⟨.struct [(0, (22, 1)), (1, (3, 1))], 2, 32, [.nils, .int .i64 0], true, true⟩,
   ⟨.other, 1, 8, [.any], false, false⟩,
   ⟨.other, 1, 8, [.any], false, false⟩,
   ⟨.slice 2, 1, 24, [.nils], false, false⟩,
   ⟨.struct [(0, (2, 1)), (1, (2, 1))], 2, 16, [.int .i64 0, .int .i64 0], true, true⟩,
   ⟨.struct [(0, (2, 1)), (1, (2, 1))], 2, 16, [.int .i64 0, .int .i64 0], true, true⟩,
   ⟨.other, 1, 8, [.any], false, false⟩,
   ⟨.other, 1, 8, [.any], false, false⟩]],
  [[⟨.ptr 102, 1, 8, [.nilp], false, false⟩,
   ⟨.other, 1, 0, [.bot], false, false⟩,
   ⟨.other, 1, 8, [.any], false, false⟩,
   ⟨.ptr 110, 1, 8, [.nilp], false, false⟩,
   ⟨.other, 1, 8, [.any], false, false⟩,
   ⟨.slice 82, 1, 24, [.nils], false, false⟩,
   ⟨.slice 133, 1, 24, [.nils], false, false⟩,
   ⟨.slice 194, 1, 24, [.nils], false, false⟩],
   [⟨.slice 188, 1, 24, [.nils], false, false⟩,
   ⟨.iface, 1, 16, [.nili], false, false⟩,
   ⟨.iface, 1, 16, [.nili], false, false⟩,
   ⟨.struct [(0, (33, 15)), (15, (3, 1)), (16, (3, 1)), (17, (2, 1)), (18, (4, 1)), (19, (3, 1)), (20, (64, 1)), (21, (69, 1)), (22, (70, 1)), (23, (71, 1)), (24, (67, 1)), (25, (72, 1)), (26, (74, 1)), (27, (22, 1)), (28, (52, 1))], 29, 352, [.int .i64 0, .int .i64 0, .int .i64 0, .int .i64 0, .int .i64 0, .int .i64 0, .int .i64 0, .int .i64 0, .int .i64 0, .int .i64 0, .int .i64 0, .int .i64 0, .int .i64 0, .int .i64 0, .nils, .int .i64 0, .int .i64 0, .int .i64 0, .ff, .int .i64 0, .nilp, .nils, .nils, .nils, .nilp, .nils, .nili, .nils, .nils], false, true⟩,
   ⟨.struct [(0, (33, 15)), (15, (3, 1)), (16, (3, 1)), (17, (2, 1)), (18, (4, 1)), (19, (3, 1)), (20, (64, 1)), (21, (69, 1)), (22, (70, 1)), (23, (71, 1)), (24, (67, 1)), (25, (72, 1)), (26, (74, 1)), (27, (22, 1)), (28, (52, 1))], 29, 352, [.int .i64 0, .int .i64 0, .int .i64 0, .int .i64 0, .int .i64 0, .int .i64 0, .int .i64 0, .int .i64 0, .int .i64 0, .int .i64 0, .int .i64 0, .int .i64 0, .int .i64 0, .int .i64 0, .nils, .int .i64 0, .int .i64 0, .int .i64 0, .ff, .int .i64 0, .nilp, .nils, .nils, .nils, .nilp, .nils, .nili, .nils, .nils], false, true⟩,
   ⟨.other, 1, 8, [.any], false, false⟩,
   ⟨.other, 1, 8, [.any], false, false⟩,
   ⟨.other, 1, 0, [.bot], false, false⟩],
   [⟨.other, 1, 8, [.any], false, false⟩,
   ⟨.struct [(0, (9, 1)), (1, (3, 1)), (2, (3, 1)), (3, (3, 1)), (4, (3, 1))], 5, 48, [.str [], .int .i64 0, .int .i64 0, .int .i64 0, .int .i64 0], true, true⟩,
   ⟨.struct [(0, (9, 1)), (1, (3, 1)), (2, (3, 1)), (3, (3, 1)), (4, (3, 1))], 5, 48, [.str [], .int .i64 0, .int .i64 0, .int .i64 0, .int .i64 0], true, true⟩,
   ⟨.other, 1, 8, [.any], false, false⟩,
   ⟨.other, 1, 8, [.any], false, false⟩,
   ⟨.other, 1, 8, [.any], false, false⟩,
   ⟨.struct [(0, (9, 1)), (1, (3, 1)), (2, (3, 1)), (3, (3, 1)), (4, (3, 1))], 5, 48, [.str [], .int .i64 0, .int .i64 0, .int .i64 0, .int .i64 0], true, true⟩,
   ⟨.struct [(0, (9, 1)), (1, (3, 1)), (2, (3, 1)), (3, (3, 1)), (4, (3, 1))], 5, 48, [.str [], .int .i64 0, .int .i64 0, .int .i64 0, .int .i64 0], true, true⟩],
   [⟨.other, 1, 8, [.any], false, false⟩,
   ⟨.struct [(0, (3, 1)), (1, (3, 1)), (2, (3, 1)), (3, (3, 1)), (4, (3, 1)), (5, (2, 1))], 6, 48, [.int .i64 0, .int .i64 0, .int .i64 0, .int .i64 0, .int .i64 0, .int .i64 0], true, true⟩,
   ⟨.struct [(0, (3, 1)), (1, (3, 1)), (2, (3, 1)), (3, (3, 1)), (4, (3, 1)), (5, (2, 1))], 6, 48, [.int .i64 0, .int .i64 0, .int .i64 0, .int .i64 0, .int .i64 0, .int .i64 0], true, true⟩,
   ⟨.other, 1, 8, [.any], false, false⟩,
   ⟨.other, 1, 8, [.any], false, false⟩,
   ⟨.slice 26, 1, 24, [.nils], false, false⟩,
   ⟨.other, 1, 8, [.any], false, false⟩,
   ⟨.other, 1, 8, [.any], false, false⟩],
   [⟨.other, 1, 8, [.any], false, false⟩,
   ⟨.other, 1, 8, [.any], false, false⟩,
   ⟨.map 9 3, 1, 8, [.nilm], false, false⟩,
   ⟨.slice 305, 1, 24, [.nils], false, false⟩,
   ⟨.slice 219, 1, 24, [.nils], false, false⟩,
   ⟨.struct [(0, (3, 1)), (1, (3, 1)), (2, (99, 1)), (3, (98, 1)), (4, (100, 1)), (5, (3, 1))], 6, 80, [.int .i64 0, .int .i64 0, .nils, .nilm, .nils, .int .i64 0], true, true⟩,
   ⟨.struct [(0, (3, 1)), (1, (3, 1)), (2, (99, 1)), (3, (98, 1)), (4, (100, 1)), (5, (3, 1))], 6, 80, [.int .i64 0, .int .i64 0, .nils, .nilm, .nils, .int .i64 0], true, true⟩,
   ⟨.slice 303, 1, 24, [.nils], false, false⟩],
   [⟨.struct [(0, (3, 1)), (1, (3, 1)), (2, (3, 1)), (3, (3, 1)), (4, (2, 1)), (5, (2, 1))], 6, 48, [.int .i64 0, .int .i64 0, .int .i64 0, .int .i64 0, .int .i64 0, .int .i64 0], true, true⟩,
   ⟨.struct [(0, (3, 1)), (1, (3, 1)), (2, (3, 1)), (3, (3, 1)), (4, (2, 1)), (5, (2, 1))], 6, 48, [.int .i64 0, .int .i64 0, .int .i64 0, .int .i64 0, .int .i64 0, .int .i64 0], true, true⟩,
   ⟨.struct [(0, (105, 6)), (6, (22, 1))], 7, 72, [.int .i64 0, .int .i64 0, .int .i64 0, .int .i64 0, .int .i64 0, .int .i64 0, .nils], true, true⟩,
   ⟨.struct [(0, (105, 6)), (6, (22, 1))], 7, 72, [.int .i64 0, .int .i64 0, .int .i64 0, .int .i64 0, .int .i64 0, .int .i64 0, .nils], true, true⟩,
   ⟨.array 32 107, 224, 2304, [.int .i64 0, .int .i64 0, .int .i64 0, .int .i64 0, .int .i64 0, .int .i64 0, .nils, .int .i64 0, .int .i64 0, .int .i64 0, .int .i64 0, .int .i64 0, .int .i64 0, .nils, .int .i64 0, .int .i64 0, .int .i64 0, .int .i64 0, .int .i64 0, .int .i64 0, .nils, .int .i64 0, .int .i64 0, .int .i64 0, .int .i64 0, .int .i64 0, .int .i64 0, .nils, .int .i64 0, .int .i64 0, .int .i64 0, .int .i64 0, .int .i64 0, .int .i64 0, .nils, .int .i64 0, .int .i64 0, .int .i64 0, .int .i64 0, .int .i64 0, .int .i64 0, .nils, .int .i64 0, .int .i64 0, .int .i64 0, .int .i64 0, .int .i64 0, .int .i64 0, .nils, .int .i64 0, .int .i64 0, .int .i64 0, .int .i64 0, .int .i64 0, .int .i64 0, .nils, .int .i64 0, .int .i64 0, .int .i64 0, .int .i64 0, .int .i64 0, .int .i64 0, .nils, .int .i64 0, .int .i64 0, .int .i64 0, .int .i64 0, .int .i64 0, .int .i64 0, .nils, .int .i64 0, .int .i64 0, .int .i64 0, .int .i64 0, .int .i64 0, .int .i64 0, .nils, .int .i64 0, .int .i64 0, .int .i64 0, .int .i64 0, .int .i64 0, .int .i64 0, .nils, .int .i64 0, .int .i64 0, .int .i64 0, .int .i64 0, .int .i64 0, .int .i64 0, .nils, .int .i64 0, .int .i64 0, .int .i64 0, .int .i64 0, .int .i64 0, .int .i64 0, .nils, .int .i64 0, .int .i64 0, .int .i64 0, .int .i64 0, .int .i64 0, .int .i64 0, .nils, .int .i64 0, .int .i64 0, .int .i64 0, .int .i64 0, .int .i64 0, .int .i64 0, .nils, .int .i64 0, .int .i64 0, .int .i64 0, .int .i64 0, .int .i64 0, .int .i64 0, .nils, .int .i64 0, .int .i64 0, .int .i64 0, .int .i64 0, .int .i64 0, .int .i64 0, .nils, .int .i64 0, .int .i64 0, .int .i64 0, .int .i64 0, .int .i64 0, .int .i64 0, .nils, .int .i64 0, .int .i64 0, .int .i64 0, .int .i64 0, .int .i64 0, .int .i64 0, .nils, .int .i64 0, .int .i64 0, .int .i64 0, .int .i64 0, .int .i64 0, .int .i64 0, .nils, .int .i64 0, .int .i64 0, .int .i64 0, .int .i64 0, .int .i64 0, .int .i64 0, .nils, .int .i64 0, .int .i64 0, .int .i64 0, .int .i64 0, .int .i64 0, .int .i64 0, .nils, .int .i64 0, .int .i64 0, .int .i64 0, .int .i64 0, .int .i64 0, .int .i64 0, .nils, .int .i64 0, .int .i64 0, .int .i64 0, .int .i64 0, .int .i64 0, .int .i64 0, .nils, .int .i64 0, .int .i64 0, .int .i64 0, .int .i64 0, .int .i64 0, .int .i64 0, .nils, .int .i64 0, .int .i64 0, .int .i64 0, .int .i64 0, .int .i64 0, .int .i64 0, .nils, .int .i64 0, .int .i64 0, .int .i64 0, .int .i64 0, .int .i64 0, .int .i64 0, .nils, .int .i64 0, .int .i64 0, .int .i64 0, .int .i64 0, .int .i64 0, .int .i64 0, .nils, .int .i64 0, .int .i64 0, .int .i64 0, .int .i64 0, .int .i64 0, .int .i64 0, .nils, .int .i64 0, .int .i64 0, .int .i64 0, .int .i64 0, .int .i64 0, .int .i64 0, .nils, .int .i64 0, .int .i64 0, .int .i64 0, .int .i64 0, .int .i64 0, .int .i64 0, .nils], false, true⟩,
   ⟨.struct [(0, (103, 1)), (1, (108, 224))], 225, 2328, [.nils, .int .i64 0, .int .i64 0, .int .i64 0, .int .i64 0, .int .i64 0, .int .i64 0, .nils, .int .i64 0, .int .i64 0, .int .i64 0, .int .i64 0, .int .i64 0, .int .i64 0, .nils, .int .i64 0, .int .i64 0, .int .i64 0, .int .i64 0, .int .i64 0, .int .i64 0, .nils, .int .i64 0, .int .i64 0, .int .i64 0, .int .i64 0, .int .i64 0, .int .i64 0, .nils, .int .i64 0, .int .i64 0, .int .i64 0, .int .i64 0, .int .i64 0, .int .i64 0, .nils, .int .i64 0, .int .i64 0, .int .i64 0, .int .i64 0, .int .i64 0, .int .i64 0, .nils, .int .i64 0, .int .i64 0, .int .i64 0, .int .i64 0, .int .i64 0, .int .i64 0, .nils, .int .i64 0, .int .i64 0, .int .i64 0, .int .i64 0, .int .i64 0, .int .i64 0, .nils, .int .i64 0, .int .i64 0, .int .i64 0, .int .i64 0, .int .i64 0, .int .i64 0, .nils, .int .i64 0, .int .i64 0, .int .i64 0, .int .i64 0, .int .i64 0, .int .i64 0, .nils, .int .i64 0, .int .i64 0, .int .i64 0, .int .i64 0, .int .i64 0, .int .i64 0, .nils, .int .i64 0, .int .i64 0, .int .i64 0, .int .i64 0, .int .i64 0, .int .i64 0, .nils, .int .i64 0, .int .i64 0, .int .i64 0, .int .i64 0, .int .i64 0, .int .i64 0, .nils, .int .i64 0, .int .i64 0, .int .i64 0, .int .i64 0, .int .i64 0, .int .i64 0, .nils, .int .i64 0, .int .i64 0, .int .i64 0, .int .i64 0, .int .i64 0, .int .i64 0, .nils, .int .i64 0, .int .i64 0, .int .i64 0, .int .i64 0, .int .i64 0, .int .i64 0, .nils, .int .i64 0, .int .i64 0, .int .i64 0, .int .i64 0, .int .i64 0, .int .i64 0, .nils, .int .i64 0, .int .i64 0, .int .i64 0, .int .i64 0, .int .i64 0, .int .i64 0, .nils, .int .i64 0, .int .i64 0, .int .i64 0, .int .i64 0, .int .i64 0, .int .i64 0, .nils, .int .i64 0, .int .i64 0, .int .i64 0, .int .i64 0, .int .i64 0, .int .i64 0, .nils, .int .i64 0, .int .i64 0, .int .i64 0, .int .i64 0, .int .i64 0, .int .i64 0, .nils, .int .i64 0, .int .i64 0, .int .i64 0, .int .i64 0, .int .i64 0, .int .i64 0, .nils, .int .i64 0, .int .i64 0, .int .i64 0, .int .i64 0, .int .i64 0, .int .i64 0, .nils, .int .i64 0, .int .i64 0, .int .i64 0, .int .i64 0, .int .i64 0, .int .i64 0, .nils, .int .i64 0, .int .i64 0, .int .i64 0, .int .i64 0, .int .i64 0, .int .i64 0, .nils, .int .i64 0, .int .i64 0, .int .i64 0, .int .i64 0, .int .i64 0, .int .i64 0, .nils, .int .i64 0, .int .i64 0, .int .i64 0, .int .i64 0, .int .i64 0, .int .i64 0, .nils, .int .i64 0, .int .i64 0, .int .i64 0, .int .i64 0, .int .i64 0, .int .i64 0, .nils, .int .i64 0, .int .i64 0, .int .i64 0, .int .i64 0, .int .i64 0, .int .i64 0, .nils, .int .i64 0, .int .i64 0, .int .i64 0, .int .i64 0, .int .i64 0, .int .i64 0, .nils, .int .i64 0, .int .i64 0, .int .i64 0, .int .i64 0, .int .i64 0, .int .i64 0, .nils, .int .i64 0, .int .i64 0, .int .i64 0, .int .i64 0, .int .i64 0, .int .i64 0, .nils], true, true⟩,
   ⟨.struct [(0, (103, 1)), (1, (108, 224))], 225, 2328, [.nils, .int .i64 0, .int .i64 0, .int .i64 0, .int .i64 0, .int .i64 0, .int .i64 0, .nils, .int .i64 0, .int .i64 0, .int .i64 0, .int .i64 0, .int .i64 0, .int .i64 0, .nils, .int .i64 0, .int .i64 0, .int .i64 0, .int .i64 0, .int .i64 0, .int .i64 0, .nils, .int .i64 0, .int .i64 0, .int .i64 0, .int .i64 0, .int .i64 0, .int .i64 0, .nils, .int .i64 0, .int .i64 0, .int .i64 0, .int .i64 0, .int .i64 0, .int .i64 0, .nils, .int .i64 0, .int .i64 0, .int .i64 0, .int .i64 0, .int .i64 0, .int .i64 0, .nils, .int .i64 0, .int .i64 0, .int .i64 0, .int .i64 0, .int .i64 0, .int .i64 0, .nils, .int .i64 0, .int .i64 0, .int .i64 0, .int .i64 0, .int .i64 0, .int .i64 0, .nils, .int .i64 0, .int .i64 0, .int .i64 0, .int .i64 0, .int .i64 0, .int .i64 0, .nils, .int .i64 0, .int .i64 0, .int .i64 0, .int .i64 0, .int .i64 0, .int .i64 0, .nils, .int .i64 0, .int .i64 0, .int .i64 0, .int .i64 0, .int .i64 0, .int .i64 0, .nils, .int .i64 0, .int .i64 0, .int .i64 0, .int .i64 0, .int .i64 0, .int .i64 0, .nils, .int .i64 0, .int .i64 0, .int .i64 0, .int .i64 0, .int .i64 0, .int .i64 0, .nils, .int .i64 0, .int .i64 0, .int .i64 0, .int .i64 0, .int .i64 0, .int .i64 0, .nils, .int .i64 0, .int .i64 0, .int .i64 0, .int .i64 0, .int .i64 0, .int .i64 0, .nils, .int .i64 0, .int .i64 0, .int .i64 0, .int .i64 0, .int .i64 0, .int .i64 0, .nils, .int .i64 0, .int .i64 0, .int .i64 0, .int .i64 0, .int .i64 0, .int .i64 0, .nils, .int .i64 0, .int .i64 0, .int .i64 0, .int .i64 0, .int .i64 0, .int .i64 0, .nils, .int .i64 0, .int .i64 0, .int .i64 0, .int .i64 0, .int .i64 0, .int .i64 0, .nils, .int .i64 0, .int .i64 0, .int .i64 0, .int .i64 0, .int .i64 0, .int .i64 0, .nils, .int .i64 0, .int .i64 0, .int .i64 0, .int .i64 0, .int .i64 0, .int .i64 0, .nils, .int .i64 0, .int .i64 0, .int .i64 0, .int .i64 0, .int .i64 0, .int .i64 0, .nils, .int .i64 0, .int .i64 0, .int .i64 0, .int .i64 0, .int .i64 0, .int .i64 0, .nils, .int .i64 0, .int .i64 0, .int .i64 0, .int .i64 0, .int .i64 0, .int .i64 0, .nils, .int .i64 0, .int .i64 0, .int .i64 0, .int .i64 0, .int .i64 0, .int .i64 0, .nils, .int .i64 0, .int .i64 0, .int .i64 0, .int .i64 0, .int .i64 0, .int .i64 0, .nils, .int .i64 0, .int .i64 0, .int .i64 0, .int .i64 0, .int .i64 0, .int .i64 0, .nils, .int .i64 0, .int .i64 0, .int .i64 0, .int .i64 0, .int .i64 0, .int .i64 0, .nils, .int .i64 0, .int .i64 0, .int .i64 0, .int .i64 0, .int .i64 0, .int .i64 0, .nils, .int .i64 0, .int .i64 0, .int .i64 0, .int .i64 0, .int .i64 0, .int .i64 0, .nils, .int .i64 0, .int .i64 0, .int .i64 0, .int .i64 0, .int .i64 0, .int .i64 0, .nils, .int .i64 0, .int .i64 0, .int .i64 0, .int .i64 0, .int .i64 0, .int .i64 0, .nils], true, true⟩,
   ⟨.ptr 171, 1, 8, [.nilp], false, false⟩],
   [⟨.other, 1, 0, [.bot], false, false⟩,
   ⟨.other, 1, 8, [.any], false, false⟩,
   ⟨.struct [(0, (111, 1))], 1, 8, [.nilp], true, true⟩,
   ⟨.struct [(0, (111, 1))], 1, 8, [.nilp], true, true⟩,
   ⟨.ptr 176, 1, 8, [.nilp], false, false⟩,
   ⟨.other, 1, 0, [.bot], false, false⟩,
   ⟨.other, 1, 8, [.any], false, false⟩,
   ⟨.struct [(0, (116, 1))], 1, 8, [.nilp], true, true⟩],
   [⟨.struct [(0, (116, 1))], 1, 8, [.nilp], true, true⟩,
   ⟨.ptr 180, 1, 8, [.nilp], false, false⟩,
   ⟨.other, 1, 0, [.bot], false, false⟩,
   ⟨.other, 1, 8, [.any], false, false⟩,
   ⟨.ptr 127, 1, 8, [.nilp], false, false⟩,
   ⟨.map 3 585, 1, 8, [.nilm], false, false⟩,
   ⟨.struct [(0, (121, 1)), (1, (125, 1)), (2, (36, 1))], 3, 24, [.nilp, .nilm, .nilp], true, true⟩,
   ⟨.struct [(0, (121, 1)), (1, (125, 1)), (2, (36, 1))], 3, 24, [.nilp, .nilm, .nilp], true, true⟩]],
  [[⟨.slice 5, 1, 24, [.nils], false, false⟩,
   ⟨.other, 1, 8, [.any], false, false⟩,
   ⟨.other, 1, 8, [.any], false, false⟩,
   ⟨.other, 1, 8, [.any], false, false⟩,
   ⟨.other, 1, 8, [.any], false, false⟩,
   ⟨.ptr 222, 1, 8, [.nilp], false, false⟩,
   ⟨.other, 1, 0, [.bot], false, false⟩,
   ⟨.other, 1, 8, [.any], false, false⟩],
   [⟨.other, 1, 8, [.any], false, false⟩,
   ⟨.other, 1, 8, [.any], false, false⟩,
   ⟨.other, 1, 8, [.any], false, false⟩,
   ⟨.other, 1, 8, [.any], false, false⟩,
   ⟨.ptr 143, 1, 8, [.nilp], false, false⟩,
   ⟨.map 3 3, 1, 8, [.nilm], false, false⟩,
   ⟨.struct [(0, (67, 1)), (1, (3, 1)), (2, (3, 1)), (3, (141, 1)), (4, (141, 1))], 5, 40, [.nilp, .int .i64 0, .int .i64 0, .nilm, .nilm], true, true⟩,
   ⟨.struct [(0, (67, 1)), (1, (3, 1)), (2, (3, 1)), (3, (141, 1)), (4, (141, 1))], 5, 40, [.nilp, .int .i64 0, .int .i64 0, .nilm, .nilm], true, true⟩],
   [⟨.other, 1, 8, [.any], false, false⟩,
   ⟨.ptr 151, 1, 8, [.nilp], false, false⟩,
   ⟨.map 3 2, 1, 8, [.nilm], false, false⟩,
   ⟨.ptr 254, 1, 8, [.nilp], false, false⟩,
   ⟨.ptr 257, 1, 8, [.nilp], false, false⟩,
   ⟨.map 3 401, 1, 8, [.nilm], false, false⟩,
   ⟨.struct [(0, (33, 15)), (15, (52, 1)), (16, (3, 1)), (17, (147, 1)), (18, (148, 1)), (19, (149, 1)), (20, (146, 1)), (21, (3, 1))], 22, 208, [.int .i64 0, .int .i64 0, .int .i64 0, .int .i64 0, .int .i64 0, .int .i64 0, .int .i64 0, .int .i64 0, .int .i64 0, .int .i64 0, .int .i64 0, .int .i64 0, .int .i64 0, .int .i64 0, .nils, .nils, .int .i64 0, .nilp, .nilp, .nilm, .nilm, .int .i64 0], true, true⟩,
   ⟨.struct [(0, (33, 15)), (15, (52, 1)), (16, (3, 1)), (17, (147, 1)), (18, (148, 1)), (19, (149, 1)), (20, (146, 1)), (21, (3, 1))], 22, 208, [.int .i64 0, .int .i64 0, .int .i64 0, .int .i64 0, .int .i64 0, .int .i64 0, .int .i64 0, .int .i64 0, .int .i64 0, .int .i64 0, .int .i64 0, .int .i64 0, .int .i64 0, .int .i64 0, .nils, .nils, .int .i64 0, .nilp, .nilp, .nilm, .nilm, .int .i64 0], true, true⟩],
   [⟨.other, 1, 8, [.any], false, false⟩,
   ⟨.other, 1, 8, [.any], false, false⟩,
   ⟨.other, 1, 8, [.any], false, false⟩,
   ⟨.other, 1, 8, [.any], false, false⟩,
   ⟨.other, 1, 8, [.any], false, false⟩,
   ⟨.int .u64, 1, 8, [.int .u64 0], false, false⟩,
   ⟨.other, 1, 0, [.bot], false, false⟩,
   ⟨.other, 1, 8, [.any], false, false⟩],
   [⟨.slice 43, 1, 24, [.nils], false, false⟩,
   ⟨.other, 1, 0, [.bot], false, false⟩,
   ⟨.other, 1, 8, [.any], false, false⟩,
   ⟨.other, 1, 8, [.any], false, false⟩,
   ⟨.other, 1, 8, [.any], false, false⟩,
   ⟨.other, 1, 0, [.bot], false, false⟩,
   ⟨.other, 1, 8, [.any], false, false⟩,
   ⟨.other, 1, 8, [.any], false, false⟩],
   [⟨.map 3 553, 1, 8, [.nilm], false, false⟩,
   ⟨.ptr 259, 1, 8, [.nilp], false, false⟩,
   ⟨.struct [(0, (26, 2)), (2, (147, 1)), (3, (148, 1)), (4, (169, 1)), (5, (169, 1)), (6, (168, 1))], 7, 56, [.int .i64 0, .int .i64 0, .nilp, .nilp, .nilp, .nilp, .nilm], true, true⟩,
   ⟨.struct [(0, (26, 2)), (2, (147, 1)), (3, (148, 1)), (4, (169, 1)), (5, (169, 1)), (6, (168, 1))], 7, 56, [.int .i64 0, .int .i64 0, .nilp, .nilp, .nilp, .nilp, .nilm], true, true⟩,
   ⟨.other, 1, 0, [.bot], false, false⟩,
   ⟨.other, 1, 8, [.any], false, false⟩,
   ⟨.map 3 395, 1, 8, [.nilm], false, false⟩,
   ⟨.struct [(0, (147, 1)), (1, (174, 1))], 2, 16, [.nilp, .nilm], true, true⟩],
   [⟨.struct [(0, (147, 1)), (1, (174, 1))], 2, 16, [.nilp, .nilm], true, true⟩,
   ⟨.slice 178, 1, 24, [.nils], false, false⟩,
   ⟨.ptr 421, 1, 8, [.nilp], false, false⟩,
   ⟨.struct [(0, (2, 1)), (1, (177, 1)), (2, (178, 1))], 3, 40, [.int .i64 0, .nils, .nilp], true, true⟩,
   ⟨.struct [(0, (2, 1)), (1, (177, 1)), (2, (178, 1))], 3, 40, [.int .i64 0, .nils, .nilp], true, true⟩,
   ⟨.other, 1, 8, [.any], false, false⟩,
   ⟨.slice 185, 1, 24, [.nils], false, false⟩,
   ⟨.other, 1, 8, [.any], false, false⟩],
   [⟨.struct [(0, (3, 1)), (1, (3, 1)), (2, (3, 1)), (3, (3, 1)), (4, (3, 1)), (5, (2, 1)), (6, (2, 1))], 7, 56, [.int .i64 0, .int .i64 0, .int .i64 0, .int .i64 0, .int .i64 0, .int .i64 0, .int .i64 0], true, true⟩,
   ⟨.struct [(0, (3, 1)), (1, (3, 1)), (2, (3, 1)), (3, (3, 1)), (4, (3, 1)), (5, (2, 1)), (6, (2, 1))], 7, 56, [.int .i64 0, .int .i64 0, .int .i64 0, .int .i64 0, .int .i64 0, .int .i64 0, .int .i64 0], true, true⟩,
   ⟨.other, 1, 8, [.any], false, false⟩,
   ⟨.struct [(0, (3, 1)), (1, (3, 1)), (2, (3, 1)), (3, (3, 1)), (4, (3, 1))], 5, 40, [.int .i64 0, .int .i64 0, .int .i64 0, .int .i64 0, .int .i64 0], true, true⟩,
   ⟨.struct [(0, (3, 1)), (1, (3, 1)), (2, (3, 1)), (3, (3, 1)), (4, (3, 1))], 5, 40, [.int .i64 0, .int .i64 0, .int .i64 0, .int .i64 0, .int .i64 0], true, true⟩,
   ⟨.other, 1, 8, [.any], false, false⟩,
   ⟨.slice 275, 1, 24, [.nils], false, false⟩,
   ⟨.other, 1, 0, [.bot], false, false⟩]],
  [[⟨.other, 1, 8, [.any], false, false⟩,
   ⟨.other, 1, 8, [.any], false, false⟩,
   ⟨.ptr 199, 1, 8, [.nilp], false, false⟩,
   ⟨.ptr 299, 1, 8, [.nilp], false, false⟩,
   ⟨.ptr 307, 1, 8, [.nilp], false, false⟩,
   ⟨.ptr 309, 1, 8, [.nilp], false, false⟩,
   ⟨.struct [(0, (195, 1)), (1, (196, 1)), (2, (197, 1)), (3, (3, 1)), (4, (2, 1))], 5, 40, [.nilp, .nilp, .nilp, .int .i64 0, .int .i64 0], true, true⟩,
   ⟨.struct [(0, (195, 1)), (1, (196, 1)), (2, (197, 1)), (3, (3, 1)), (4, (2, 1))], 5, 40, [.nilp, .nilp, .nilp, .int .i64 0, .int .i64 0], true, true⟩],
   [⟨.other, 1, 8, [.any], false, false⟩,
   ⟨.other, 1, 0, [.bot], false, false⟩,
   ⟨.other, 1, 8, [.any], false, false⟩,
   ⟨.other, 1, 0, [.bot], false, false⟩,
   ⟨.other, 1, 8, [.any], false, false⟩,
   ⟨.other, 1, 8, [.any], false, false⟩,
   ⟨.other, 1, 0, [.bot], false, false⟩,
   ⟨.other, 1, 8, [.any], false, false⟩],
   [⟨.other, 1, 8, [.any], false, false⟩,
   ⟨.other, 1, 8, [.any], false, false⟩,
   ⟨.other, 1, 8, [.any], false, false⟩,
   ⟨.other, 1, 8, [.any], false, false⟩,
   ⟨.other, 1, 0, [.bot], false, false⟩,
   ⟨.other, 1, 8, [.any], false, false⟩,
   ⟨.other, 1, 0, [.bot], false, false⟩,
   ⟨.other, 1, 8, [.any], false, false⟩],
   [⟨.other, 1, 0, [.bot], false, false⟩,
   ⟨.other, 1, 8, [.any], false, false⟩,
   ⟨.other, 1, 8, [.any], false, false⟩,
   ⟨.ptr 185, 1, 8, [.nilp], false, false⟩,
   ⟨.other, 1, 8, [.any], false, false⟩,
   ⟨.struct [(0, (3, 1)), (1, (3, 1)), (2, (72, 1)), (3, (3, 1))], 4, 48, [.int .i64 0, .int .i64 0, .nils, .int .i64 0], true, true⟩,
   ⟨.struct [(0, (3, 1)), (1, (3, 1)), (2, (72, 1)), (3, (3, 1))], 4, 48, [.int .i64 0, .int .i64 0, .nils, .int .i64 0], true, true⟩,
   ⟨.other, 1, 0, [.bot], false, false⟩],
   [⟨.other, 1, 8, [.any], false, false⟩,
   ⟨.other, 1, 8, [.any], false, false⟩,
   ⟨.other, 1, 8, [.any], false, false⟩,
   ⟨.other, 1, 8, [.any], false, false⟩,
   ⟨.other, 1, 8, [.any], false, false⟩,
   ⟨.other, 1, 8, [.any], false, false⟩,
   ⟨.other, 1, 0, [.bot], false, false⟩,
   ⟨.other, 1, 8, [.any], false, false⟩],
   [⟨.slice 325, 1, 24, [.nils], false, false⟩,
   ⟨.other, 1, 8, [.any], false, false⟩,
   ⟨.int .u64, 1, 8, [.int .u64 0], false, false⟩,
   ⟨.slice 20, 1, 24, [.nils], false, false⟩,
   ⟨.slice 9, 1, 24, [.nils], false, false⟩,
   ⟨.other, 1, 8, [.any], false, false⟩,
   ⟨.other, 1, 8, [.any], false, false⟩,
   ⟨.ptr 241, 1, 8, [.nilp], false, false⟩],
   [⟨.struct [(0, (239, 1)), (1, (128, 1))], 2, 32, [.nilp, .nils], true, true⟩,
   ⟨.struct [(0, (239, 1)), (1, (128, 1))], 2, 32, [.nilp, .nils], true, true⟩,
   ⟨.slice 105, 1, 24, [.nils], false, false⟩,
   ⟨.other, 1, 8, [.any], false, false⟩,
   ⟨.iface, 1, 16, [.nili], false, false⟩,
   ⟨.iface, 1, 16, [.nili], false, false⟩,
   ⟨.other, 1, 0, [.bot], false, false⟩,
   ⟨.other, 1, 8, [.any], false, false⟩],
   [⟨.array 5 3, 5, 40, [.int .i64 0, .int .i64 0, .int .i64 0, .int .i64 0, .int .i64 0], false, true⟩,
   ⟨.other, 1, 8, [.any], false, false⟩,
   ⟨.other, 1, 8, [.any], false, false⟩,
   ⟨.other, 1, 8, [.any], false, false⟩,
   ⟨.map 3 325, 1, 8, [.nilm], false, false⟩,
   ⟨.struct [(0, (2, 1)), (1, (252, 1)), (2, (146, 1)), (3, (2, 1)), (4, (2, 1))], 5, 40, [.int .i64 0, .nilm, .nilm, .int .i64 0, .int .i64 0], true, true⟩,
   ⟨.struct [(0, (2, 1)), (1, (252, 1)), (2, (146, 1)), (3, (2, 1)), (4, (2, 1))], 5, 40, [.int .i64 0, .nilm, .nilm, .int .i64 0, .int .i64 0], true, true⟩,
   ⟨.map 3 328, 1, 8, [.nilm], false, false⟩]],
  [[⟨.struct [(0, (255, 1))], 1, 8, [.nilm], true, true⟩,
   ⟨.struct [(0, (255, 1))], 1, 8, [.nilm], true, true⟩,
   ⟨.struct [(0, (2, 1)), (1, (141, 1)), (2, (146, 1)), (3, (2, 1))], 4, 32, [.int .i64 0, .nilm, .nilm, .int .i64 0], true, true⟩,
   ⟨.struct [(0, (2, 1)), (1, (141, 1)), (2, (146, 1)), (3, (2, 1))], 4, 32, [.int .i64 0, .nilm, .nilm, .int .i64 0], true, true⟩,
   ⟨.other, 1, 0, [.bot], false, false⟩,
   ⟨.other, 1, 8, [.any], false, false⟩,
   ⟨.other, 1, 8, [.any], false, false⟩,
   ⟨.other, 1, 8, [.any], false, false⟩],
   [⟨.other, 1, 8, [.any], false, false⟩,
   ⟨.other, 1, 8, [.any], false, false⟩,
   ⟨.other, 1, 8, [.any], false, false⟩,
   ⟨.other, 1, 8, [.any], false, false⟩,
   ⟨.iface, 1, 16, [.nili], false, false⟩,
   ⟨.iface, 1, 16, [.nili], false, false⟩,
   ⟨.other, 1, 0, [.bot], false, false⟩,
   ⟨.other, 1, 8, [.any], false, false⟩],
   [⟨.other, 1, 0, [.bot], false, false⟩,
   ⟨.other, 1, 8, [.any], false, false⟩,
   ⟨.struct [(0, (3, 1)), (1, (3, 1))], 2, 16, [.int .i64 0, .int .i64 0], true, true⟩,
   ⟨.struct [(0, (3, 1)), (1, (3, 1))], 2, 16, [.int .i64 0, .int .i64 0], true, true⟩,
   ⟨.other, 1, 0, [.bot], false, false⟩,
   ⟨.other, 1, 8, [.any], false, false⟩,
   ⟨.other, 1, 8, [.any], false, false⟩,
   ⟨.other, 1, 8, [.any], false, false⟩],
   [⟨.other, 1, 8, [.any], false, false⟩,
   ⟨.other, 1, 8, [.any], false, false⟩,
   ⟨.other, 1, 8, [.any], false, false⟩,
   ⟨.other, 1, 0, [.bot], false, false⟩,
   ⟨.other, 1, 8, [.any], false, false⟩,
   ⟨.other, 1, 8, [.any], false, false⟩,
   ⟨.other, 1, 8, [.any], false, false⟩,
   ⟨.other, 1, 8, [.any], false, false⟩],
   [⟨.struct [(0, (3, 1)), (1, (234, 1))], 2, 16, [.int .i64 0, .int .u64 0], true, true⟩,
   ⟨.struct [(0, (3, 1)), (1, (234, 1))], 2, 16, [.int .i64 0, .int .u64 0], true, true⟩,
   ⟨.other, 1, 8, [.any], false, false⟩,
   ⟨.slice 294, 1, 24, [.nils], false, false⟩,
   ⟨.other, 1, 8, [.any], false, false⟩,
   ⟨.struct [(0, (3, 1)), (1, (3, 1)), (2, (3, 1))], 3, 24, [.int .i64 0, .int .i64 0, .int .i64 0], true, true⟩,
   ⟨.struct [(0, (3, 1)), (1, (3, 1)), (2, (3, 1))], 3, 24, [.int .i64 0, .int .i64 0, .int .i64 0], true, true⟩,
   ⟨.other, 1, 8, [.any], false, false⟩],
   [⟨.other, 1, 8, [.any], false, false⟩,
   ⟨.array 32 4, 32, 32, [.ff, .ff, .ff, .ff, .ff, .ff, .ff, .ff, .ff, .ff, .ff, .ff, .ff, .ff, .ff, .ff, .ff, .ff, .ff, .ff, .ff, .ff, .ff, .ff, .ff, .ff, .ff, .ff, .ff, .ff, .ff, .ff], false, true⟩,
   ⟨.struct [(0, (28, 3)), (3, (297, 32)), (35, (3, 1)), (36, (3, 1)), (37, (4, 1)), (38, (4, 1))], 39, 80, [.int .i64 0, .int .i64 0, .int .i64 0, .ff, .ff, .ff, .ff, .ff, .ff, .ff, .ff, .ff, .ff, .ff, .ff, .ff, .ff, .ff, .ff, .ff, .ff, .ff, .ff, .ff, .ff, .ff, .ff, .ff, .ff, .ff, .ff, .ff, .ff, .ff, .ff, .int .i64 0, .int .i64 0, .ff, .ff], true, true⟩,
   ⟨.struct [(0, (28, 3)), (3, (297, 32)), (35, (3, 1)), (36, (3, 1)), (37, (4, 1)), (38, (4, 1))], 39, 80, [.int .i64 0, .int .i64 0, .int .i64 0, .ff, .ff, .ff, .ff, .ff, .ff, .ff, .ff, .ff, .ff, .ff, .ff, .ff, .ff, .ff, .ff, .ff, .ff, .ff, .ff, .ff, .ff, .ff, .ff, .ff, .ff, .ff, .ff, .ff, .ff, .ff, .ff, .int .i64 0, .int .i64 0, .ff, .ff], true, true⟩,
   ⟨.other, 1, 8, [.any], false, false⟩,
   ⟨.other, 1, 8, [.any], false, false⟩,
   ⟨.struct [(0, (3, 1)), (1, (3, 1)), (2, (3, 1)), (3, (3, 1))], 4, 32, [.int .i64 0, .int .i64 0, .int .i64 0, .int .i64 0], true, true⟩,
   ⟨.struct [(0, (3, 1)), (1, (3, 1)), (2, (3, 1)), (3, (3, 1))], 4, 32, [.int .i64 0, .int .i64 0, .int .i64 0, .int .i64 0], true, true⟩],
   [⟨.struct [(0, (3, 1)), (1, (9, 1)), (2, (3, 1)), (3, (3, 1))], 4, 40, [.int .i64 0, .str [], .int .i64 0, .int .i64 0], true, true⟩,
   ⟨.struct [(0, (3, 1)), (1, (9, 1)), (2, (3, 1)), (3, (3, 1))], 4, 40, [.int .i64 0, .str [], .int .i64 0, .int .i64 0], true, true⟩,
   ⟨.struct [(0, (3, 1)), (1, (3, 1)), (2, (3, 1)), (3, (291, 1))], 4, 48, [.int .i64 0, .int .i64 0, .int .i64 0, .nils], true, true⟩,
   ⟨.struct [(0, (3, 1)), (1, (3, 1)), (2, (3, 1)), (3, (291, 1))], 4, 48, [.int .i64 0, .int .i64 0, .int .i64 0, .nils], true, true⟩,
   ⟨.struct [(0, (3, 1)), (1, (3, 1)), (2, (141, 1))], 3, 24, [.int .i64 0, .int .i64 0, .nilm], true, true⟩,
   ⟨.struct [(0, (3, 1)), (1, (3, 1)), (2, (141, 1))], 3, 24, [.int .i64 0, .int .i64 0, .nilm], true, true⟩,
   ⟨.other, 1, 8, [.any], false, false⟩,
   ⟨.other, 1, 0, [.bot], false, false⟩],
   [⟨.other, 1, 8, [.any], false, false⟩,
   ⟨.other, 1, 0, [.bot], false, false⟩,
   ⟨.other, 1, 8, [.any], false, false⟩,
   ⟨.other, 1, 8, [.any], false, false⟩,
   ⟨.other, 1, 8, [.any], false, false⟩,
   ⟨.other, 1, 8, [.any], false, false⟩,
   ⟨.other, 1, 8, [.any], false, false⟩,
   ⟨.other, 1, 0, [.bot], false, false⟩]],
  [[⟨.other, 1, 8, [.any], false, false⟩,
   ⟨.ptr 303, 1, 8, [.nilp], false, false⟩,
   ⟨.other, 1, 8, [.any], false, false⟩,
   ⟨.ptr 107, 1, 8, [.nilp], false, false⟩,
   ⟨.struct [(0, (3, 1)), (1, (3, 1)), (2, (2, 1))], 3, 24, [.int .i64 0, .int .i64 0, .int .i64 0], true, true⟩,
   ⟨.struct [(0, (3, 1)), (1, (3, 1)), (2, (2, 1))], 3, 24, [.int .i64 0, .int .i64 0, .int .i64 0], true, true⟩,
   ⟨.other, 1, 0, [.bot], false, false⟩,
   ⟨.struct [(0, (3, 1)), (1, (2, 1))], 2, 16, [.int .i64 0, .int .i64 0], true, true⟩],
   [⟨.struct [(0, (3, 1)), (1, (2, 1))], 2, 16, [.int .i64 0, .int .i64 0], true, true⟩,
   ⟨.other, 1, 0, [.bot], false, false⟩,
   ⟨.slice 335, 1, 24, [.nils], false, false⟩,
   ⟨.other, 1, 8, [.any], false, false⟩,
   ⟨.other, 1, 0, [.bot], false, false⟩,
   ⟨.other, 1, 8, [.any], false, false⟩,
   ⟨.struct [(0, (3, 1)), (1, (2, 1))], 2, 16, [.int .i64 0, .int .i64 0], true, true⟩,
   ⟨.struct [(0, (3, 1)), (1, (2, 1))], 2, 16, [.int .i64 0, .int .i64 0], true, true⟩],
   [⟨.other, 1, 0, [.bot], false, false⟩,
   ⟨.other, 1, 8, [.any], false, false⟩,
   ⟨.other, 1, 8, [.any], false, false⟩,
   ⟨.other, 1, 8, [.any], false, false⟩,
   ⟨.other, 1, 8, [.any], false, false⟩,
   ⟨.other, 1, 8, [.any], false, false⟩,
   ⟨.other, 1, 8, [.any], false, false⟩,
   ⟨.other, 1, 8, [.any], false, false⟩],
   [⟨.ptr 346, 1, 8, [.nilp], false, false⟩,
   ⟨.struct [(0, (9, 1)), (1, (4, 1))], 2, 24, [.str [], .ff], true, true⟩,
   ⟨.struct [(0, (9, 1)), (1, (4, 1))], 2, 24, [.str [], .ff], true, true⟩,
   ⟨.other, 1, 8, [.any], false, false⟩,
   ⟨.other, 1, 8, [.any], false, false⟩,
   ⟨.map 3 351, 1, 8, [.nilm], false, false⟩,
   ⟨.map 352 4, 1, 8, [.nilm], false, false⟩,
   ⟨.ptr 105, 1, 8, [.nilp], false, false⟩],
   [⟨.array 2 3, 2, 16, [.int .i64 0, .int .i64 0], false, true⟩,
   ⟨.other, 1, 8, [.any], false, false⟩,
   ⟨.ptr 5, 1, 8, [.nilp], false, false⟩,
   ⟨.other, 1, 8, [.any], false, false⟩,
   ⟨.other, 1, 8, [.any], false, false⟩,
   ⟨.slice 361, 1, 24, [.nils], false, false⟩,
   ⟨.other, 1, 0, [.bot], false, false⟩,
   ⟨.other, 1, 8, [.any], false, false⟩],
   [⟨.struct [(0, (3, 1)), (1, (3, 1)), (2, (4, 1))], 3, 24, [.int .i64 0, .int .i64 0, .ff], true, true⟩,
   ⟨.struct [(0, (3, 1)), (1, (3, 1)), (2, (4, 1))], 3, 24, [.int .i64 0, .int .i64 0, .ff], true, true⟩,
   ⟨.struct [(0, (3, 1)), (1, (3, 1)), (2, (3, 1))], 3, 24, [.int .i64 0, .int .i64 0, .int .i64 0], true, true⟩,
   ⟨.struct [(0, (3, 1)), (1, (3, 1)), (2, (3, 1))], 3, 24, [.int .i64 0, .int .i64 0, .int .i64 0], true, true⟩,
   ⟨.other, 1, 0, [.bot], false, false⟩,
   ⟨.other, 1, 8, [.any], false, false⟩,
   ⟨.map 3 190, 1, 8, [.nilm], false, false⟩,
   ⟨.other, 1, 8, [.any], false, false⟩],
   [⟨.other, 1, 0, [.bot], false, false⟩,
   ⟨.other, 1, 8, [.any], false, false⟩,
   ⟨.other, 1, 8, [.any], false, false⟩,
   ⟨.other, 1, 0, [.bot], false, false⟩,
   ⟨.other, 1, 8, [.any], false, false⟩,
   ⟨.other, 1, 8, [.any], false, false⟩,
   ⟨.other, 1, 8, [.any], false, false⟩,
   ⟨.other, 1, 0, [.bot], false, false⟩],
   [⟨.other, 1, 8, [.any], false, false⟩,
   ⟨.other, 1, 8, [.any], false, false⟩,
   ⟨.other, 1, 8, [.any], false, false⟩,
   ⟨.other, 1, 8, [.any], false, false⟩,
   ⟨.other, 1, 8, [.any], false, false⟩,
   ⟨.other, 1, 0, [.bot], false, false⟩,
   ⟨.other, 1, 8, [.any], false, false⟩,
   ⟨.other, 1, 8, [.any], false, false⟩]],
  [[⟨.other, 1, 8, [.any], false, false⟩,
   ⟨.other, 1, 8, [.any], false, false⟩,
   ⟨.other, 1, 8, [.any], false, false⟩,
   ⟨.other, 1, 8, [.any], false, false⟩,
   ⟨.other, 1, 8, [.any], false, false⟩,
   ⟨.other, 1, 8, [.any], false, false⟩,
   ⟨.other, 1, 8, [.any], false, false⟩,
   ⟨.other, 1, 0, [.bot], false, false⟩],
   [⟨.other, 1, 8, [.any], false, false⟩,
   ⟨.other, 1, 8, [.any], false, false⟩,
   ⟨.struct [(0, (2, 1)), (1, (2, 1)), (2, (2, 1))], 3, 24, [.int .i64 0, .int .i64 0, .int .i64 0], true, true⟩,
   ⟨.struct [(0, (2, 1)), (1, (2, 1)), (2, (2, 1))], 3, 24, [.int .i64 0, .int .i64 0, .int .i64 0], true, true⟩,
   ⟨.other, 1, 0, [.bot], false, false⟩,
   ⟨.other, 1, 8, [.any], false, false⟩,
   ⟨.other, 1, 8, [.any], false, false⟩,
   ⟨.other, 1, 8, [.any], false, false⟩],
   [⟨.struct [(0, (2, 1)), (1, (2, 1))], 2, 16, [.int .i64 0, .int .i64 0], true, true⟩,
   ⟨.struct [(0, (2, 1)), (1, (2, 1))], 2, 16, [.int .i64 0, .int .i64 0], true, true⟩,
   ⟨.other, 1, 8, [.any], false, false⟩,
   ⟨.other, 1, 8, [.any], false, false⟩,
   ⟨.other, 1, 8, [.any], false, false⟩,
   ⟨.array 24 5, 24, 24, [.int .u8 0, .int .u8 0, .int .u8 0, .int .u8 0, .int .u8 0, .int .u8 0, .int .u8 0, .int .u8 0, .int .u8 0, .int .u8 0, .int .u8 0, .int .u8 0, .int .u8 0, .int .u8 0, .int .u8 0, .int .u8 0, .int .u8 0, .int .u8 0, .int .u8 0, .int .u8 0, .int .u8 0, .int .u8 0, .int .u8 0, .int .u8 0], false, true⟩,
   ⟨.other, 1, 8, [.any], false, false⟩,
   ⟨.other, 1, 8, [.any], false, false⟩],
   [⟨.other, 1, 0, [.bot], false, false⟩,
   ⟨.other, 1, 8, [.any], false, false⟩,
   ⟨.other, 1, 8, [.nilp], false, false⟩,
   ⟨.other, 1, 8, [.any], false, false⟩,
   ⟨.other, 1, 8, [.any], false, false⟩,
   ⟨.other, 1, 8, [.any], false, false⟩,
   ⟨.other, 1, 8, [.any], false, false⟩,
   ⟨.other, 1, 8, [.any], false, false⟩],
   [⟨.other, 1, 8, [.any], false, false⟩,
   ⟨.other, 1, 8, [.any], false, false⟩,
   ⟨.other, 1, 8, [.any], false, false⟩,
   ⟨.other, 1, 8, [.any], false, false⟩,
   ⟨.struct [(0, (3, 1)), (1, (3, 1)), (2, (2, 1)), (3, (3, 1))], 4, 32, [.int .i64 0, .int .i64 0, .int .i64 0, .int .i64 0], true, true⟩,
   ⟨.struct [(0, (3, 1)), (1, (3, 1)), (2, (2, 1)), (3, (3, 1))], 4, 32, [.int .i64 0, .int .i64 0, .int .i64 0, .int .i64 0], true, true⟩,
   ⟨.other, 1, 8, [.any], false, false⟩,
   ⟨.other, 1, 8, [.any], false, false⟩],
   [⟨.other, 1, 0, [.bot], false, false⟩,
   ⟨.other, 1, 8, [.any], false, false⟩,
   ⟨.struct [(0, (234, 1)), (1, (234, 1))], 2, 16, [.int .u64 0, .int .u64 0], true, true⟩,
   ⟨.struct [(0, (234, 1)), (1, (234, 1))], 2, 16, [.int .u64 0, .int .u64 0], true, true⟩,
   ⟨.other, 1, 8, [.any], false, false⟩,
   ⟨.other, 1, 8, [.any], false, false⟩,
   ⟨.other, 1, 8, [.any], false, false⟩,
   ⟨.other, 1, 8, [.any], false, false⟩],
   [⟨.other, 1, 8, [.any], false, false⟩,
   ⟨.other, 1, 0, [.bot], false, false⟩,
   ⟨.other, 1, 8, [.any], false, false⟩,
   ⟨.other, 1, 8, [.any], false, false⟩,
   ⟨.other, 1, 8, [.any], false, false⟩,
   ⟨.other, 1, 8, [.any], false, false⟩,
   ⟨.other, 1, 8, [.any], false, false⟩,
   ⟨.slice 21, 1, 24, [.nils], false, false⟩],
   [⟨.other, 1, 8, [.any], false, false⟩,
   ⟨.other, 1, 8, [.any], false, false⟩,
   ⟨.other, 1, 8, [.any], false, false⟩,
   ⟨.array 256 4, 256, 256, List.replicate 256 (.ff), false, true⟩,
   ⟨.array 256 4, 256, 256, List.replicate 256 (.ff), false, true⟩,
   ⟨.other, 1, 0, [.bot], false, false⟩,
   ⟨.other, 1, 8, [.any], false, false⟩,
   ⟨.other, 1, 8, [.any], false, false⟩]],
  [[⟨.ptr 444, 1, 8, [.nilp], false, false⟩,
   ⟨.other, 1, 8, [.any], false, false⟩,
   ⟨.other, 1, 8, [.any], false, false⟩,
   ⟨.other, 1, 8, [.any], false, false⟩,
   ⟨.other, 1, 8, [.any], false, false⟩,
   ⟨.other, 1, 8, [.any], false, false⟩,
   ⟨.other, 1, 8, [.any], false, false⟩,
   ⟨.other, 1, 8, [.any], false, false⟩],
   [⟨.other, 1, 8, [.any], false, false⟩,
   ⟨.array 20 234, 20, 160, [.int .u64 0, .int .u64 0, .int .u64 0, .int .u64 0, .int .u64 0, .int .u64 0, .int .u64 0, .int .u64 0, .int .u64 0, .int .u64 0, .int .u64 0, .int .u64 0, .int .u64 0, .int .u64 0, .int .u64 0, .int .u64 0, .int .u64 0, .int .u64 0, .int .u64 0, .int .u64 0], false, true⟩,
   ⟨.int .u32, 1, 4, [.int .u32 0], false, false⟩,
   ⟨.array 65 5, 65, 65, List.replicate 65 (.int .u8 0), false, true⟩,
   ⟨.other, 1, 8, [.any], false, false⟩,
   ⟨.other, 1, 8, [.any], false, false⟩,
   ⟨.int .i64, 1, 8, [.int .i64 0], false, false⟩,
   ⟨.other, 1, 0, [.bot], false, false⟩],
   [⟨.other, 1, 8, [.any], false, false⟩,
   ⟨.other, 1, 8, [.any], false, false⟩,
   ⟨.other, 1, 8, [.any], false, false⟩,
   ⟨.other, 1, 8, [.any], false, false⟩,
   ⟨.other, 1, 8, [.any], false, false⟩,
   ⟨.other, 1, 8, [.any], false, false⟩,
   ⟨.other, 1, 8, [.any], false, false⟩,
   ⟨.other, 1, 8, [.any], false, false⟩],
   [⟨.other, 1, 8, [.any], false, false⟩,
   ⟨.other, 1, 8, [.any], false, false⟩,
   ⟨.other, 1, 8, [.any], false, false⟩,
   ⟨.other, 1, 0, [.bot], false, false⟩,
   ⟨.other, 1, 8, [.any], false, false⟩,
   ⟨.other, 1, 8, [.any], false, false⟩,
   ⟨.other, 1, 8, [.any], false, false⟩,
   ⟨.other, 1, 8, [.any], false, false⟩],
   [⟨.other, 1, 8, [.any], false, false⟩,
   ⟨.other, 1, 8, [.any], false, false⟩,
   ⟨.other, 1, 8, [.any], false, false⟩,
   ⟨.int .i64, 1, 8, [.int .i64 0], false, false⟩,
   ⟨.other, 1, 0, [.bot], false, false⟩,
   ⟨.other, 1, 8, [.any], false, false⟩,
   ⟨.ptr 513, 1, 8, [.nilp], false, false⟩,
   ⟨.other, 1, 8, [.any], false, false⟩],
   [⟨.other, 1, 8, [.any], false, false⟩,
   ⟨.other, 1, 8, [.any], false, false⟩,
   ⟨.other, 1, 8, [.any], false, false⟩,
   ⟨.other, 1, 8, [.any], false, false⟩,
   ⟨.other, 1, 8, [.any], false, false⟩,
   ⟨.other, 1, 8, [.any], false, false⟩,
   ⟨.int .u64, 1, 8, [.int .u64 0], false, false⟩,
   ⟨.other, 1, 8, [.any], false, false⟩],
   [⟨.other, 1, 8, [.any], false, false⟩,
   ⟨.other, 1, 8, [.any], false, false⟩,
   ⟨.ptr 3, 1, 8, [.nilp], false, false⟩,
   ⟨.other, 1, 8, [.any], false, false⟩,
   ⟨.other, 1, 8, [.any], false, false⟩,
   ⟨.other, 1, 8, [.any], false, false⟩,
   ⟨.other, 1, 8, [.any], false, false⟩,
   ⟨.other, 1, 8, [.any], false, false⟩],
   [⟨.other, 1, 8, [.any], false, false⟩,
   ⟨.array 256 5, 256, 256, List.replicate 256 (.int .u8 0), false, true⟩,
   ⟨.struct [(0, (5, 1)), (1, (5, 1))], 2, 2, [.int .u8 0, .int .u8 0], true, true⟩,
   ⟨.struct [(0, (5, 1)), (1, (5, 1))], 2, 2, [.int .u8 0, .int .u8 0], true, true⟩,
   ⟨.array 16 507, 32, 32, [.int .u8 0, .int .u8 0, .int .u8 0, .int .u8 0, .int .u8 0, .int .u8 0, .int .u8 0, .int .u8 0, .int .u8 0, .int .u8 0, .int .u8 0, .int .u8 0, .int .u8 0, .int .u8 0, .int .u8 0, .int .u8 0, .int .u8 0, .int .u8 0, .int .u8 0, .int .u8 0, .int .u8 0, .int .u8 0, .int .u8 0, .int .u8 0, .int .u8 0, .int .u8 0, .int .u8 0, .int .u8 0, .int .u8 0, .int .u8 0, .int .u8 0, .int .u8 0], false, true⟩,
   ⟨.other, 1, 8, [.any], false, false⟩,
   ⟨.other, 1, 0, [.bot], false, false⟩,
   ⟨.other, 1, 8, [.any], false, false⟩]],
  [[⟨.struct [(0, (9, 1)), (1, (9, 1)), (2, (245, 1))], 3, 48, [.str [], .str [], .nili], false, true⟩,
   ⟨.struct [(0, (9, 1)), (1, (9, 1)), (2, (245, 1))], 3, 48, [.str [], .str [], .nili], false, true⟩,
   ⟨.other, 1, 8, [.any], false, false⟩,
   ⟨.other, 1, 8, [.any], false, false⟩,
   ⟨.array 32 5, 32, 32, [.int .u8 0, .int .u8 0, .int .u8 0, .int .u8 0, .int .u8 0, .int .u8 0, .int .u8 0, .int .u8 0, .int .u8 0, .int .u8 0, .int .u8 0, .int .u8 0, .int .u8 0, .int .u8 0, .int .u8 0, .int .u8 0, .int .u8 0, .int .u8 0, .int .u8 0, .int .u8 0, .int .u8 0, .int .u8 0, .int .u8 0, .int .u8 0, .int .u8 0, .int .u8 0, .int .u8 0, .int .u8 0, .int .u8 0, .int .u8 0, .int .u8 0, .int .u8 0], false, true⟩,
   ⟨.array 64 5, 64, 64, List.replicate 64 (.int .u8 0), false, true⟩,
   ⟨.ptr 494, 1, 8, [.nilp], false, false⟩,
   ⟨.other, 1, 0, [.bot], false, false⟩],
   [⟨.other, 1, 8, [.any], false, false⟩,
   ⟨.other, 1, 8, [.any], false, false⟩,
   ⟨.other, 1, 8, [.any], false, false⟩,
   ⟨.other, 1, 0, [.bot], false, false⟩,
   ⟨.other, 1, 8, [.any], false, false⟩,
   ⟨.other, 1, 8, [.any], false, false⟩,
   ⟨.ptr 528, 1, 8, [.nilp], false, false⟩,
   ⟨.struct [(0, (9, 1))], 1, 16, [.str []], true, true⟩],
   [⟨.struct [(0, (9, 1))], 1, 16, [.str []], true, true⟩,
   ⟨.other, 1, 8, [.any], false, false⟩,
   ⟨.struct [(0, (17, 1)), (1, (17, 1)), (2, (17, 1)), (3, (9, 1))], 4, 40, [.nilp, .nilp, .nilp, .str []], false, true⟩,
   ⟨.struct [(0, (17, 1)), (1, (17, 1)), (2, (17, 1)), (3, (9, 1))], 4, 40, [.nilp, .nilp, .nilp, .str []], false, true⟩,
   ⟨.array 0 16, 0, 0, [], false, true⟩,
   ⟨.struct [(0, (532, 0))], 0, 0, [], false, true⟩,
   ⟨.struct [(0, (532, 0))], 0, 0, [], false, true⟩,
   ⟨.int .u8, 1, 1, [.int .u8 0], false, false⟩],
   [⟨.int .u8, 1, 1, [.int .u8 0], false, false⟩,
   ⟨.other, 1, 8, [.any], false, false⟩,
   ⟨.int .i32, 1, 4, [.int .i32 0], false, false⟩,
   ⟨.int .i32, 1, 4, [.int .i32 0], false, false⟩,
   ⟨.struct [(0, (12, 1)), (1, (12, 1)), (2, (458, 1)), (3, (535, 1)), (4, (5, 1)), (5, (5, 1)), (6, (536, 1)), (7, (537, 1)), (8, (354, 1)), (9, (538, 1)), (10, (539, 1))], 11, 48, [.int .u64 0, .int .u64 0, .int .u32 0, .int .u8 0, .int .u8 0, .int .u8 0, .int .u8 0, .any, .nilp, .int .i32 0, .int .i32 0], false, true⟩,
   ⟨.struct [(0, (12, 1)), (1, (12, 1)), (2, (458, 1)), (3, (535, 1)), (4, (5, 1)), (5, (5, 1)), (6, (536, 1)), (7, (537, 1)), (8, (354, 1)), (9, (538, 1)), (10, (539, 1))], 11, 48, [.int .u64 0, .int .u64 0, .int .u32 0, .int .u8 0, .int .u8 0, .int .u8 0, .int .u8 0, .any, .nilp, .int .i32 0, .int .i32 0], false, true⟩,
   ⟨.other, 1, 8, [.any], false, false⟩,
   ⟨.other, 1, 8, [.any], false, false⟩],
   [⟨.other, 1, 8, [.any], false, false⟩,
   ⟨.other, 1, 8, [.any], false, false⟩,
   ⟨.other, 1, 0, [.bot], false, false⟩,
   ⟨.other, 1, 8, [.any], false, false⟩,
   ⟨.other, 1, 8, [.any], false, false⟩,
   ⟨.other, 1, 8, [.any], false, false⟩,
   ⟨.other, 1, 8, [.any], false, false⟩,
   ⟨.other, 1, 8, [.any], false, false⟩],
   [⟨.struct [(0, (2, 1)), (1, (2, 1))], 2, 16, [.int .i64 0, .int .i64 0], true, true⟩,
   ⟨.struct [(0, (2, 1)), (1, (2, 1))], 2, 16, [.int .i64 0, .int .i64 0], true, true⟩,
   ⟨.other, 1, 8, [.any], false, false⟩,
   ⟨.other, 1, 8, [.any], false, false⟩,
   ⟨.other, 1, 8, [.any], false, false⟩,
   ⟨.other, 1, 8, [.any], false, false⟩,
   ⟨.other, 1, 8, [.any], false, false⟩,
   ⟨.other, 1, 8, [.any], false, false⟩],
   [⟨.other, 1, 8, [.any], false, false⟩,
   ⟨.other, 1, 8, [.any], false, false⟩,
   ⟨.other, 1, 8, [.any], false, false⟩,
   ⟨.other, 1, 8, [.any], false, false⟩,
   ⟨.other, 1, 0, [.bot], false, false⟩,
   ⟨.other, 1, 8, [.any], false, false⟩,
   ⟨.other, 1, 8, [.any], false, false⟩,
   ⟨.other, 1, 8, [.any], false, false⟩],
   [⟨.other, 1, 8, [.any], false, false⟩,
   ⟨.other, 1, 8, [.any], false, false⟩,
   ⟨.other, 1, 8, [.any], false, false⟩,
   ⟨.other, 1, 8, [.any], false, false⟩,
   ⟨.other, 1, 8, [.any], false, false⟩,
   ⟨.other, 1, 8, [.any], false, false⟩,
   ⟨.other, 1, 8, [.any], false, false⟩,
   ⟨.other, 1, 8, [.any], false, false⟩]],
  [[⟨.other, 1, 8, [.any], false, false⟩,
   ⟨.other, 1, 8, [.any], false, false⟩,
   ⟨.other, 1, 8, [.any], false, false⟩,
   ⟨.other, 1, 8, [.any], false, false⟩,
   ⟨.other, 1, 8, [.any], false, false⟩,
   ⟨.other, 1, 8, [.any], false, false⟩,
   ⟨.other, 1, 8, [.any], false, false⟩,
   ⟨.other, 1, 8, [.any], false, false⟩],
   [⟨.other, 1, 8, [.any], false, false⟩,
   ⟨.ptr 305, 1, 8, [.nilp], false, false⟩,
   ⟨.other, 1, 8, [.any], false, false⟩,
   ⟨.slice 589, 1, 24, [.nils], false, false⟩,
   ⟨.struct [(0, (3, 1)), (1, (3, 1)), (2, (2, 1)), (3, (2, 1)), (4, (2, 1)), (5, (2, 1)), (6, (2, 1)), (7, (2, 1)), (8, (2, 1)), (9, (2, 1))], 10, 80, [.int .i64 0, .int .i64 0, .int .i64 0, .int .i64 0, .int .i64 0, .int .i64 0, .int .i64 0, .int .i64 0, .int .i64 0, .int .i64 0], true, true⟩,
   ⟨.struct [(0, (3, 1)), (1, (3, 1)), (2, (2, 1)), (3, (2, 1)), (4, (2, 1)), (5, (2, 1)), (6, (2, 1)), (7, (2, 1)), (8, (2, 1)), (9, (2, 1))], 10, 80, [.int .i64 0, .int .i64 0, .int .i64 0, .int .i64 0, .int .i64 0, .int .i64 0, .int .i64 0, .int .i64 0, .int .i64 0, .int .i64 0], true, true⟩,
   ⟨.none, 0, 0, [.bot], false, false⟩,
   ⟨.none, 0, 0, [.bot], false, false⟩],
   [⟨.none, 0, 0, [.bot], false, false⟩,
   ⟨.none, 0, 0, [.bot], false, false⟩,
   ⟨.none, 0, 0, [.bot], false, false⟩,
   ⟨.none, 0, 0, [.bot], false, false⟩,
   ⟨.none, 0, 0, [.bot], false, false⟩,
   ⟨.none, 0, 0, [.bot], false, false⟩,
   ⟨.none, 0, 0, [.bot], false, false⟩,
   ⟨.none, 0, 0, [.bot], false, false⟩],
   [⟨.none, 0, 0, [.bot], false, false⟩,
   ⟨.none, 0, 0, [.bot], false, false⟩,
   ⟨.none, 0, 0, [.bot], false, false⟩,
   ⟨.none, 0, 0, [.bot], false, false⟩,
   ⟨.none, 0, 0, [.bot], false, false⟩,
   ⟨.none, 0, 0, [.bot], false, false⟩,
   ⟨.none, 0, 0, [.bot], false, false⟩,
   ⟨.none, 0, 0, [.bot], false, false⟩],
   [⟨.none, 0, 0, [.bot], false, false⟩,
   ⟨.none, 0, 0, [.bot], false, false⟩,
   ⟨.none, 0, 0, [.bot], false, false⟩,
   ⟨.none, 0, 0, [.bot], false, false⟩,
   ⟨.none, 0, 0, [.bot], false, false⟩,
   ⟨.none, 0, 0, [.bot], false, false⟩,
   ⟨.none, 0, 0, [.bot], false, false⟩,
   ⟨.none, 0, 0, [.bot], false, false⟩],
   [⟨.none, 0, 0, [.bot], false, false⟩,
   ⟨.none, 0, 0, [.bot], false, false⟩,
   ⟨.none, 0, 0, [.bot], false, false⟩,
   ⟨.none, 0, 0, [.bot], false, false⟩,
   ⟨.none, 0, 0, [.bot], false, false⟩,
   ⟨.none, 0, 0, [.bot], false, false⟩,
   ⟨.none, 0, 0, [.bot], false, false⟩,
   ⟨.none, 0, 0, [.bot], false, false⟩],
   [⟨.none, 0, 0, [.bot], false, false⟩,
   ⟨.none, 0, 0, [.bot], false, false⟩,
   ⟨.none, 0, 0, [.bot], false, false⟩,
   ⟨.none, 0, 0, [.bot], false, false⟩,
   ⟨.none, 0, 0, [.bot], false, false⟩,
   ⟨.none, 0, 0, [.bot], false, false⟩,
   ⟨.none, 0, 0, [.bot], false, false⟩,
   ⟨.none, 0, 0, [.bot], false, false⟩],
   [⟨.none, 0, 0, [.bot], false, false⟩,
   ⟨.none, 0, 0, [.bot], false, false⟩,
   ⟨.none, 0, 0, [.bot], false, false⟩,
   ⟨.none, 0, 0, [.bot], false, false⟩,
   ⟨.none, 0, 0, [.bot], false, false⟩,
   ⟨.none, 0, 0, [.bot], false, false⟩,
   ⟨.none, 0, 0, [.bot], false, false⟩,
   ⟨.none, 0, 0, [.bot], false, false⟩]]
]
noncomputable def ftab : List (List Func) := [
 [Tryz.f0, Tryz.f1, Tryz.f2, Tryz.f3, Tryz.f4, Tryz.f5, Tryz.f6, Tryz.f7, Tryz.f8, Tryz.f9, Tryz.f10, Tryz.f11, Tryz.f12, Tryz.f13, Tryz.f14, Tryz.f15],
 [Tryz.f16, Tryz.f17, Tryz.f18, Tryz.f19, Tryz.f20, Tryz.f21, Tryz.f22, Tryz.f23, Tryz.f24, Tryz.f25, Tryz.f26, Tryz.f27, Tryz.f28, Tryz.f29, Tryz.f30, Tryz.f31],
 [Tryz.f32, Tryz.f33, Tryz.f34, Tryz.f35, Tryz.f36, Tryz.f37, Tryz.f38, Tryz.f39, Tryz.f40, Tryz.f41, Tryz.f42, Tryz.f43, Tryz.f44, Tryz.f45, Tryz.f46, Tryz.f47],
 [Tryz.f48, Tryz.f49, Tryz.f50, Tryz.f51, Tryz.f52, Tryz.f53, Tryz.f54, Tryz.f55, Tryz.f56, Tryz.f57, Tryz.f58, Tryz.f59, Tryz.f60, Tryz.f61, Tryz.f62, Tryz.f63],
 [Tryz.f64, Tryz.f65, Tryz.f66, Tryz.f67, Tryz.f68, Tryz.f69, Tryz.f70, Tryz.f71, Tryz.f72, Tryz.f73, Tryz.f74, Tryz.f75, Tryz.f76, Tryz.f77, Tryz.f78, Tryz.f79],
 [Tryz.f80, Tryz.f81, Tryz.f82, Tryz.f83, Tryz.f84, Tryz.f85, Tryz.f86, Tryz.f87, Tryz.f88, Tryz.f89, Tryz.f90, Tryz.f91, Tryz.f92, Tryz.f93, Tryz.f94, Tryz.f95],
 [Tryz.f96, Tryz.f97, Tryz.f98, Tryz.f99, Tryz.f100, Tryz.f101, Tryz.f102, Tryz.f103, Tryz.f104, Tryz.f105, Tryz.f106, Tryz.f107, Tryz.f108, Tryz.f109, Tryz.f110, Tryz.f111],
 [Tryz.f112, Tryz.f113, Tryz.f114, Tryz.f115, Tryz.f116, Tryz.f117, Tryz.f118, Tryz.f119, Tryz.f120, Tryz.f121, Tryz.f122, Tryz.f123, Tryz.f124, Tryz.f125, Tryz.f126, Tryz.f127],
 [Tryz.f128, Tryz.f129, Tryz.f130, Tryz.f131, Tryz.f132, Tryz.f133, Tryz.f134, Tryz.f135, Tryz.f136, Tryz.f137, Tryz.f138, Tryz.f139, Tryz.f140, Tryz.f141, Tryz.f142, Tryz.f143],
 [Tryz.f144, Tryz.f145, Tryz.f146, Tryz.f147, Tryz.f148, Tryz.f149, Tryz.f150, Tryz.f151, Tryz.f152, Tryz.f153, Tryz.f154, Tryz.f155, Tryz.f156, Tryz.f157, Tryz.f158, Tryz.f159],
 [Tryz.f160, Tryz.f161, Tryz.f162, Tryz.f163, Tryz.f164, Tryz.f165, Tryz.f166, Tryz.f167, Tryz.f168, Tryz.f169, Tryz.f170, Tryz.f171, Tryz.f172, Tryz.f173, Tryz.f174, Tryz.f175],
 [Tryz.f176, Tryz.f177, Tryz.f178, Tryz.f179, Tryz.f180, Tryz.f181, Tryz.f182, Tryz.f183, Tryz.f184, Tryz.f185, Tryz.f186, Tryz.f187, Tryz.f188, Tryz.f189, Tryz.f190, Tryz.f191],
 [Tryz.f192, Tryz.f193, Tryz.f194, Tryz.f195, Tryz.f196, Tryz.f197, Tryz.f198, Tryz.f199, Tryz.f200, Tryz.f201, Tryz.f202, Tryz.f203, Tryz.f204, Tryz.f205, Tryz.f206, Tryz.f207],
 [Tryz.f208, Tryz.f209, Tryz.f210, Tryz.f211, Tryz.f212, Tryz.f213, Tryz.f214, Tryz.f215, Tryz.f216, Tryz.f217, Tryz.f218, Tryz.f219, Tryz.f220, Tryz.f221, Tryz.f222, Tryz.f223],
 [Tryz.f224, Tryz.f225, Tryz.f226, Tryz.f227, Tryz.f228, Tryz.f229, Tryz.f230, Tryz.f231, Tryz.f232, Tryz.f233, Tryz.f234, Tryz.f235, Tryz.f236, Tryz.f237, Tryz.f238, Tryz.f239],
 [Tryz.f240, Tryz.f241, Tryz.f242, Tryz.f243, Tryz.f244, Tryz.f245, Tryz.f246, Tryz.f247, Tryz.f248, Tryz.f249, Tryz.f250, Tryz.f251, Tryz.f252, Tryz.f253, Tryz.f254, Tryz.f255],
 [Tryz.f256, Tryz.f257, Tryz.f258, Tryz.f259, Tryz.f260, Tryz.f261, Tryz.f262, Tryz.f263, Tryz.f264, Tryz.f265, Tryz.f266, Tryz.f267, Tryz.f268, Tryz.f269, Tryz.f270, Tryz.f271],
 [Tryz.f272, Tryz.f273, Tryz.f274, Tryz.f275, Tryz.f276, Tryz.f277, Tryz.f278, Tryz.f279, Tryz.f280, Tryz.f281, Tryz.f282, Tryz.f283, Tryz.f284, Tryz.f285, Tryz.f286, Tryz.f287],
 [Tryz.f288, Tryz.f289, Tryz.f290, Tryz.f291, Tryz.f292, Tryz.f293, Tryz.f294, Tryz.f295, Tryz.f296, Tryz.f297, Tryz.f298, Tryz.f299, Tryz.f300, Tryz.f301, Tryz.f302, Tryz.f303],
 [Tryz.f304, Tryz.f305, Tryz.f306, Tryz.f307, Tryz.f308, Tryz.f309, Tryz.f310, Tryz.f311, Tryz.f312, Tryz.f313, Tryz.f314, Tryz.f315, Tryz.f316, Tryz.f317, Tryz.f318, Tryz.f319],
 [Tryz.f320, Tryz.f321, Tryz.f322, Tryz.f323, Tryz.f324, Tryz.f325, Tryz.f326, Tryz.f327, Tryz.f328, Tryz.f329, Tryz.f330, Tryz.f331, Tryz.f332, Tryz.f333, Tryz.f334, Tryz.f335],
 [Tryz.f336, Tryz.f337, Tryz.f338, Tryz.f339, Tryz.f340, Tryz.f341, Tryz.f342, Tryz.f343, Tryz.f344, Tryz.f345, Tryz.f346, Tryz.f347, Tryz.f348, Tryz.f349, Tryz.f350, Tryz.f351],
 [Tryz.f352, Tryz.f353, Tryz.f354, Tryz.f355, Tryz.f356, Tryz.f357, Tryz.f358, Tryz.f359, Tryz.f360, Tryz.f361, Tryz.f362, Tryz.f363, Tryz.f364, Tryz.f365, Tryz.f366, Tryz.f367],
 [Tryz.f368, Tryz.f369, Tryz.f370, Tryz.f371, Tryz.f372, Tryz.f373, Tryz.f374, Tryz.f375, Tryz.f376, Tryz.f377, Tryz.f378, Tryz.f379, Tryz.f380, Tryz.f381, Tryz.f382, Tryz.f383],
 [Tryz.f384, Tryz.f385, Tryz.f386, Tryz.f387, Tryz.f388, Tryz.f389, Tryz.f390, Tryz.f391, Tryz.f392, Tryz.f393, Tryz.f394, Tryz.f395, Tryz.f396, Tryz.f397, Tryz.f398, Tryz.f399],
 [Tryz.f400, Tryz.f401, Tryz.f402, Tryz.f403, Tryz.f404, Tryz.f405, Tryz.f406, Tryz.f407, Tryz.f408, Tryz.f409, Tryz.f410, Tryz.f411, Tryz.f412, Tryz.f413, Tryz.f414, Tryz.f415],
 [Tryz.f416, Tryz.f417, Tryz.f418, Tryz.f419, Tryz.f420, Tryz.f421, Tryz.f422, Tryz.f423, Tryz.f424, Tryz.f425, Tryz.f426, Tryz.f427, Tryz.f428, Tryz.f429, Tryz.f430, Tryz.f431],
 [Tryz.f432, Tryz.f433, Tryz.f434, Tryz.f435, Tryz.f436, Tryz.f437, Tryz.f438, Tryz.f439, Tryz.f440, Tryz.f441, Tryz.f442, Tryz.f443, Tryz.f444, Tryz.f445, Tryz.f446, Tryz.f447],
 [Tryz.f448, Tryz.f449, Tryz.f450, Tryz.f451, Tryz.f452, Tryz.f453, Tryz.f454, Tryz.f455, Tryz.f456, Tryz.f457, Tryz.f458, Tryz.f459, Tryz.f460, Tryz.f461, Tryz.f462, Tryz.f463],
 [Tryz.f464, Tryz.f465, Tryz.f466, Tryz.f467, Tryz.f468, Tryz.f469, Tryz.f470, Tryz.f471, Tryz.f472, Tryz.f473, Tryz.f474, Tryz.f475, Tryz.f476, Tryz.f477, Tryz.f478, Tryz.f479],
 [Tryz.f480, Tryz.f481, Tryz.f482, Tryz.f483, Tryz.f484, Tryz.f485, Tryz.f486, Tryz.f487, Tryz.f488, Tryz.f489, Tryz.f490, Tryz.f491, Tryz.f492, Tryz.f493, Tryz.f494, Tryz.f495],
 [Tryz.f496, Tryz.f497, Tryz.f498, Tryz.f499, Tryz.f500]
]
end Go.Proofs.YtbppedokdfmnoaaGreatDoor

namespace Go.Proofs.YtbppedokdfmnoaaGreatDoor
open Go.Sx
theorem tab_eq : tabOf Tryz.prog 10 = tab := by kernel_rfl
theorem tab_ok : TabOK Tryz.prog tab := tabOf_ok Tryz.prog 10 tab_eq
end Go.Proofs.YtbppedokdfmnoaaGreatDoor

namespace Go.Proofs.YtbppedokdfmnoaaGreatDoor
open Go.Sx
noncomputable def mtab : List (TypeId × String × FuncId) := [(115, "airshare/machine.join", 404), (115, "airshare/machine.leave", 405), (115, "airshare/machine.rebased", 406), (115, "airshare/machine.step", 407), (115, "airshare/machine.weight", 408), (120, "airshare/machine.join", 440), (120, "airshare/machine.leave", 441), (120, "airshare/machine.rebased", 442), (120, "airshare/machine.step", 443), (120, "airshare/machine.weight", 444), (124, "airshare/machine.join", 477), (124, "airshare/machine.leave", 478), (124, "airshare/machine.weight", 479)]
noncomputable def countP : PSp := fun l k => match l with
 | [.str s, .int .u8 c] => natF (Go.Lib.countByte s c.toNat.toUInt8) fun n => k (.int .i64 (n : Int))
 | _ => False
noncomputable def indexP : PSp := fun l k => match l with
 | [.str s, .int .u8 c] => intF (Go.Lib.indexByte s c.toNat.toUInt8) fun n => k (.int .i64 n)
 | _ => False
theorem repl2 {w : World} {E : Nat -> Prop} {σ : Sg} {a b : SV} {vs : List Value} (h : RepL w E σ [a, b] vs) : ∃ x y, vs = [x, y] /\ Rep w E σ a x /\ Rep w E σ b y := by
 obtain ⟨hl, hr⟩ := h
 match vs, hl with
 | [x, y], _ => exact ⟨x, y, rfl, hr 0 a x rfl rfl, hr 1 b y rfl rfl⟩
theorem count_s (s : List UInt8) (c : Int) : PSpec Tryz.prog 329 [.str s, .int .u8 c] (· = .int .i64 (Go.Lib.countByte s c.toNat.toUInt8 : Nat)) := by
 refine .of_value rfl fun w E σ vs hr => ?_
 obtain ⟨x, y, rfl, h1, h2⟩ := repl2 hr
 cases h1; cases h2
 exact ⟨_, (run_callFunc_extern (e := Extern.BytealgCount.count) (fn := Tryz.f329) (by kernel_rfl) (by rfl) (by rfl) (by rfl) (by rfl) _ w).trans (by rw [Go.Lib.run_countString]; rfl), .int⟩
theorem index_s (s : List UInt8) (c : Int) : PSpec Tryz.prog 377 [.str s, .int .u8 c] (· = .int .i64 (Go.Lib.indexByte s c.toNat.toUInt8)) := by
 refine .of_value rfl fun w E σ vs hr => ?_
 obtain ⟨x, y, rfl, h1, h2⟩ := repl2 hr
 cases h1; cases h2
 exact ⟨_, (run_callFunc_extern (e := Extern.BytealgIndexByte.indexByte) (fn := Tryz.f377) (by kernel_rfl) (by rfl) (by rfl) (by rfl) (by rfl) _ w).trans (by rw [Go.Lib.run_indexByteString]; rfl), .int⟩
def PSpOK (P : Program) (f : FuncId) (sp : PSp) : Prop := ∀ (l : List SV) (k : SV -> Prop), sp l k -> ∃ s, k s /\ PSpec P f l (· = s)
theorem count_ok : PSpOK Tryz.prog 329 countP := by
 intro l k h
 match l with
 | [.str s, .int .u8 c] => exact ⟨_, natF_sound (k := fun n => k (.int .i64 (n : Int))) h, count_s s c⟩
 | [] => exact h.elim
 | [a] => cases a <;> exact h.elim
 | a :: b :: d :: r => cases a <;> first | exact h.elim | (cases b <;> first | exact h.elim | (rename_i q n; cases q <;> exact h.elim))
 | [a, b] => cases a <;> first | exact h.elim | (cases b <;> first | exact h.elim | (rename_i q n; cases q <;> first | exact h.elim | exact ⟨_, natF_sound (k := fun n => k (.int .i64 (n : Int))) h, count_s _ _⟩))
theorem index_ok : PSpOK Tryz.prog 377 indexP := by
 intro l k h
 match l with
 | [.str s, .int .u8 c] => exact ⟨_, intF_sound (k := fun n => k (.int .i64 n)) h, index_s s c⟩
 | [] => exact h.elim
 | [a] => cases a <;> exact h.elim
 | a :: b :: d :: r => cases a <;> first | exact h.elim | (cases b <;> first | exact h.elim | (rename_i q n; cases q <;> exact h.elim))
 | [a, b] => cases a <;> first | exact h.elim | (cases b <;> first | exact h.elim | (rename_i q n; cases q <;> first | exact h.elim | exact ⟨_, intF_sound (k := fun n => k (.int .i64 n)) h, index_s _ _⟩))
noncomputable def sameP : PSp := fun l k => match l with
 | [s] => k s
 | _ => False
theorem repl1 {w : World} {E : Nat -> Prop} {σ : Sg} {a : SV} {vs : List Value} (h : RepL w E σ [a] vs) : ∃ x, vs = [x] /\ Rep w E σ a x := by
 obtain ⟨hl, hr⟩ := h
 match vs, hl with
 | [x], _ => exact ⟨x, rfl, hr 0 a x rfl rfl⟩
theorem same_s (s : SV) : PSpec Tryz.prog 249 [s] (· = s) := by
 refine .of_value rfl fun w E σ vs hr => ?_
 obtain ⟨x, rfl, h1⟩ := repl1 hr
 exact ⟨_, (run_callFunc_extern (e := Extern.AbiNoEscape.same) (fn := Tryz.f249) (by kernel_rfl) (by rfl) (by rfl) (by rfl) (by rfl) _ w).trans rfl, h1⟩
theorem same_ok : PSpOK Tryz.prog 249 sameP := by
 intro l k h
 match l with
 | [s] => exact ⟨_, h, same_s s⟩
 | [] => exact h.elim
 | _ :: _ :: _ => exact h.elim
theorem ftab_eq : ftab.flatten = Tryz.prog.funcs.toList := by kernel_rfl
theorem ftab_names : (Tryz.prog.funcs.toList.all fun fn => !(fn.name == "runtime.NumGoroutine")) = true := by kernel_rfl
noncomputable def cloneH : HSp := fun l H K => match l with
 | [.ifc u (.mp b)] => getH H b fun blk => match blk with
  | .mapB es c => pushH H (.mapB es c) fun n H' => K (.ifc u (.mp n)) H' []
  | .pmap es c => pushH H (.pmap es c) fun n H' => K (.ifc u (.mp n)) H' []
  | _ => False
 | _ => False
noncomputable def keyOf (es : List ME) (c : Nat) (H : HW) (K : KV3) : Prop := match es with
 | [] => K .nils H []
 | [(.int .i64 k, _, st)] => bChk (leI (-9223372036854775808) k) (bChk (leI k 9223372036854775807) (bChk (Nat.ble (Nat.succ st) c) (pushH H (.row 3 1 [[.int .i64 k]]) fun n H' => K (.sl n) H' [])))
 | _ => False
noncomputable def seqH : HSp := fun l H K => match l with
 | [.nils, .fn f [.ptr b0 0]] => bFork (memB f [235, 248, 294, 437]) (getH H b0 fun blk => match blk with
  | .fix _ [.mp b] => getH H b fun m => match m with
   | .mapB es c => keyOf es c H K
   | .pmap es c => keyOf es c H K
   | _ => False
  | _ => False) False
 | _ => False
noncomputable def checkH : HSp := fun l H K => match l with
 | [.ptr b 0] => getH H b fun blk => match blk with
  | .fix T [.nilp, x] => bChk (Nat.beq T 241) (setH H b (.fix T [.ptr b 0, x]) fun H' => K (.tup []) H' [b])
  | .fix _ [.ptr b' 0, _] => bChk (Nat.beq b' b) (K (.tup []) H [])
  | _ => False
 | _ => False
noncomputable def growH : HSp := fun l H K => match l with
 | [.ptr b 0, .int .i64 n] => bChk (leI 1 n) (bChk (leI n 281474976710656) (getH H b fun blk => match blk with
  | .fix T [x, .nils] => bChk (Nat.beq T 241) (pushH H (.row 5 1 []) fun r H1 => setH H1 b (.fix T [x, .sl r]) fun H' => K (.tup []) H' [b])
  | _ => False))
 | _ => False
noncomputable def digK (f : Nat) : Nat -> List UInt8 -> (List UInt8 -> Prop) -> Prop :=
 Nat.rec (motive := fun _ => Nat -> List UInt8 -> (List UInt8 -> Prop) -> Prop) (fun _ _ _ => False)
  (fun _ ih n acc k => natF (Nat.div n 10) fun q => natF (Nat.mod n 10) fun r => Bool.rec (motive := fun _ => Prop) (ih q (UInt8.ofNat (Nat.add 48 r) :: acc) k) (k (UInt8.ofNat (Nat.add 48 r) :: acc)) (Nat.beq q 0)) f
noncomputable def powK (cs : List SV) : Nat -> Prop -> Prop :=
 List.rec (motive := fun _ => Nat -> Prop -> Prop) (fun _ k => k) (fun s _ ih p k => match s with
  | .int .u64 v => bChk (Nat.beq v.toNat p) (bChk (leI 0 v) (natF (Nat.mul 10 p) fun p' => ih p' k))
  | _ => False) cs
noncomputable def fmtH : HSp := fun l H K => match l with
 | [.int .i64 n, .int .i64 m] => bChk (Nat.beq m.toNat 10) (bChk (leI 0 n) (bChk (leI n 9223372036854775807) (getH H 0 fun blk => match blk with
  | .glob 0 T cs => bChk (Nat.beq T 457) (eqNK cs.length 20 (powK cs 1 (natF n.toNat fun u => digK 20 u [] fun s => K (.str s) H [])))
  | _ => False)))
 | _ => False
noncomputable def itab : List (TypeId × TypeId × Bool) := [(269, 115, true), (269, 120, true), (269, 124, false)]
noncomputable def hspecs : List (FuncId × HSp) := [(434, cloneH), (295, seqH), (183, checkH), (247, growH), (180, fmtH)]
noncomputable def pspecs : List (FuncId × PSp) := [(329, countP), (377, indexP), (249, sameP)]
noncomputable def env0 : Env := ⟨tab, ftab, mtab, pspecs, hspecs, itab, true⟩
end Go.Proofs.YtbppedokdfmnoaaGreatDoor

namespace Go.Proofs.YtbppedokdfmnoaaGreatDoor
open Go.Sx
theorem flat_get {α : Type} (L : List (List α)) : ∀ {q r : Nat} {l : List α} {x : α}, (∀ (i : Nat) (li : List α), i < q -> L[i]? = some li -> li.length = 16) -> L[q]? = some l -> l[r]? = some x -> L.flatten[16 * q + r]? = some x := by
 induction L with
 | nil => intro q r l x _ h; simp at h
 | cons a L ih =>
  intro q r l x hl h hx
  cases q with
  | zero =>
   simp at h; subst h
   rw [List.flatten_cons, Nat.mul_zero, Nat.zero_add, List.getElem?_append_left (List.getElem?_eq_some_iff.1 hx).1]
   exact hx
  | succ q =>
   have ha : a.length = 16 := hl 0 a (by omega) rfl
   rw [List.flatten_cons, List.getElem?_append_right (by omega), ha, show 16 * (q + 1) + r - 16 = 16 * q + r by omega]
   exact ih (fun i li hi hli => hl (i + 1) li (by omega) (by simpa using hli)) (by simpa using h) hx
theorem rows_len : (ftab.dropLast.all fun l => l.length == 16) = true := by kernel_rfl
theorem ft_ok : FTOK Tryz.prog ftab := by
 intro f l fn h1 h2
 have hq : ∀ (i : Nat) (li : List Func), i < Nat.div f 16 -> ftab[i]? = some li -> li.length = 16 := fun i li hi hli => by
  have hlt := (List.getElem?_eq_some_iff.1 h1).1
  have hm : li ∈ ftab.dropLast := by
   rw [List.mem_iff_getElem?]
   refine ⟨i, ?_⟩
   rw [List.getElem?_dropLast, if_pos (by omega)]
   exact hli
  have := List.all_eq_true.1 rows_len li hm
  simpa using this
 have h := flat_get ftab hq h1 h2
 rw [ftab_eq, show 16 * Nat.div f 16 + Nat.mod f 16 = f from Nat.div_add_mod f 16, Array.getElem?_toList] at h
 refine ⟨h, ?_⟩
 have := List.all_eq_true.1 ftab_names fn (by rw [Array.mem_toList_iff]; exact Array.mem_of_getElem? h)
 simpa using this
theorem mt_ok : MTOK Tryz.prog mtab := by
 intro e he w v
 simp only [mtab, List.mem_cons, List.not_mem_nil, or_false] at he
 rcases he with rfl | rfl | rfl | rfl | rfl | rfl | rfl | rfl | rfl | rfl | rfl | rfl | rfl <;> kernel_rfl
end Go.Proofs.YtbppedokdfmnoaaGreatDoor
