import Derived.Test.YtkldmbgeldgfhaaGreatDoorWrong
namespace Go.Proofs.YtkldmbgeldgfhaaGreatDoor.fallocWrong
open Go Go.RowKit
set_option maxRecDepth 10000000 in
theorem t_9_0 : one 9 0 = true := by kernel_rfl
set_option maxRecDepth 10000000 in
theorem t_9_1 : one 9 1 = true := by kernel_rfl
set_option maxRecDepth 10000000 in
theorem t_9_2 : one 9 2 = true := by kernel_rfl
set_option maxRecDepth 10000000 in
theorem t_9_3 : one 9 3 = true := by kernel_rfl
set_option maxRecDepth 10000000 in
theorem t_9_4 : one 9 4 = true := by kernel_rfl
end Go.Proofs.YtkldmbgeldgfhaaGreatDoor.fallocWrong
