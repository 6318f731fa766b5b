import Derived.Test.YtkldmbgeldgfhaaGreatDoorWrong
namespace Go.Proofs.YtkldmbgeldgfhaaGreatDoor.fallocWrong
open Go Go.RowKit
set_option maxRecDepth 10000000 in
theorem t_1_0 : one 1 0 = true := by kernel_rfl
set_option maxRecDepth 10000000 in
theorem t_1_1 : one 1 1 = true := by kernel_rfl
set_option maxRecDepth 10000000 in
theorem t_1_2 : one 1 2 = true := by kernel_rfl
set_option maxRecDepth 10000000 in
theorem t_1_3 : one 1 3 = true := by kernel_rfl
set_option maxRecDepth 10000000 in
theorem t_1_4 : one 1 4 = true := by kernel_rfl
end Go.Proofs.YtkldmbgeldgfhaaGreatDoor.fallocWrong
