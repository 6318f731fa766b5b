import Derived.Test.YtkldmbgeldgfhaaGreatDoorWrong
namespace Go.Proofs.YtkldmbgeldgfhaaGreatDoor.fallocWrong
open Go Go.RowKit
set_option maxRecDepth 10000000 in
theorem t_3_0 : one 3 0 = true := by kernel_rfl
set_option maxRecDepth 10000000 in
theorem t_3_1 : one 3 1 = true := by kernel_rfl
set_option maxRecDepth 10000000 in
theorem t_3_2 : one 3 2 = true := by kernel_rfl
set_option maxRecDepth 10000000 in
theorem t_3_3 : one 3 3 = true := by kernel_rfl
set_option maxRecDepth 10000000 in
theorem t_3_4 : one 3 4 = true := by kernel_rfl
end Go.Proofs.YtkldmbgeldgfhaaGreatDoor.fallocWrong
