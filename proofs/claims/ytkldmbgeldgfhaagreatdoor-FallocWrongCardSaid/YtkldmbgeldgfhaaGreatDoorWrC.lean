import Derived.Test.YtkldmbgeldgfhaaGreatDoorWrong
namespace Go.Proofs.YtkldmbgeldgfhaaGreatDoor.fallocWrong
open Go Go.RowKit
set_option maxRecDepth 10000000 in
theorem t_2_0 : one 2 0 = true := by kernel_rfl
set_option maxRecDepth 10000000 in
theorem t_2_1 : one 2 1 = true := by kernel_rfl
set_option maxRecDepth 10000000 in
theorem t_2_2 : one 2 2 = true := by kernel_rfl
set_option maxRecDepth 10000000 in
theorem t_2_3 : one 2 3 = true := by kernel_rfl
set_option maxRecDepth 10000000 in
theorem t_2_4 : one 2 4 = true := by kernel_rfl
end Go.Proofs.YtkldmbgeldgfhaaGreatDoor.fallocWrong
