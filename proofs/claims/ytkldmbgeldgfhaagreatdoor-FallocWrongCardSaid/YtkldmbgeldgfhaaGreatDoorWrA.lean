import Derived.Test.YtkldmbgeldgfhaaGreatDoorWrong
namespace Go.Proofs.YtkldmbgeldgfhaaGreatDoor.fallocWrong
open Go Go.RowKit
set_option maxRecDepth 10000000 in
theorem t_0_0 : one 0 0 = true := by kernel_rfl
set_option maxRecDepth 10000000 in
theorem t_0_1 : one 0 1 = true := by kernel_rfl
set_option maxRecDepth 10000000 in
theorem t_0_2 : one 0 2 = true := by kernel_rfl
set_option maxRecDepth 10000000 in
theorem t_0_3 : one 0 3 = true := by kernel_rfl
set_option maxRecDepth 10000000 in
theorem t_0_4 : one 0 4 = true := by kernel_rfl
end Go.Proofs.YtkldmbgeldgfhaaGreatDoor.fallocWrong
