import Derived.Test.YtkldmbgeldgfhaaGreatDoorWrong
namespace Go.Proofs.YtkldmbgeldgfhaaGreatDoor.fallocWrong
open Go Go.RowKit
set_option maxRecDepth 10000000 in
theorem t_8_0 : one 8 0 = true := by kernel_rfl
set_option maxRecDepth 10000000 in
theorem t_8_1 : one 8 1 = true := by kernel_rfl
set_option maxRecDepth 10000000 in
theorem t_8_2 : one 8 2 = true := by kernel_rfl
set_option maxRecDepth 10000000 in
theorem t_8_3 : one 8 3 = true := by kernel_rfl
set_option maxRecDepth 10000000 in
theorem t_8_4 : one 8 4 = true := by kernel_rfl
end Go.Proofs.YtkldmbgeldgfhaaGreatDoor.fallocWrong
