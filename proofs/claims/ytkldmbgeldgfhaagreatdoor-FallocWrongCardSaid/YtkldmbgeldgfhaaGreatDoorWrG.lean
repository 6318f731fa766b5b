import Derived.Test.YtkldmbgeldgfhaaGreatDoorWrong
namespace Go.Proofs.YtkldmbgeldgfhaaGreatDoor.fallocWrong
open Go Go.RowKit
set_option maxRecDepth 10000000 in
theorem t_6_0 : one 6 0 = true := by kernel_rfl
set_option maxRecDepth 10000000 in
theorem t_6_1 : one 6 1 = true := by kernel_rfl
set_option maxRecDepth 10000000 in
theorem t_6_2 : one 6 2 = true := by kernel_rfl
set_option maxRecDepth 10000000 in
theorem t_6_3 : one 6 3 = true := by kernel_rfl
set_option maxRecDepth 10000000 in
theorem t_6_4 : one 6 4 = true := by kernel_rfl
end Go.Proofs.YtkldmbgeldgfhaaGreatDoor.fallocWrong
