import Derived.Test.YtkldmbgeldgfhaaGreatDoorWrong
namespace Go.Proofs.YtkldmbgeldgfhaaGreatDoor.fallocWrong
open Go Go.RowKit
set_option maxRecDepth 10000000 in
theorem t_5_0 : one 5 0 = true := by kernel_rfl
set_option maxRecDepth 10000000 in
theorem t_5_1 : one 5 1 = true := by kernel_rfl
set_option maxRecDepth 10000000 in
theorem t_5_2 : one 5 2 = true := by kernel_rfl
set_option maxRecDepth 10000000 in
theorem t_5_3 : one 5 3 = true := by kernel_rfl
set_option maxRecDepth 10000000 in
theorem t_5_4 : one 5 4 = true := by kernel_rfl
end Go.Proofs.YtkldmbgeldgfhaaGreatDoor.fallocWrong
