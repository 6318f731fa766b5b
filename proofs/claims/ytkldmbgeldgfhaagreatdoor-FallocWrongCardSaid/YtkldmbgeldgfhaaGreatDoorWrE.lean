import Derived.Test.YtkldmbgeldgfhaaGreatDoorWrong
namespace Go.Proofs.YtkldmbgeldgfhaaGreatDoor.fallocWrong
open Go Go.RowKit
set_option maxRecDepth 10000000 in
theorem t_4_0 : one 4 0 = true := by kernel_rfl
set_option maxRecDepth 10000000 in
theorem t_4_1 : one 4 1 = true := by kernel_rfl
set_option maxRecDepth 10000000 in
theorem t_4_2 : one 4 2 = true := by kernel_rfl
set_option maxRecDepth 10000000 in
theorem t_4_3 : one 4 3 = true := by kernel_rfl
set_option maxRecDepth 10000000 in
theorem t_4_4 : one 4 4 = true := by kernel_rfl
end Go.Proofs.YtkldmbgeldgfhaaGreatDoor.fallocWrong
