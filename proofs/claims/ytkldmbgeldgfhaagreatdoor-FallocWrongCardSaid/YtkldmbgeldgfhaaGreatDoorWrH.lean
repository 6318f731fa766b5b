import Derived.Test.YtkldmbgeldgfhaaGreatDoorWrong
namespace Go.Proofs.YtkldmbgeldgfhaaGreatDoor.fallocWrong
open Go Go.RowKit
set_option maxRecDepth 10000000 in
theorem t_7_0 : one 7 0 = true := by kernel_rfl
set_option maxRecDepth 10000000 in
theorem t_7_1 : one 7 1 = true := by kernel_rfl
set_option maxRecDepth 10000000 in
theorem t_7_2 : one 7 2 = true := by kernel_rfl
set_option maxRecDepth 10000000 in
theorem t_7_3 : one 7 3 = true := by kernel_rfl
set_option maxRecDepth 10000000 in
theorem t_7_4 : one 7 4 = true := by kernel_rfl
end Go.Proofs.YtkldmbgeldgfhaaGreatDoor.fallocWrong
