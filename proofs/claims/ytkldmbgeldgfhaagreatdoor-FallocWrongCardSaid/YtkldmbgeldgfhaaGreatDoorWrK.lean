import Derived.Test.YtkldmbgeldgfhaaGreatDoorWrong
namespace Go.Proofs.YtkldmbgeldgfhaaGreatDoor.fallocWrong
open Go Go.RowKit
set_option maxRecDepth 10000000 in
theorem t_10_0 : one 10 0 = true := by kernel_rfl
set_option maxRecDepth 10000000 in
theorem t_10_1 : one 10 1 = true := by kernel_rfl
set_option maxRecDepth 10000000 in
theorem t_10_2 : one 10 2 = true := by kernel_rfl
set_option maxRecDepth 10000000 in
theorem t_10_3 : one 10 3 = true := by kernel_rfl
set_option maxRecDepth 10000000 in
theorem t_10_4 : one 10 4 = true := by kernel_rfl
end Go.Proofs.YtkldmbgeldgfhaaGreatDoor.fallocWrong
