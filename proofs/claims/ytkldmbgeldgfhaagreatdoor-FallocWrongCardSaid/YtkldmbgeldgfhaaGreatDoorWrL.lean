import Derived.Test.YtkldmbgeldgfhaaGreatDoorWrong
namespace Go.Proofs.YtkldmbgeldgfhaaGreatDoor.fallocWrong
open Go Go.RowKit
set_option maxRecDepth 10000000 in
theorem t_11_0 : one 11 0 = true := by kernel_rfl
set_option maxRecDepth 10000000 in
theorem t_11_1 : one 11 1 = true := by kernel_rfl
set_option maxRecDepth 10000000 in
theorem t_11_2 : one 11 2 = true := by kernel_rfl
set_option maxRecDepth 10000000 in
theorem t_11_3 : one 11 3 = true := by kernel_rfl
set_option maxRecDepth 10000000 in
theorem t_11_4 : one 11 4 = true := by kernel_rfl
end Go.Proofs.YtkldmbgeldgfhaaGreatDoor.fallocWrong
