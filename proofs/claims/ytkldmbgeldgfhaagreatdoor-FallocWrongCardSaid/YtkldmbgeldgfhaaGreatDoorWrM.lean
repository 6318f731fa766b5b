import Derived.Test.YtkldmbgeldgfhaaGreatDoorWrong
namespace Go.Proofs.YtkldmbgeldgfhaaGreatDoor.fallocWrong
open Go Go.RowKit
set_option maxRecDepth 10000000 in
theorem t_12_0 : one 12 0 = true := by kernel_rfl
set_option maxRecDepth 10000000 in
theorem t_12_1 : one 12 1 = true := by kernel_rfl
set_option maxRecDepth 10000000 in
theorem t_12_2 : one 12 2 = true := by kernel_rfl
set_option maxRecDepth 10000000 in
theorem t_12_3 : one 12 3 = true := by kernel_rfl
set_option maxRecDepth 10000000 in
theorem t_12_4 : one 12 4 = true := by kernel_rfl
end Go.Proofs.YtkldmbgeldgfhaaGreatDoor.fallocWrong
