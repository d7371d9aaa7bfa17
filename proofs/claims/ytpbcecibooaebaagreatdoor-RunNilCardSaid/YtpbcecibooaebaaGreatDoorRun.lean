/-
  The statement's function, reckoned.
-/
import Derived.Test.YtpbcecibooaebaaGreatDoorAwake
namespace Go.Proofs.YtpbcecibooaebaaGreatDoor
open Go Go.Ab
theorem run0 : tells (acall env2 (aexec env2 100000) (.fn 3 [] []) [.ext 0, .ext 1, .res .i64 5 0] (heap0 gls)) (.bool true) = true := by kernel_rfl
theorem run1 : tells (acall env2 (aexec env2 100000) (.fn 3 [] []) [.ext 0, .ext 1, .res .i64 5 1] (heap0 gls)) (.bool true) = true := by kernel_rfl
theorem run2 : tells (acall env2 (aexec env2 100000) (.fn 3 [] []) [.ext 0, .ext 1, .res .i64 5 2] (heap0 gls)) (.bool true) = true := by kernel_rfl
theorem run3 : tells (acall env2 (aexec env2 100000) (.fn 3 [] []) [.ext 0, .ext 1, .res .i64 5 3] (heap0 gls)) (.bool true) = true := by kernel_rfl
theorem run4 : tells (acall env2 (aexec env2 100000) (.fn 3 [] []) [.ext 0, .ext 1, .res .i64 5 4] (heap0 gls)) (.bool true) = true := by kernel_rfl
end Go.Proofs.YtpbcecibooaebaaGreatDoor
