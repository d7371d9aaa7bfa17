/-
  The statement's function, reckoned.
-/
import Derived.Test.YtclilclihmefbaaGreatDoorNilEnv
namespace Go.Proofs.YtclilclihmefbaaGreatDoor
open Go Go.Ab
theorem run : tells (acall env1 (aexec env1 100000) (.fn 3 [] []) [.ext 0, .ext 1] (heap0 gls)) (.bool true) = true := by kernel_rfl
end Go.Proofs.YtclilclihmefbaaGreatDoor
