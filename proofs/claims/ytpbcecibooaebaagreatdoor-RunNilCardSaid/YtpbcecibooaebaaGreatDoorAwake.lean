/-
  The call that every program must know, reckoned.
-/
import Derived.Test.YtpbcecibooaebaaGreatDoorEnv
namespace Go.Proofs.YtpbcecibooaebaaGreatDoor
open Go Go.Ab
theorem awake_run : tells (acall env1 (aexec env1 100000) (.fn 15 [] []) [] (heap0 gls)) (.bool true) = true := by kernel_rfl

noncomputable def tabAwake : List (List AV × AV) := [([], .bool true)]
noncomputable def env2 : Env := ⟨cFn Tryz.prog, fun f => match Nat.beq f 15 with
  | true => some (memo gls tabAwake)
  | false => env1.pr f⟩

set_option maxRecDepth 100000
variable {E : Cx} {M : Int}
theorem env2_ok (hp : E.prog = Tryz.prog) (hE : E.ext 9 = .int .i64 M) : EnvOk E Tryz.prog env2 := by
  refine ⟨hp, fun f fn h => h, fun f p h => ?_⟩
  simp only [env2] at h
  split at h
  · rename_i hf
    cases h
    rw [Nat.eq_of_beq_eq_true hf]
    refine memo_ok (env1_ok hp hE) mixed globs gls_plain ⟨_, _, Tryz.func15, rfl, by decide⟩ (fun r h => ?_)
    simp only [tabAwake, List.mem_cons, List.not_mem_nil, or_false] at h
    subst h
    exact ⟨rfl, rfl, 100000, awake_run⟩
  · exact (env1_ok hp hE).pr f p h
end Go.Proofs.YtpbcecibooaebaaGreatDoor
