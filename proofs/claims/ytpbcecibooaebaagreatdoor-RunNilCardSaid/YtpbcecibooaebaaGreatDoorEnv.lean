/-
  The abstract machine over this seat's program: what is known of some of its functions.
-/
import Derived.Test.YtpbcecibooaebaaGreatDoorAbMemo
import Derived.Test.YtpbcecibooaebaaGreatDoorProg
import Derived.Shelf.Strings.Search2
import Derived.KernelRfl
import Derived.Test.YtpbcecibooaebaaGreatDoorLay
namespace Go.Proofs.YtpbcecibooaebaaGreatDoor
open Go Go.Ab

noncomputable def gls : List (List AV × Nat) := [([], 446), ([.ext 9], 3), ([], 515), ([], 518), ([], 550), ([], 110)]

noncomputable def env0 : Env := ⟨cFn Tryz.prog, fun f => match Nat.beq f 318 with
  | true => some (prIndex 1 9)
  | false => none⟩

/-- the table's number of a byte, by shifts -/
noncomputable def crcN (x : Nat) : Nat := Nat.rec (motive := fun _ => Nat → Nat) (fun x => x) (fun _ ih x => match Nat.beq (Nat.land x 1) 1 with
  | true => withN (Nat.xor (Nat.shiftRight x 1) 3988292384) ih
  | false => withN (Nat.shiftRight x 1) ih) 8 x

noncomputable def prCrc (xs : List AV) : Option AV := match xs with
  | [.int .u32 (.ofNat x)] => match ltN x 256 with
    | true => some (.int .u32 (.ofNat (crcN x)))
    | false => none
  | _ => none

/-- all numbers below n -/
noncomputable def allN (p : Nat → Bool) (n : Nat) : Bool := Nat.rec (motive := fun _ => Bool) true (fun k ih => match p k with
  | true => ih
  | false => false) n

theorem allN_spec {p : Nat → Bool} : ∀ {n : Nat}, allN p n = true → ∀ k, k < n → p k = true := by
  intro n
  induction n with
  | zero => intro _ k hk; omega
  | succ n ih =>
    intro h k hk
    have e : allN p (n + 1) = match p n with
      | true => allN p n
      | false => false := rfl
    rw [e] at h
    split at h
    · rename_i hp
      by_cases hn : k = n
      · subst hn; exact hp
      · exact ih h k (by omega)
    · simp at h

theorem crc_all : allN (fun x => tells (acall env0 (aexec env0 1000) (.fn 253 [] []) [.int .u32 (.ofNat x)] (heap0 gls)) (.int .u32 (.ofNat (crcN x)))) 256 = true := by kernel_rfl

/-- "1" as a version; "aa" as a name -/
noncomputable def tabParse : List (List AV × AV) := [([.str [49]], .tup [.str [48], .str [49], .str [], .int .i64 0])]
noncomputable def tabName : List (List AV × AV) := [([.str [97, 97]], .bool true)]

theorem parse_run : tells (acall env0 (aexec env0 1000) (.fn 199 [] []) [.str [49]] (heap0 gls)) (.tup [.str [48], .str [49], .str [], .int .i64 0]) = true := by kernel_rfl
theorem name_run : tells (acall env0 (aexec env0 1000) (.fn 125 [] []) [.str [97, 97]] (heap0 gls)) (.bool true) = true := by kernel_rfl

noncomputable def env1 : Env := ⟨cFn Tryz.prog, fun f => match Nat.beq f 253 with
  | true => some (memoF gls prCrc)
  | false => match Nat.beq f 199 with
    | true => some (memo gls tabParse)
    | false => match Nat.beq f 125 with
      | true => some (memo gls tabName)
      | false => match Nat.beq f 318 with
        | true => some (prIndex 1 9)
        | false => none⟩

theorem mixed : Tryz.prog.follows .mixedOrders = true := Tryz.lays219.mixed
theorem globs : Tryz.prog.globals.size = gls.length := by kernel_rfl
theorem gls_plain : ∀ g ∈ gls, AV.plain.plains g.1 = true := by
  intro g hg
  simp only [gls, List.mem_cons, List.not_mem_nil, or_false] at hg
  rcases hg with rfl | rfl | rfl | rfl | rfl | rfl <;> rfl

set_option maxRecDepth 100000
variable {E : Cx} {M : Int}

theorem index_ok (hE : E.ext 9 = .int .i64 M) : PrOk E Tryz.prog 318 (prIndex 1 9) :=
  prIndex_ok hE (by rw [globs]; decide) ⟨_, _, Tryz.func318, rfl, by decide⟩ (fun s sub m w hs hm => Any.stringslite_Index Tryz.lays219 s sub m w hs hm)

theorem env0_ok (hp : E.prog = Tryz.prog) (hE : E.ext 9 = .int .i64 M) : EnvOk E Tryz.prog env0 := by
  refine ⟨hp, fun f fn h => h, fun f p h => ?_⟩
  simp only [env0] at h
  split at h
  · rename_i hf
    cases h
    rw [Nat.eq_of_beq_eq_true hf]
    exact index_ok hE
  · cases h

theorem crc_ok (hp : E.prog = Tryz.prog) (hE : E.ext 9 = .int .i64 M) : PrOk E Tryz.prog 253 (memoF gls prCrc) := by
  refine memoF_ok (env0_ok hp hE) mixed globs gls_plain ⟨_, _, Tryz.func253, rfl, by decide⟩ (fun xs v h => ?_)
  unfold prCrc at h
  split at h <;> first | (simp at h; done) | skip
  rename_i x
  split at h <;> first | (simp at h; done) | skip
  rename_i hx
  simp only [Option.some.injEq] at h
  subst h
  exact ⟨rfl, rfl, 1000, allN_spec crc_all x (by simpa using hx)⟩

theorem parse_ok (hp : E.prog = Tryz.prog) (hE : E.ext 9 = .int .i64 M) : PrOk E Tryz.prog 199 (memo gls tabParse) := by
  refine memo_ok (env0_ok hp hE) mixed globs gls_plain ⟨_, _, Tryz.func199, rfl, by decide⟩ (fun r h => ?_)
  simp only [tabParse, List.mem_cons, List.not_mem_nil, or_false] at h
  subst h
  exact ⟨rfl, rfl, 1000, parse_run⟩

theorem name_ok (hp : E.prog = Tryz.prog) (hE : E.ext 9 = .int .i64 M) : PrOk E Tryz.prog 125 (memo gls tabName) := by
  refine memo_ok (env0_ok hp hE) mixed globs gls_plain ⟨_, _, Tryz.func125, rfl, by decide⟩ (fun r h => ?_)
  simp only [tabName, List.mem_cons, List.not_mem_nil, or_false] at h
  subst h
  exact ⟨rfl, rfl, 1000, name_run⟩

theorem env1_ok (hp : E.prog = Tryz.prog) (hE : E.ext 9 = .int .i64 M) : EnvOk E Tryz.prog env1 := by
  refine ⟨hp, fun f fn h => h, fun f p h => ?_⟩
  simp only [env1] at h
  split at h
  · rename_i hf
    cases h
    rw [Nat.eq_of_beq_eq_true hf]
    exact crc_ok hp hE
  · split at h
    · rename_i hf
      cases h
      rw [Nat.eq_of_beq_eq_true hf]
      exact parse_ok hp hE
    · split at h
      · rename_i hf
        cases h
        rw [Nat.eq_of_beq_eq_true hf]
        exact name_ok hp hE
      · split at h
        · rename_i hf
          cases h
          rw [Nat.eq_of_beq_eq_true hf]
          exact index_ok hE
        · cases h
end Go.Proofs.YtpbcecibooaebaaGreatDoor
