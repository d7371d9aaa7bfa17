/-
  The abstract machine's functions without a body.
-/
import Derived.Test.YtpbcecibooaebaaGreatDoorAbAct6
import Derived.Lib.Bytealg
import Derived.Lib.IndexEntry
import Derived.Laws.Externs
import Derived.KernelRfl
namespace Go.Ab
open Go

section
variable {E : Cx} {m : Mp} {P : Program}

theorem beqN (b : UInt8) (c : Nat) (hc : c < 256) : Nat.beq b.toNat c = (b == c.toUInt8) := by
  rw [Bool.eq_iff_iff, Nat.beq_eq, beq_iff_eq]
  constructor
  · rintro h
    apply UInt8.toNat_inj.1
    rw [h]
    simp [Nat.toUInt8, Nat.mod_eq_of_lt hc]
  · rintro rfl
    simp [Nat.toUInt8, Nat.mod_eq_of_lt hc]

theorem indexByteL_eq (c : Nat) (hc : c < 256) : ∀ (s : List UInt8) (i : Nat), indexByteL c s i = if Lib.indexByte s c.toUInt8 = -1 then -1 else (i : Int) + Lib.indexByte s c.toUInt8 := by
  intro s
  induction s with
  | nil => intro i; rfl
  | cons b s ih =>
    intro i
    have e : indexByteL c (b :: s) i = match Nat.beq b.toNat c with
      | true => .ofNat i
      | false => withN (i + 1) (indexByteL c s) := rfl
    rw [e, withN_eq, ih, beqN b c hc]
    have cons : Lib.indexByte (b :: s) c.toUInt8 = if b == c.toUInt8 then 0 else if Lib.indexByte s c.toUInt8 == -1 then -1 else Lib.indexByte s c.toUInt8 + 1 := rfl
    rw [cons]
    have := Lib.indexByte_ge s c.toUInt8
    generalize Lib.indexByte s c.toUInt8 = q at *
    cases hb : (b == c.toUInt8)
    · by_cases h1 : q = -1
      · simp [h1]
      · simp only [h1, if_false, Bool.false_eq_true]
        have h2 : (q == -1) = false := by simpa using h1
        simp only [h2, Bool.false_eq_true, if_false]
        rw [if_neg (by omega)]
        push_cast; omega
    · simp

theorem countL_eq (c : Nat) (hc : c < 256) (s : List UInt8) : countL c s = Lib.countByte s c.toUInt8 := by
  induction s with
  | nil => rfl
  | cons b s ih =>
    have e : countL c (b :: s) = match Nat.beq b.toNat c with
      | true => countL c s + 1
      | false => countL c s := rfl
    rw [e, ih, beqN b c hc]
    unfold Lib.countByte
    rw [List.count_cons]
    cases (b == c.toUInt8) <;> simp

theorem isPre_eq : ∀ (p s : List UInt8), isPre p s = p.isPrefixOf s := by
  intro p
  induction p with
  | nil => intro s; cases s <;> rfl
  | cons x p ih =>
    intro s
    cases s with
    | nil => rfl
    | cons y s =>
      have e : isPre (x :: p) (y :: s) = match Nat.beq x.toNat y.toNat with
        | true => isPre p s
        | false => false := rfl
      rw [e, ih]
      have : Nat.beq x.toNat y.toNat = (x == y) := by
        rw [Bool.eq_iff_iff, Nat.beq_eq, beq_iff_eq, UInt8.toNat_inj]
      rw [this]
      simp only [List.isPrefixOf]
      cases (x == y) <;> rfl

theorem indexStrL_eq (p : List UInt8) (hp : p ≠ []) : ∀ (s : List UInt8) (i : Nat), indexStrL p s i = if Lib.index s p = -1 then -1 else (i : Int) + Lib.index s p := by
  intro s
  induction s with
  | nil =>
    intro i
    have : Lib.index [] p = -1 := by unfold Lib.index; cases p with | nil => exact absurd rfl hp | cons _ _ => rfl
    rw [this]
    rfl
  | cons b s ih =>
    intro i
    have e : indexStrL p (b :: s) i = match isPre p (b :: s) with
      | true => .ofNat i
      | false => withN (i + 1) (indexStrL p s) := rfl
    rw [e, withN_eq, ih, isPre_eq]
    have cons : Lib.index (b :: s) p = if p.isPrefixOf (b :: s) then 0 else if Lib.index s p == -1 then -1 else Lib.index s p + 1 := rfl
    rw [cons]
    have := Lib.index_ge s p
    generalize Lib.index s p = q at *
    cases hb : p.isPrefixOf (b :: s)
    · by_cases h1 : q = -1
      · simp [h1]
      · simp only [h1, if_false, Bool.false_eq_true]
        have h2 : (q == -1) = false := by simpa using h1
        simp only [h2, Bool.false_eq_true, if_false]
        rw [if_neg (by omega)]
        push_cast; omega
    · simp

/-! the tables -/

theorem fn_IndexByteString {fn : Func} (h : fn.name = "internal/bytealg.IndexByteString") (ho : fn.origin = "") :
    Extern.findNext fn = none ∧ Extern.find fn = some Extern.BytealgIndexByte.indexByte := by
  unfold Extern.findNext Extern.find
  rw [h, ho]
  have a1 : Extern.allNextRows.lookup "internal/bytealg.IndexByteString" = none := by kernel_rfl
  have a2 : Extern.allNextRows.lookup "" = none := by kernel_rfl
  have a3 : Extern.allGenericRows.lookup "internal/bytealg.IndexByteString" = none := by kernel_rfl
  have a4 : Extern.allTypedRows.lookup "internal/bytealg.IndexByteString" = none := by kernel_rfl
  have a5 : Extern.allRows.lookup "internal/bytealg.IndexByteString" = some Extern.BytealgIndexByte.indexByte := by kernel_rfl
  simp [a1, a2, a3, a4, a5]

theorem fn_CountString {fn : Func} (h : fn.name = "internal/bytealg.CountString") (ho : fn.origin = "") :
    Extern.findNext fn = none ∧ Extern.find fn = some Extern.BytealgCount.count := by
  unfold Extern.findNext Extern.find
  rw [h, ho]
  have a1 : Extern.allNextRows.lookup "internal/bytealg.CountString" = none := by kernel_rfl
  have a2 : Extern.allNextRows.lookup "" = none := by kernel_rfl
  have a3 : Extern.allGenericRows.lookup "internal/bytealg.CountString" = none := by kernel_rfl
  have a4 : Extern.allTypedRows.lookup "internal/bytealg.CountString" = none := by kernel_rfl
  have a5 : Extern.allRows.lookup "internal/bytealg.CountString" = some Extern.BytealgCount.count := by kernel_rfl
  simp [a1, a2, a3, a4, a5]

theorem fn_IndexString {fn : Func} (h : fn.name = "internal/bytealg.IndexString") (ho : fn.origin = "") :
    Extern.findNext fn = none ∧ Extern.find fn = some Extern.BytealgIndex.index := by
  unfold Extern.findNext Extern.find
  rw [h, ho]
  have a1 : Extern.allNextRows.lookup "internal/bytealg.IndexString" = none := by kernel_rfl
  have a2 : Extern.allNextRows.lookup "" = none := by kernel_rfl
  have a3 : Extern.allGenericRows.lookup "internal/bytealg.IndexString" = none := by kernel_rfl
  have a4 : Extern.allTypedRows.lookup "internal/bytealg.IndexString" = none := by kernel_rfl
  have a5 : Extern.allRows.lookup "internal/bytealg.IndexString" = some Extern.BytealgIndex.index := by kernel_rfl
  simp [a1, a2, a3, a4, a5]

theorem fn_NoEscape {fn : Func} (h : fn.name = "internal/abi.NoEscape") (ho : fn.origin = "") :
    Extern.findNext fn = none ∧ Extern.find fn = some Extern.AbiNoEscape.same := by
  unfold Extern.findNext Extern.find
  rw [h, ho]
  have a1 : Extern.allNextRows.lookup "internal/abi.NoEscape" = none := by kernel_rfl
  have a2 : Extern.allNextRows.lookup "" = none := by kernel_rfl
  have a3 : Extern.allGenericRows.lookup "internal/abi.NoEscape" = none := by kernel_rfl
  have a4 : Extern.allTypedRows.lookup "internal/abi.NoEscape" = none := by kernel_rfl
  have a5 : Extern.allRows.lookup "internal/abi.NoEscape" = some Extern.AbiNoEscape.same := by kernel_rfl
  simp [a1, a2, a3, a4, a5]

theorem fn_MakeNoZero {fn : Func} (h : fn.name = "internal/bytealg.MakeNoZero") (ho : fn.origin = "") :
    Extern.findNext fn = none ∧ Extern.find fn = some (Extern.BytealgMakeNoZero.makeNoZero fn.params fn.resultTypes) := by
  unfold Extern.findNext Extern.find
  rw [h, ho]
  have a1 : Extern.allNextRows.lookup "internal/bytealg.MakeNoZero" = none := by kernel_rfl
  have a2 : Extern.allNextRows.lookup "" = none := by kernel_rfl
  have a3 : Extern.allGenericRows.lookup "internal/bytealg.MakeNoZero" = none := by kernel_rfl
  have a4 : Extern.allTypedRows.lookup "internal/bytealg.MakeNoZero" = some Extern.BytealgMakeNoZero.makeNoZero := by kernel_rfl
  simp [a1, a2, a3, a4]

theorem extern_run {f : FuncId} {fn : Func} {e : Array Value → Sem Value} (hf : P.funcs[f]? = some fn) (hb : fn.body = none) (hname : fn.name ≠ "runtime.NumGoroutine")
    (h : Extern.findNext fn = none ∧ Extern.find fn = some e) {args : Array Value} {w w' : World} {x : Value} (he : (e args).run P w = .ok x w') :
    (callFunc f args).run P w = .ok (.value x) w' := by
  rw [run_callFunc_extern hf (by simpa using hname) (by simp [hb]) h.1 h.2, he]
  rfl
end
end Go.Ab
