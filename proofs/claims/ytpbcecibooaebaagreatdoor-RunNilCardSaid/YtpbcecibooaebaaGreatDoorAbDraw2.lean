/-
  Regions that draw: readings that float.
-/
import Derived.Test.YtpbcecibooaebaaGreatDoorAbDraw1
namespace Go.Ab
open Go

mutual
theorem same_eq : ∀ (a b : AV), a.same b = true → a = b
  | .int k n, b, h => by
    cases b <;> simp only [AV.same, Bool.false_eq_true, Bool.and_eq_true] at h
    obtain ⟨h1, h2⟩ := h
    rw [sameK_iff.1 h1, show n = _ by simpa using h2]
  | .bool x, b, h => by
    cases b <;> simp only [AV.same, Bool.false_eq_true] at h
    rename_i y
    cases x <;> cases y <;> simp at h <;> rfl
  | .str s, b, h => by
    cases b <;> simp only [AV.same, Bool.false_eq_true, eqB_eq, beq_iff_eq] at h
    rw [h]
  | .nilp, b, h => by cases b <;> simp only [AV.same, Bool.false_eq_true] at h; rfl
  | .ptr x o, b, h => by
    cases b <;> simp only [AV.same, Bool.false_eq_true, Bool.and_eq_true, eqN_eq, decide_eq_true_eq] at h
    rw [h.1, h.2]
  | .nils, b, h => by cases b <;> simp only [AV.same, Bool.false_eq_true] at h; rfl
  | .emp, b, h => by cases b <;> simp [AV.same] at h
  | .slice x o l c e s, b, h => by
    cases b <;> simp only [AV.same, Bool.false_eq_true, Bool.and_eq_true, eqN_eq, decide_eq_true_eq] at h
    rename_i x' o' l' c' e' s'
    obtain ⟨⟨⟨⟨⟨h1, h2⟩, h3⟩, h4⟩, h5⟩, h6⟩ := h
    have : e = e' := by cases e <;> cases e' <;> simp at h5 <;> rfl
    rw [h1, h2, h3, h4, this, h6]
  | .fn .., b, h => by cases b <;> simp [AV.same] at h
  | .yield .., b, h => by cases b <;> simp [AV.same] at h
  | .nilf, b, h => by cases b <;> simp only [AV.same, Bool.false_eq_true] at h; rfl
  | .iface .., b, h => by cases b <;> simp [AV.same] at h
  | .nili, b, h => by cases b <;> simp only [AV.same, Bool.false_eq_true] at h; rfl
  | .agg xs, b, h => by
    cases b <;> simp only [AV.same, Bool.false_eq_true] at h
    rw [sames_eq xs _ h]
  | .tup xs, b, h => by
    cases b <;> simp only [AV.same, Bool.false_eq_true] at h
    rw [sames_eq xs _ h]
  | .any, b, h => by cases b <;> simp [AV.same] at h
  | .res _ _ _, b, h => by cases b <;> simp [AV.same] at h
  | .mapv _, b, h => by cases b <;> simp [AV.same] at h
  | .nilm, b, h => by cases b <;> simp [AV.same] at h
  | .ext i, b, h => by
    cases b <;> simp only [AV.same, Bool.false_eq_true, eqN_eq, decide_eq_true_eq] at h
    rw [h]
theorem sames_eq : ∀ (a b : List AV), AV.same.sames a b = true → a = b
  | [], [], _ => rfl
  | [], _ :: _, h => by simp [AV.same.sames] at h
  | _ :: _, [], h => by simp [AV.same.sames] at h
  | x :: xs, y :: ys, h => by
    simp only [AV.same.sames, Bool.and_eq_true] at h
    rw [same_eq x y h.1, sames_eq xs ys h.2]
end

theorem holdsAt_spec {l : Ld} : ∀ {hs : List AH} {k : Nat}, holdsAt l hs k = true → ∀ (i : Nat) h, hs[i]? = some h → l.lo ≤ k + i → k + i ≤ l.hi → l.f h = some l.v := by
  intro hs
  induction hs with
  | nil => intro k _ i h hi; simp at hi
  | cons h0 hs ih =>
    intro k hk i h hi h1 h2
    have e : holdsAt l (h0 :: hs) k = match leN l.lo k, leN k l.hi with
      | true, true => match l.f h0 with
        | some v => match v.same l.v with
          | true => withN (k + 1) (holdsAt l hs)
          | false => false
        | none => false
      | _, _ => withN (k + 1) (holdsAt l hs) := rfl
    rw [e] at hk
    simp only [withN_eq] at hk
    have rest : holdsAt l hs (k + 1) = true := by
      split at hk
      · split at hk <;> first | (simp at hk; done) | skip
        split at hk <;> first | (simp at hk; done) | exact hk
      · exact hk
    cases i with
    | zero =>
      simp only [List.getElem?_cons_zero, Option.some.injEq] at hi
      subst hi
      rw [show leN l.lo k = true by simpa using h1, show leN k l.hi = true by simpa using h2] at hk
      simp only at hk
      split at hk <;> first | (simp at hk; done) | skip
      rename_i v hv
      split at hk <;> first | (simp at hk; done) | skip
      rename_i hs
      rw [hv, same_eq v _ hs]
    | succ i => exact ih rest i h (by simpa using hi) (by omega) (by omega)

theorem allHold_spec {hs : List AH} : ∀ {ls : List Ld}, allHold ls hs = true → ∀ l ∈ ls, holdsAt l hs 0 = true := by
  intro ls
  induction ls with
  | nil => intro _ l hl; simp at hl
  | cons a ls ih =>
    intro h l hl
    have e : allHold (a :: ls) hs = match holdsAt a hs 0 with
      | true => allHold ls hs
      | false => false := rfl
    rw [e] at h
    split at h <;> first | (simp at h; done) | skip
    rename_i ha
    rcases List.mem_cons.1 hl with rfl | hl
    · exact ha
    · exact ih h l hl
end Go.Ab
