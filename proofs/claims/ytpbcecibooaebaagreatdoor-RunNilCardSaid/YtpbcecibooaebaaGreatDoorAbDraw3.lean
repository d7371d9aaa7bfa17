/-
  Regions that draw: what is surely ahead of what.
-/
import Derived.Test.YtpbcecibooaebaaGreatDoorAbDraw2
namespace Go.Ab
open Go

theorem inner_bits (g : Nat → Nat) : ∀ (l : List Edge) (s i : Nat), (l.foldl (fun s e => if Region.binds .any e then s ||| 2 ^ e.on ||| g e.on else s) s).testBit i =
    (s.testBit i || l.any fun e => Region.binds .any e && (decide (e.on = i) || (g e.on).testBit i)) := by
  intro l
  induction l with
  | nil => intro s i; simp
  | cons e l ih =>
    intro s i
    simp only [List.foldl_cons, List.any_cons]
    rw [ih]
    cases hb : Region.binds .any e
    · simp
    · simp only [if_true, Nat.testBit_or, Nat.testBit_two_pow, Bool.true_and, Bool.or_assoc]

def step1 (acc : Array Nat) (o : Oper) : Array Nat :=
  acc.push (o.after.foldl (fun s e => if Region.binds .any e then s ||| 2 ^ e.on ||| acc.getD e.on 0 else s) 0)

theorem before_fold : ∀ (os : List Oper) (acc : Array Nat), (∀ (j : Nat), j < acc.size → (os.foldl step1 acc)[j]? = acc[j]?) ∧ (os.foldl step1 acc).size = acc.size + os.length ∧
    ∀ (k : Nat) o, os[k]? = some o → (∀ e ∈ o.after.toList, Region.binds .any e = true → e.on < acc.size + k) → ∀ i, ((os.foldl step1 acc).getD (acc.size + k) 0).testBit i =
      o.after.toList.any fun e => Region.binds .any e && (decide (e.on = i) || ((os.foldl step1 acc).getD e.on 0).testBit i) := by
  intro os
  induction os with
  | nil => intro acc; exact ⟨fun _ _ => rfl, rfl, fun k o h => by simp at h⟩
  | cons o os ih =>
    intro acc
    have hsz : (step1 acc o).size = acc.size + 1 := by simp [step1]
    obtain ⟨h1, h2, h3⟩ := ih (step1 acc o)
    have old : ∀ j, j < acc.size → (step1 acc o)[j]? = acc[j]? := by
      intro j hj
      unfold step1
      rw [Array.getElem?_push, if_neg (by omega)]
    refine ⟨fun j hj => ?_, ?_, ?_⟩
    · rw [List.foldl_cons, h1 j (by omega), old j hj]
    · rw [List.foldl_cons, h2, hsz, List.length_cons]; omega
    · intro k p hp he i
      rw [List.foldl_cons]
      cases k with
      | zero =>
        have : o = p := by simpa using hp
        subst this
        have hget : (os.foldl step1 (step1 acc o)).getD acc.size 0 = o.after.toList.foldl (fun s e => if Region.binds .any e then s ||| 2 ^ e.on ||| acc.getD e.on 0 else s) 0 := by
          rw [Array.getD_eq_getD_getElem?, h1 acc.size (by omega)]
          unfold step1
          rw [Array.getElem?_push, if_pos rfl, ← Array.foldl_toList]
          rfl
        rw [Nat.add_zero, hget, inner_bits (fun n => acc.getD n 0)]
        simp only [Nat.zero_testBit, Bool.false_or]
        rw [Bool.eq_iff_iff, List.any_eq_true, List.any_eq_true]
        have key : ∀ e ∈ o.after.toList, Region.binds .any e = true → acc.getD e.on 0 = (os.foldl step1 (step1 acc o)).getD e.on 0 := by
          intro e hm hb
          have := he e hm hb
          rw [Array.getD_eq_getD_getElem?, Array.getD_eq_getD_getElem?, h1 e.on (by omega), old e.on (by omega)]
        constructor
        · rintro ⟨e, hm, hx⟩
          refine ⟨e, hm, ?_⟩
          simp only [Bool.and_eq_true] at hx ⊢
          rw [← key e hm hx.1]; exact hx
        · rintro ⟨e, hm, hx⟩
          refine ⟨e, hm, ?_⟩
          simp only [Bool.and_eq_true] at hx ⊢
          rw [key e hm hx.1]; exact hx
      | succ k =>
        have := h3 k p (by simpa using hp) (fun e hm hb => by have := he e hm hb; omega) i
        rw [hsz, show acc.size + 1 + k = acc.size + (k + 1) by omega] at this
        exact this

/-- what is surely ahead -/
theorem bitAt_spec {ops : Array Oper} (he : edgesOk ops.toList.zipIdx = true) {j i : Nat} (h : bitAt (Region.before ops).toList j i = true) :
    ∃ o, ops[j]? = some o ∧ ∃ e ∈ o.after.toList, Region.binds .any e = true ∧ e.on < j ∧ (e.on = i ∨ bitAt (Region.before ops).toList e.on i = true) := by
  have hb : Region.before ops = ops.toList.foldl step1 #[] := by
    unfold Region.before
    rw [← Array.foldl_toList]
    rfl
  obtain ⟨h1, h2, h3⟩ := before_fold ops.toList #[]
  rw [← hb] at h2 h3
  unfold bitAt at h
  have get : ∀ k, (Region.before ops).toList.getD k 0 = (Region.before ops).getD k 0 := by
    intro k
    rw [Array.getD_eq_getD_getElem?, List.getD_eq_getElem?_getD, Array.getElem?_toList]
  rw [get] at h
  have hlt : j < ops.size := by
    rcases Nat.lt_or_ge j ops.size with q | q
    · exact q
    · rw [Array.getD_eq_getD_getElem?, Array.getElem?_eq_none (by rw [h2]; simpa using q)] at h
      simp at h
  have ho : ops[j]? = some ops[j] := by simp [hlt]
  have hedge : ∀ e ∈ ops[j].after.toList, Region.binds .any e = true → e.on < j := by
    intro e hm hbn
    have := List.all_eq_true.1 he (ops[j], j) (by
      rw [List.mem_zipIdx_iff_getElem?]; simp [hlt])
    have := List.all_eq_true.1 this e hm
    simp only [hbn, Bool.not_true, Bool.false_or, Nat.blt_eq] at this
    exact this
  have := h3 j ops[j] (by simp) (by simpa using hedge) i
  rw [show (#[] : Array Nat).size + j = j by simp, h] at this
  obtain ⟨e, hm, hx⟩ := List.any_eq_true.1 this.symm
  simp only [Bool.and_eq_true, Bool.or_eq_true, decide_eq_true_eq] at hx
  refine ⟨_, ho, e, hm, hx.1, hedge e hm hx.1, hx.2.imp id (fun q => ?_)⟩
  unfold bitAt
  rw [get]; exact q
end Go.Ab
