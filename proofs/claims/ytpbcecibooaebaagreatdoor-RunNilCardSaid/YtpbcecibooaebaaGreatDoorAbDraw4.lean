/-
  Regions that draw: what has been done is closed.
-/
import Derived.Test.YtpbcecibooaebaaGreatDoorAbDraw3
namespace Go.Ab
open Go

/-- with each operation that has been done, all that is surely ahead of it has been done -/
def Closed (b : List Nat) (listed : Array Bool) : Prop := ∀ j i, listed.getD j false = true → bitAt b j i = true → listed.getD i false = true

theorem getD_set {listed : Array Bool} {j : Nat} (hj : j < listed.size) (i : Nat) : (listed.setIfInBounds j true).getD i false = (decide (j = i) || listed.getD i false) := by
  rw [Array.getD_eq_getD_getElem?, Array.getD_eq_getD_getElem?, Array.getElem?_setIfInBounds]
  by_cases h : j = i
  · subst h; simp [hj]
  · simp [h]

variable {ops : Array Oper}

theorem ready_spec {listed : Array Bool} {j : Nat} (h : j ∈ Region.ready .any ops listed) :
    ∃ o, ops[j]? = some o ∧ listed.getD j true = false ∧ ∀ e ∈ o.after.toList, Region.binds .any e = true → listed.getD e.on false = true := by
  obtain ⟨h1, o, h2, h3⟩ := mem_ready.1 h
  exact ⟨o, h2, h1, fun e he hb => h3 e (by simpa using he) hb⟩

/-- what is surely ahead of an operation that may come next has been done -/
theorem ready_ahead (he : edgesOk ops.toList.zipIdx = true) {listed : Array Bool} (hc : Closed (Region.before ops).toList listed) {j : Nat} (h : j ∈ Region.ready .any ops listed) {i : Nat}
    (hb : bitAt (Region.before ops).toList j i = true) : listed.getD i false = true := by
  obtain ⟨o, h1, _, h2⟩ := ready_spec h
  obtain ⟨o', g1, e, g2, g3, _, g4⟩ := bitAt_spec he hb
  rw [h1] at g1; cases g1
  have := h2 e g2 g3
  rcases g4 with rfl | g4
  · exact this
  · exact hc _ _ this g4

theorem Closed.step (he : edgesOk ops.toList.zipIdx = true) {listed : Array Bool} (hs : listed.size = ops.size) (hc : Closed (Region.before ops).toList listed) {j : Nat}
    (h : j ∈ Region.ready .any ops listed) : Closed (Region.before ops).toList (listed.setIfInBounds j true) := by
  obtain ⟨o, h1, _, _⟩ := ready_spec h
  have hlt : j < listed.size := by rw [hs]; exact lt_of_some h1
  intro k i hk hb
  rw [getD_set hlt] at hk ⊢
  simp only [Bool.or_eq_true, decide_eq_true_eq] at hk ⊢
  rcases hk with rfl | hk
  · exact .inr (ready_ahead he hc h hb)
  · exact .inr (hc k i hk hb)

/-- when nothing may come next, all has been done -/
theorem all_done (he : edgesOk ops.toList.zipIdx = true) {listed : Array Bool} (hs : listed.size = ops.size) (h : Region.ready .any ops listed = []) :
    ∀ j, j < ops.size → listed.getD j false = true := by
  intro j
  induction j using Nat.strongRecOn with
  | _ j ih =>
    intro hj
    cases hd : listed.getD j false with
    | true => rfl
    | false =>
      exfalso
      have hm : j ∈ Region.ready .any ops listed := by
        refine mem_ready.2 ⟨?_, ops[j], by simp [hj], fun e hem hb => ?_⟩
        · have hlt : j < listed.size := by rw [hs]; exact hj
          simp [Array.getD_eq_getD_getElem?, hlt] at hd ⊢
          exact hd
        · have := List.all_eq_true.1 he (ops[j], j) (by rw [List.mem_zipIdx_iff_getElem?]; simp [hj])
          have := List.all_eq_true.1 this e (by simpa using hem)
          simp only [hb, Bool.not_true, Bool.false_or, Nat.blt_eq] at this
          exact ih e.on this (by omega)
      rw [h] at hm
      simp at hm
end Go.Ab
