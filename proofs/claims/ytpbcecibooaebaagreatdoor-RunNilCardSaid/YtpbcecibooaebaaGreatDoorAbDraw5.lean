/-
  Regions that draw: an invariant of all orders.
-/
import Derived.Test.YtpbcecibooaebaaGreatDoorAbDraw4
namespace Go.Ab
open Go

variable {ops : Array Oper}

def undone (n : Nat) (listed : Array Bool) : Nat := (List.range n).countP fun j => !listed.getD j false

theorem countP_lt {p q : Nat → Bool} : ∀ {l : List Nat} {j : Nat}, j ∈ l → (∀ i ∈ l, q i = true → p i = true) → p j = true → q j = false → l.countP q < l.countP p := by
  intro l
  induction l with
  | nil => intro j h; simp at h
  | cons x l ih =>
    intro j hj hqp hp hq
    have le : l.countP q ≤ l.countP p := List.countP_mono_left (fun i hi => hqp i (List.mem_cons_of_mem _ hi))
    rw [List.countP_cons, List.countP_cons]
    rcases List.mem_cons.1 hj with rfl | hj
    · rw [hp, hq]; simp; omega
    · have := ih hj (fun i hi => hqp i (List.mem_cons_of_mem _ hi)) hp hq
      have h1 := hqp x (List.mem_cons_self ..)
      cases hx : q x
      · simp; omega
      · rw [h1 hx]; simp; omega

theorem undone_step {listed : Array Bool} {j : Nat} (hs : listed.size = ops.size) (h : j ∈ Region.ready .any ops listed) :
    undone ops.size (listed.setIfInBounds j true) < undone ops.size listed := by
  obtain ⟨o, h1, h2, _⟩ := ready_spec h
  have hlt : j < ops.size := lt_of_some h1
  have hjl : j < listed.size := by rw [hs]; exact hlt
  refine countP_lt (j := j) (by simp [hlt]) (fun i _ hi => ?_) ?_ ?_
  · rw [getD_set hjl] at hi
    simp only [Bool.not_or, Bool.and_eq_true] at hi
    exact hi.2
  · have : listed.getD j false = false := by
      simp [Array.getD_eq_getD_getElem?, hjl] at h2 ⊢
      exact h2
    rw [this]; rfl
  · rw [getD_set hjl]; simp

theorem ready_none {listed : Array Bool} (hs : listed.size = ops.size) (h : undone ops.size listed = 0) : Region.ready .any ops listed = [] := by
  cases hr : Region.ready .any ops listed with
  | nil => rfl
  | cons j l =>
    have := undone_step hs (j := j) (by rw [hr]; exact List.mem_cons_self ..)
    omega

/-- an invariant that each operation keeps, in whatever order they come -/
theorem any_order {P : Program} {F : Fence} {n : Nat} {Q : Exit → Act → World → Prop} (he : edgesOk ops.toList.zipIdx = true) (Inv : Array Bool → Act → World → Prop)
    (step : ∀ listed a w, listed.size = ops.size → Closed (Region.before ops).toList listed → Inv listed a w → ∀ j ∈ Region.ready .any ops listed, ∀ K : Act → World → Prop,
      (∀ a' w', Inv (listed.setIfInBounds j true) a' w' → K a' w') → wpOpIn F n P ops Q j K a w)
    (fin : ∀ listed a w, (∀ j, j < ops.size → listed.getD j false = true) → Inv listed a w → Q .normal a w) :
    ∀ fuel listed a w, listed.size = ops.size → Closed (Region.before ops).toList listed → undone ops.size listed ≤ fuel → Inv listed a w → wpAnyIn F n P .any ops Q fuel listed a w := by
  intro fuel
  induction fuel with
  | zero =>
    intro listed a w hs hc hu hi
    have hr := ready_none hs (by omega)
    exact ⟨hr, fin listed a w (all_done he hs hr) hi⟩
  | succ fuel ih =>
    intro listed a w hs hc hu hi
    refine ⟨fun hr => fin listed a w (all_done he hs hr) hi, fun j hj => ?_⟩
    refine step listed a w hs hc hi j hj _ (fun a' w' hi' => ?_)
    have := undone_step hs hj
    exact ih _ a' w' (by simpa using hs) (hc.step he hs hj) (by omega) hi'

theorem closed_start (b : List Nat) (n : Nat) : Closed b (Array.replicate n false) := by
  intro j i h
  rw [Array.getD_eq_getD_getElem?, Array.getElem?_replicate] at h
  split at h <;> simp at h
end Go.Ab
